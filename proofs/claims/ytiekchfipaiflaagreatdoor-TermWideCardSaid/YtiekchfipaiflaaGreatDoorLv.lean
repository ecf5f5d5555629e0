/- Paths through code without loops. -/
import Derived.Test.YtiekchfipaiflaaGreatDoorLu
namespace Go.Proofs.YtiekchfipaiflaaGreatDoor
open Go

inductive Ex
  | nrm
  | ext (id : Nat)
  | ret

def Ex.to : Ex → Exit
  | .nrm => .normal
  | .ext id => .exit id
  | .ret => .ret

inductive PAnn (P : Program) (G : Glob) : Type 1
  | reg (l : List (RAnn P G))
  | br (b : Bool)
  | weak (id : Nat) (b : Blk)
  | un (n : Nat)

def weakB (st : PSt) (id : Nat) (b : Blk) : Option PSt :=
  match st.H id with
  | some b0 => match Nat.beq b.size b0.size with
    | true => some { st with S := st.S ++ [(cellsOf b, zipW1 (cellsOf b) (cellsOf b0))], H := upd st.H id (some b) }
    | false => none
  | none => none

theorem weakB_ok {ρ : Mem} {σ : Sig} {D : Nat → Prop} {F : Fr} {w : World} {st st' : PSt} {id : Nat} {b : Blk} (h : weakB st id b = some st') (hS : allS st'.S) (hH : HInv ρ σ D st.H F w) :
    HInv ρ σ D st'.H F w ∧ st'.C = st.C ∧ allS st.S ∧ st'.T = st.T ∧ st'.env = st.env ∧ st'.N = st.N := by
  unfold weakB at h
  split at h
  · rename_i b0 hb0
    split at h
    · rename_i hsz
      cases h
      obtain ⟨hS1, hS2⟩ := allS_append hS
      exact ⟨HInv.weak hH hb0 (Nat.eq_of_beq_eq_true hsz) hS2.1, rfl, hS1, rfl, rfl, rfl⟩
    · cases h
  · cases h

def regionRun {P : Program} {G : Glob} (ops : Array Oper) (draw : Bool) (n : Nat) (l : List (RAnn P G)) (st : PSt) : Option PSt :=
  match dstsLow n ops.toList with
  | false => none
  | true => match draw with
    | false => runR ops.toList ops.toList l st
    | true => match runI ops.toList ops.toList l st with
      | some (items, st') => match allLow 0 ops.toList && pairs (masks ops.toList []) [] 0 items with
        | true => some st'
        | false => none
      | none => none

def runP {P : Program} {G : Glob} (n : Nat) : Code → List (PAnn P G) → PSt → Option (Ex × List (PAnn P G) × PSt)
  | .skip, an, st => some (.nrm, an, st)
  | .label _, an, st => some (.nrm, an, st)
  | .region _ ops draw, an, st => match an with
    | .reg l :: r => match regionRun ops draw n l st with
      | some st' => some (.nrm, r, st')
      | none => none
    | _ => none
  | .seq a b, an, st => match runP n a an st with
    | some (.nrm, an', st') => runP n b an' st'
    | r => r
  | .cond c t e, an, st => match an with
    | .br x :: r => match evO G (look st.env) c with
      | .b y => match x with
        | true => runP n t r { st with C := st.C ++ (guardC none (look st.env) [c] ++ [y = true]) }
        | false => runP n e r { st with C := st.C ++ (guardC none (look st.env) [c] ++ [y = false]) }
      | _ => none
    | _ => none
  | .block id b, an, st => match runP n b an st with
    | some (.ext i, an', st') => match Nat.beq i id with
      | true => some (.nrm, an', st')
      | false => some (.ext i, an', st')
    | r => r
  | .exit id, an, st => some (.ext id, an, st)
  | .ret, an, st => some (.ret, an, st)
  | _, _, _ => none

def Holds (st : PSt) : Prop := allP st.C ∧ allS st.S ∧ allT st.T

theorem regionRun_mono {P : Program} {G : Glob} {ops : Array Oper} {draw n} {l : List (RAnn P G)} {st st' : PSt} (h : regionRun ops draw n l st = some st') : Holds st' → Holds st := by
  unfold regionRun at h
  split at h
  · cases h
  · split at h
    · obtain ⟨h1, h2, h3⟩ := runR_mono _ _ _ _ h
      exact fun ⟨a, b, c⟩ => ⟨h1 a, h2 b, h3 c⟩
    · split at h
      · rename_i items st'' hr
        split at h
        · cases h
          obtain ⟨_, _, ⟨h1, h2, h3⟩, _⟩ := runI_ok _ _ _ _ _ 0 hr
          exact fun ⟨a, b, c⟩ => ⟨h1 a, h2 b, h3 c⟩
        · cases h
      · cases h

theorem runP_mono {P : Program} {G : Glob} {n : Nat} : ∀ (c : Code) (an : List (PAnn P G)) (st : PSt) (ex : Ex) (an' : List (PAnn P G)) (st' : PSt), runP n c an st = some (ex, an', st') → Holds st' → Holds st := by
  intro c
  induction c with
  | skip => intro an st ex an' st' h; cases h; exact id
  | label => intro an st ex an' st' h; cases h; exact id
  | exit => intro an st ex an' st' h; cases h; exact id
  | ret => intro an st ex an' st' h; cases h; exact id
  | region rid ops draw =>
    intro an st ex an' st' h
    simp only [runP] at h
    split at h
    · split at h
      · rename_i hr; cases h; exact regionRun_mono hr
      · cases h
    · cases h
  | seq a b iha ihb =>
    intro an st ex an' st' h
    simp only [runP] at h
    split at h
    · rename_i an1 st1 h1
      exact fun hh => iha _ _ _ _ _ h1 (ihb _ _ _ _ _ h hh)
    · exact iha _ _ _ _ _ h
  | cond c t e iht ihe =>
    intro an st ex an' st' h
    simp only [runP] at h
    split at h
    · split at h
      · split at h
        · exact fun hh => let ⟨a, b, c⟩ := iht _ _ _ _ _ h hh; ⟨(allP_append a).1, b, c⟩
        · exact fun hh => let ⟨a, b, c⟩ := ihe _ _ _ _ _ h hh; ⟨(allP_append a).1, b, c⟩
      · cases h
    · cases h
  | block id b ih =>
    intro an st ex an' st' h
    simp only [runP] at h
    split at h
    · rename_i i an1 st1 h1
      split at h
      · cases h; exact ih _ _ _ _ _ h1
      · cases h; exact ih _ _ _ _ _ h1
    · exact ih _ _ _ _ _ h
  | _ => intro an st ex an' st' h; simp [runP] at h

section
variable {P : Program} {G : Glob} {ρ0 : Mem} {σ0 : Sig} {F : Fr} {n : Nat}

theorem regionRun_ok (hm : P.follows .mixedOrders = true) {rid} {ops : Array Oper} {draw} {l : List (RAnn P G)} {st st' : PSt} (h : regionRun ops draw n l st = some st') (hh : Holds st') {ρ σ a w} {Q : Exit → Act → World → Prop}
    (hρ : leR F ρ0 ρ) (hσ : leS σ0 σ) (hB : Bears G ρ σ F n (look st.env) st.H st.N a w)
    (hQ : ∀ ρ' σ' a' w', leR F ρ0 ρ' → leS σ0 σ' → a'.defers = a.defers → Bears G ρ' σ' F n (look st'.env) st'.H st'.N a' w' → Q .normal a' w') : (Code.region rid ops draw).wp P Q a w := by
  obtain ⟨hC, hS, hT⟩ := hh
  unfold regionRun at h
  split at h
  · cases h
  · rename_i hd
    have hdst := dstsLow_ok hd
    split at h
    · refine wp_region ?_
      have := runR_ok (Q := Q) (ρ0 := ρ0) (σ0 := σ0) (F := F) hdst ops.toList 0 l st st' ρ σ a w rfl h hC hS hT hρ hσ hB hQ
      rw [List.range_eq_range']
      simpa using this
    · split at h
      · rename_i items st'' hr
        split at h
        · rename_i hp
          cases h
          simp only [Bool.and_eq_true] at hp
          refine wp_region_any hm ?_
          refine drawAny (ρ0 := ρ0) (σ0 := σ0) (F := F) (dfs := a.defers) hdst hr hp.2 hp.1 hC hS hT hQ ops.size (Array.replicate ops.size false) a _ (by simp) ?_ ?_ ⟨⟨ρ, σ, hρ, hσ, hB.gr, ?_, ?_⟩, rfl⟩
          · simp only [Array.toList_replicate, unl]
            exact Nat.le_trans List.countP_le_length (by simp)
          · intro j o _ hj
            unfold selOf at hj
            simp [Array.getD] at hj
          · refine hB.env.congr fun t => ?_
            exact selA_none actE touchE actE_a items _ 0 _ t (fun i it _ hs => by simp [selOf, Array.getD] at hs)
          · have e : selA actH items (selOf (Array.replicate ops.size false)) 0 st.H = st.H := by
              funext t
              exact selA_none actH touchH actH_a items _ 0 _ t (fun i it _ hs => by simp [selOf, Array.getD] at hs)
            rw [e]
            exact HInv.wider (D' := fun i => i < st.N ∨ ∃ k it, items[k]? = some it ∧ selOf (Array.replicate ops.size false) k = true ∧ i ∈ it.r.wr.map (·.1)) (hB.inv.world (w' := { w with drawn := w.drawn + 1 }) ⟨rfl, rfl⟩ (fun _ _ => rfl)) (fun i hi => Or.inl hi)
        · cases h
      · cases h

theorem runP_ok (hm : P.follows .mixedOrders = true) : ∀ (c : Code) (an : List (PAnn P G)) (st : PSt) (ex : Ex) (an' : List (PAnn P G)) (st' : PSt), runP n c an st = some (ex, an', st') → Holds st' →
    ∀ (ρ : Mem) (σ : Sig) (a : Act) (w : World) (Q : Exit → Act → World → Prop), leR F ρ0 ρ → leS σ0 σ → Bears G ρ σ F n (look st.env) st.H st.N a w →
    (∀ ρ' σ' a' w', leR F ρ0 ρ' → leS σ0 σ' → a'.defers = a.defers → Bears G ρ' σ' F n (look st'.env) st'.H st'.N a' w' → Q ex.to a' w') → c.wp P Q a w := by
  intro c
  induction c with
  | skip => intro an st ex an' st' h _ ρ σ a w Q hρ hσ hB hQ; cases h; exact wp_skip (hQ ρ σ a w hρ hσ rfl hB)
  | label => intro an st ex an' st' h _ ρ σ a w Q hρ hσ hB hQ; cases h; exact wp_label (hQ ρ σ a w hρ hσ rfl hB)
  | exit => intro an st ex an' st' h _ ρ σ a w Q hρ hσ hB hQ; cases h; exact wp_exit (hQ ρ σ a w hρ hσ rfl hB)
  | ret => intro an st ex an' st' h _ ρ σ a w Q hρ hσ hB hQ; cases h; exact wp_ret (hQ ρ σ a w hρ hσ rfl hB)
  | region rid ops draw =>
    intro an st ex an' st' h hh ρ σ a w Q hρ hσ hB hQ
    simp only [runP] at h
    split at h
    · split at h
      · rename_i hr; cases h; exact regionRun_ok hm hr hh hρ hσ hB hQ
      · cases h
    · cases h
  | seq x y iha ihb =>
    intro an st ex an' st' h hh ρ σ a w Q hρ hσ hB hQ
    simp only [runP] at h
    refine wp_seq ?_
    split at h
    · rename_i an1 st1 h1
      have hh1 := runP_mono _ _ _ _ _ _ h hh
      refine iha _ _ _ _ _ h1 hh1 ρ σ a w _ hρ hσ hB fun ρ' σ' a' w' g1 g2 g3 g4 => ?_
      exact ihb _ _ _ _ _ h hh ρ' σ' a' w' Q g1 g2 g4 fun ρ'' σ'' a'' w'' k1 k2 k3 k4 => hQ ρ'' σ'' a'' w'' k1 k2 (k3.trans g3) k4
    · rename_i hne
      refine iha _ _ _ _ _ h hh ρ σ a w _ hρ hσ hB fun ρ' σ' a' w' g1 g2 g3 g4 => ?_
      cases ex with
      | nrm => exact absurd h (hne _ _)
      | ext i => exact hQ ρ' σ' a' w' g1 g2 g3 g4
      | ret => exact hQ ρ' σ' a' w' g1 g2 g3 g4
  | cond c t e iht ihe =>
    intro an st ex an' st' h hh ρ σ a w Q hρ hσ hB hQ
    simp only [runP] at h
    split at h
    · split at h
      · rename_i y hy
        have key : ∀ (b : Bool), allP (st.C ++ (guardC none (look st.env) [c] ++ [y = b])) → a.eval c = .bool b := by
          intro b hb
          obtain ⟨_, h2⟩ := allP_append hb
          obtain ⟨h3, h4⟩ := allP_append h2
          have := operands_ok (a := a) (xs := [c]) hB.gr hB.env h3 (fun b hb => by cases hb) c (by simp)
          rw [hy] at this
          have hyb : y = b := h4.1
          generalize a.eval c = v at this ⊢
          cases this
          rw [hyb]
        split at h
        · have hh1 := runP_mono _ _ _ _ _ _ h hh
          exact wp_cond_true (key true hh1.1) (iht _ _ _ _ _ h hh ρ σ a w Q hρ hσ hB hQ)
        · have hh1 := runP_mono _ _ _ _ _ _ h hh
          exact wp_cond_false (key false hh1.1) (ihe _ _ _ _ _ h hh ρ σ a w Q hρ hσ hB hQ)
      · cases h
    · cases h
  | block id b ih =>
    intro an st ex an' st' h hh ρ σ a w Q hρ hσ hB hQ
    simp only [runP] at h
    refine wp_block ?_
    split at h
    · rename_i i an1 st1 h1
      split at h
      · rename_i hi
        cases h
        refine ih _ _ _ _ _ h1 hh ρ σ a w _ hρ hσ hB fun ρ' σ' a' w' g1 g2 g3 g4 => ?_
        have : i = id := Nat.eq_of_beq_eq_true hi
        simp only [Ex.to, Exit.inBlock, this, if_true]
        exact hQ ρ' σ' a' w' g1 g2 g3 g4
      · rename_i hi
        cases h
        refine ih _ _ _ _ _ h1 hh ρ σ a w _ hρ hσ hB fun ρ' σ' a' w' g1 g2 g3 g4 => ?_
        have : i ≠ id := Nat.ne_of_beq_eq_false hi
        simp only [Ex.to, Exit.inBlock, this, if_false]
        exact hQ ρ' σ' a' w' g1 g2 g3 g4
    · rename_i hne
      refine ih _ _ _ _ _ h hh ρ σ a w _ hρ hσ hB fun ρ' σ' a' w' g1 g2 g3 g4 => ?_
      cases ex with
      | nrm => exact hQ ρ' σ' a' w' g1 g2 g3 g4
      | ext i => exact absurd h (hne _ _ _)
      | ret => exact hQ ρ' σ' a' w' g1 g2 g3 g4
  | _ => intro an st ex an' st' h; simp [runP] at h

end
end Go.Proofs.YtiekchfipaiflaaGreatDoor
