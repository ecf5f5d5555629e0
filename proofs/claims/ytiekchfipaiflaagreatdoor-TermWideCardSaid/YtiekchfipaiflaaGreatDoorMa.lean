/- Code as a stack of items; a path runs through it up to a cut, a round's end or the function's end. -/
import Derived.Test.YtiekchfipaiflaaGreatDoorLy
import Derived.LoopN
import Derived.LoopNIn
import Derived.OrdersIn
import Derived.TacticsIn
import Derived.RangeFuncRecord
namespace Go.Proofs.YtiekchfipaiflaaGreatDoor
open Go

inductive It
  | code (c : Code)
  | fin (id : Nat)
  | again (I : Act → World → Prop)
  | rnd (n : Nat) (c : Code)

/-- Whatever may be called; a frame of a round of a range over a function, or of none. -/
def FW (ro : Option Nat) : Fence := { Fence.wide with round := ro }
theorem FW_none : FW none = Fence.wide := rfl
theorem FW_round (ro : Option Nat) : (FW ro).round = ro := rfl

def ExK (ro : Option Nat) (P : Program) (Q : Exit → Act → World → Prop) : List It → Exit → Act → World → Prop
  | [] => Q
  | .code c :: k => Exit.then (fun a w => c.wpIn (FW ro) 0 P (ExK ro P Q k) a w) (ExK ro P Q k)
  | .fin id :: k => Exit.inBlock id (ExK ro P Q k)
  | .again I :: k => Exit.then I (ExK ro P Q k)
  | .rnd n c :: k => Exit.then (Code.roundsIn (FW ro) 0 P c (ExK ro P Q k) n) (ExK ro P Q k)

/-! An operation that runs in a frame of its own runs so in a round's. -/
def onlyN (Q : Act → World → Prop) : Exit → Act → World → Prop := fun e a w => e = .normal ∧ Q a w
theorem onlyN_out {Q : Act → World → Prop} : ¬ LetsOut (onlyN Q) := by
  rintro ⟨a, w, h, _⟩; cases h

theorem rows_in {ro : Option Nat} {m : Nat} {P : Program} {row : String} {args : Array Value} {w : World} {R : Value → World → Prop} (h : Rows P row args w R) : RowsIn (FW ro) m P row args w R :=
  fun c cs _ => let ⟨v, w', r, s⟩ := h c cs; ⟨v, w', r, stepsIn_wide.2 s⟩
theorem calls_in {ro : Option Nat} {m : Nat} {P : Program} {f : FuncId} {args : Array Value} {w : World} {R : Ending → World → Prop} (h : Calls P f args w R) : CallsIn (FW ro) m P f args w R :=
  callsIn_wide.2 h

theorem op_in {ro : Option Nat} {m : Nat} {P : Program} {o : Oper} {a : Act} {w : World} {K : Act → World → Prop} {Qn : Act → World → Prop} {Q : Exit → Act → World → Prop} (hd : ∀ c, o.op ≠ .defer c)
    (h : o.wp P a w K (onlyN Qn) ∨ (o.asks P a w ∧ LetsOut (onlyN Qn))) : o.wpIn (FW ro) m P a w K Q := by
  rcases h with h | h
  · refine ⟨fun _ _ => trivial, ?_⟩
    rw [FW_round, Oper.semAt_eq ro a.eval o hd]
    unfold Oper.wp at h
    generalize (execOp a.eval o).run P w = r at h ⊢
    cases r with
    | ok x w' =>
      cases x with
      | enter f args =>
        refine ⟨(fun h => by cases h), calls_in (h.mono ?_)⟩
        intro e w'' he
        cases e with
        | returned v => exact he
        | panicked c => cases he.1
        | outgrown => exact absurd he onlyN_out
      | row row args => exact ⟨(fun h => by cases h), rows_in h⟩
      | round => exact h.elim
      | _ => exact h
    | halt x w' =>
      cases x with
      | panic v => cases h.1
      | _ => exact h.elim
  · exact absurd h.2 onlyN_out

theorem op_val {ro : Option Nat} {m : Nat} {P : Program} {o : Oper} {a : Act} {w w' : World} {K : Act → World → Prop} {Q : Exit → Act → World → Prop} {v : Value} (hd : ∀ c, o.op ≠ .defer c)
    (h : (execOp a.eval o).run P w = .ok (.value v) w') (hK : K (a.put o.dst v) w') : o.wpIn (FW ro) m P a w K Q := by
  refine ⟨fun _ _ => trivial, ?_⟩
  rw [FW_round, Oper.semAt_eq ro a.eval o hd, h, Oper.uponIn_value]
  exact hK

theorem ops_in {ro : Option Nat} {m : Nat} {P : Program} {ops : Array Oper} {Qn : Act → World → Prop} {Q : Exit → Act → World → Prop} (hd : ∀ o ∈ ops.toList, ∀ c, o.op ≠ .defer c) (hQ : ∀ a w, Qn a w → Q .normal a w) :
    ∀ (l : List Nat) (a : Act) (w : World), wpOps P ops (onlyN Qn) l a w → wpOpsIn (FW ro) m P ops Q l a w := by
  intro l; induction l with
  | nil => intro a w h; exact hQ a w h.2
  | cons i l ih =>
    intro a w h
    simp only [wpOps] at h
    simp only [wpOpsIn]
    cases ho : ops[i]? with
    | none => rw [ho] at h; exact ih a w h
    | some o =>
      rw [ho] at h
      simp only at h ⊢
      have hm : o ∈ ops.toList := Array.mem_toList_iff.2 (Array.mem_of_getElem? ho)
      split
      · rename_i hw
        rw [if_pos hw] at h
        exact Oper.wpIn_mono (fun a w h => ih a w h) (op_in (hd o hm) h)
      · rename_i hw
        rw [if_neg hw] at h
        exact ⟨fun _ _ => trivial, ih _ w h⟩

theorem any_in {ro : Option Nat} {m : Nat} {P : Program} {md : Region.Mode} {ops : Array Oper} {Qn : Act → World → Prop} {Q : Exit → Act → World → Prop} (hd : ∀ o ∈ ops.toList, ∀ c, o.op ≠ .defer c) (hQ : ∀ a w, Qn a w → Q .normal a w) :
    ∀ (f : Nat) (l : Array Bool) (a : Act) (w : World), wpAny P md ops (onlyN Qn) f l a w → wpAnyIn (FW ro) m P md ops Q f l a w := by
  intro f; induction f with
  | zero => intro l a w h; exact ⟨h.1, hQ a w h.2.2⟩
  | succ f ih =>
    intro l a w h
    refine ⟨fun hr => hQ a w (h.1 hr).2, fun i hi => ?_⟩
    have h1 := h.2 i hi
    unfold wpOp at h1
    unfold wpOpIn
    cases ho : ops[i]? with
    | none => rw [ho] at h1; exact ih _ a w h1
    | some o =>
      rw [ho] at h1
      simp only at h1 ⊢
      have hm : o ∈ ops.toList := Array.mem_toList_iff.2 (Array.mem_of_getElem? ho)
      split
      · rename_i hw
        rw [if_pos hw] at h1
        exact Oper.wpIn_mono (fun a w h => ih _ a w h) (op_in (hd o hm) h1)
      · rename_i hw
        rw [if_neg hw] at h1
        exact ⟨fun _ _ => trivial, ih _ _ w h1⟩

theorem regionRunIn_ok {P : Program} {G : Glob} {ρ0 : Mem} {σ0 : Sig} {F : Fr} {n : Nat} {ro : Option Nat} (hm : P.follows .mixedOrders = true) {rid} {ops : Array Oper} {draw} {l : List (RAnn P G)} {st st' : PSt} (h : regionRun ops draw n l st = some st') (hh : Holds st') {ρ σ a w} {Q : Exit → Act → World → Prop}
    (hρ : leR F ρ0 ρ) (hσ : leS σ0 σ) (hB : Bears G ρ σ F n (look st.env) st.H st.N a w)
    (hQ : ∀ ρ' σ' a' w', leR F ρ0 ρ' → leS σ0 σ' → a'.defers = a.defers → Bears G ρ' σ' F n (look st'.env) st'.H st'.N a' w' → Q .normal a' w') : (Code.region rid ops draw).wpIn (FW ro) 0 P Q a w := by
  obtain ⟨hC, hS, hT⟩ := hh
  unfold regionRun at h
  split at h
  · cases h
  · rename_i hd
    have hdst := dstsLow_ok hd
    have hnd := noDefer_ok hd
    have hQ0 : ∀ ρ' σ' a' w', leR F ρ0 ρ' → leS σ0 σ' → a'.defers = a.defers → Bears G ρ' σ' F n (look st'.env) st'.H st'.N a' w' → onlyN (Q .normal) .normal a' w' := fun ρ' σ' a' w' g1 g2 g3 g4 => ⟨rfl, hQ ρ' σ' a' w' g1 g2 g3 g4⟩
    split at h
    · refine wpIn_region (ops_in hnd (fun _ _ h => h) _ _ _ ?_)
      have := runR_ok (Q := onlyN (Q .normal)) (ρ0 := ρ0) (σ0 := σ0) (F := F) hdst ops.toList 0 l st st' ρ σ a w rfl h hC hS hT hρ hσ hB hQ0
      rw [List.range_eq_range']
      simpa using this
    · split at h
      · rename_i items st'' hr
        split at h
        · rename_i hp
          cases h
          simp only [Bool.and_eq_true] at hp
          refine wpIn_region_any hm (any_in hnd (fun _ _ h => h) _ _ _ _ ?_)
          refine drawAny (ρ0 := ρ0) (σ0 := σ0) (F := F) (dfs := a.defers) hdst hr hp.2 hp.1 hC hS hT hQ0 ops.size (Array.replicate ops.size false) a _ (by simp) ?_ ?_ ⟨⟨ρ, σ, hρ, hσ, hB.gr, ?_, ?_⟩, rfl⟩
          · simp only [Array.toList_replicate, unl]
            exact Nat.le_trans List.countP_le_length (by simp)
          · intro j o _ hj
            unfold selOf at hj
            simp [Array.getD] at hj
          · refine hB.env.congr fun t => ?_
            exact selA_none actE touchE actE_a items _ 0 _ t (fun i it _ hs => by simp [selOf, Array.getD] at hs)
          · have e : selA actH items (selOf (Array.replicate ops.size false)) 0 st.H = st.H := by
              funext t
              exact selA_none actH touchH actH_a items _ 0 _ t (fun i it _ hs => by simp [selOf, Array.getD] at hs)
            rw [e]
            exact HInv.wider (D' := fun i => i < st.N ∨ ∃ k it, items[k]? = some it ∧ selOf (Array.replicate ops.size false) k = true ∧ i ∈ it.r.wr.map (·.1)) (hB.inv.world (w' := { w with drawn := w.drawn + 1 }) ⟨rfl, rfl⟩ (fun _ _ => rfl)) (fun i hi => Or.inl hi)
        · cases h
      · cases h

theorem wpIn_loop_gh {F : Fence} {n : Nat} {P : Program} {c : Code} {Q : Exit → Act → World → Prop} {a : Act} {w : World} (J : Nat → Act → World → Prop) {m : Nat} (h0 : J m a w)
    (round : ∀ k a w, J k a w → c.wpIn F n P (Exit.then (fun a' w' => ∃ m, m < k ∧ J m a' w') Q) a w) : (Code.loop c).wpIn F n P Q a w := by
  intro b kk cs hro hb hr
  have key : ∀ j a w, J j a w → ∃ e a' w', Q e a' w' ∧ ArrivesIn (Machine.fenced P F) P (lone (b.atR a (.code c :: .inLoop c :: kk)) cs w) b kk cs e a' w' := by
    intro j
    induction j using Nat.strongRecOn with
    | _ j ih =>
      intro a w hI
      obtain ⟨e, a₁, w₁, hq, harr⟩ := round j a w hI b (.inLoop c :: kk) cs hro hb hr
      cases e with
      | normal =>
        obtain ⟨m, hlt, hI₁⟩ := hq
        obtain ⟨e₂, a₂, w₂, hq₂, harr₂⟩ := ih m hlt a₁ w₁ hI₁
        exact ⟨e₂, a₂, w₂, hq₂, .of_steps (StepsIn.trans harr (.one (fenced_calm hb hr rfl) stepR_inLoop)) harr₂⟩
      | exit id => exact ⟨_, a₁, w₁, hq, .pass (x := .inLoop c) rfl (fun _ _ => .inl (by simp)) harr⟩
      | goto l => exact ⟨_, a₁, w₁, hq, .pass (x := .inLoop c) rfl (fun _ _ => .inl (by simp)) harr⟩
      | ret => exact ⟨_, a₁, w₁, hq, .pass (x := .inLoop c) rfl (fun _ _ => .inl (by simp)) harr⟩
      | panic ch => exact ⟨_, a₁, w₁, hq, .pass (x := .inLoop c) rfl (fun _ _ => .inl (by simp)) harr⟩
      | outgrown => exact ⟨_, a₁, w₁, hq, .pass (x := .inLoop c) rfl (fun _ _ => .inl (by simp)) harr⟩
  obtain ⟨e, a', w', hq, harr⟩ := key m a w h0
  exact ⟨e, a', w', hq, .of_steps (.one (fenced_calm hb hr rfl) stepR_loop) harr⟩

def popE (id : Nat) : List It → Option (List It)
  | [] => none
  | .fin j :: k => match Nat.beq j id with
    | true => some k
    | false => popE id k
  | .code _ :: k => popE id k
  | .again _ :: k => popE id k
  | .rnd _ _ :: k => popE id k

theorem ExK_ret {ro P Q} : ∀ (k : List It) {a w}, Q .ret a w → ExK ro P Q k .ret a w := by
  intro k; induction k with
  | nil => intro a w h; exact h
  | cons x k ih =>
    intro a w h
    cases x with
    | code c => exact ih h
    | fin id => exact ih h
    | again I => exact ih h
    | rnd n c => exact ih h

theorem ExK_pop {ro P Q id} : ∀ (k : List It) {k' a w}, popE id k = some k' → ExK ro P Q k' .normal a w → ExK ro P Q k (.exit id) a w := by
  intro k; induction k with
  | nil => intro k' a w h; cases h
  | cons x k ih =>
    intro k' a w h hk
    cases x with
    | code c => exact ih h hk
    | again I => exact ih h hk
    | rnd n c => exact ih h hk
    | fin j =>
      simp only [popE] at h
      split at h
      · rename_i hj
        cases h
        have : j = id := Nat.eq_of_beq_eq_true hj
        subst this
        simp only [ExK, Exit.inBlock, if_true]
        exact hk
      · rename_i hj
        have : id ≠ j := fun e => Nat.ne_of_beq_eq_false hj e.symm
        simp only [ExK, Exit.inBlock, this, if_false]
        exact ih h hk

def weakHead {P : Program} {G : Glob} : List (PAnn P G) → Option (Nat × Blk × List (PAnn P G))
  | .weak id b :: an => some (id, b, an)
  | _ => none

def runM {P : Program} {G : Glob} (n : Nat) : Nat → List It → List (PAnn P G) → PSt → Option (Bool × List It × PSt)
  | 0, _, _, _ => none
  | f + 1, k, an, st => match weakHead an with
   | some (id, b, an) => (match weakB st id b with
    | some st' => runM n f k an st'
    | none => none)
   | none => match k with
    | [] => match an with
      | [] => some (true, [], st)
      | _ => none
    | .again I :: k => match an with
      | [] => some (false, .again I :: k, st)
      | _ => none
    | .fin _ :: k => runM n f k an st
    | .rnd m c :: k => match m with
      | 0 => none
      | m + 1 => runM n f (.code c :: .rnd m c :: k) an st
    | .code c :: k => match c with
      | .skip => runM n f k an st
      | .label _ => runM n f k an st
      | .seq a b => runM n f (.code a :: .code b :: k) an st
      | .block id b => runM n f (.code b :: .fin id :: k) an st
      | .exit id => match popE id k with
        | some k' => runM n f k' an st
        | none => none
      | .ret => match an with
        | [] => some (true, [], st)
        | _ => none
      | .region id ops draw => match an with
        | [] => some (false, .code (.region id ops draw) :: k, st)
        | .reg l :: r => match regionRun ops draw n l st with
          | some st' => runM n f k r st'
          | none => none
        | _ => none
      | .cond c t e => match an with
        | [] => some (false, .code (.cond c t e) :: k, st)
        | .br x :: r => match evO G (look st.env) c with
          | .b y => match x with
            | true => runM n f (.code t :: k) r { st with C := st.C ++ (guardC none (look st.env) [c] ++ [y = true]) }
            | false => runM n f (.code e :: k) r { st with C := st.C ++ (guardC none (look st.env) [c] ++ [y = false]) }
          | _ => none
        | _ => none
      | .loop b => match an with
        | [] => some (false, .code (.loop b) :: k, st)
        | .un m :: r => runM n f (.rnd m b :: k) r st
        | _ => none
      | .rangeFunc g ps as b => match an with
        | [] => some (false, .code (.rangeFunc g ps as b) :: k, st)
        | _ => none
      | _ => none

theorem weakB_mono {st st' : PSt} {id : Nat} {b : Blk} (h : weakB st id b = some st') : Holds st' → Holds st := by
  unfold weakB at h
  split at h
  · split at h
    · cases h
      exact fun ⟨a, b, c⟩ => ⟨a, (allS_append b).1, c⟩
    · cases h
  · cases h

theorem runM_mono {P : Program} {G : Glob} {n : Nat} : ∀ (f : Nat) (k : List It) (an : List (PAnn P G)) (st : PSt) {r k' st'}, runM n f k an st = some (r, k', st') → Holds st' → Holds st := by
  intro f; induction f with
  | zero => intro k an st r k' st' h; cases h
  | succ f ih =>
    intro k an st r k' st' h
    unfold runM at h
    split at h
    · split at h
      · rename_i st1 hw
        intro hh
        have g := ih _ _ _ h hh
        exact weakB_mono hw g
      · cases h
    split at h
    · split at h
      · cases h; exact id
      · cases h
    · split at h
      · cases h; exact id
      · cases h
    · exact ih _ _ _ h
    · split at h
      · cases h
      · exact ih _ _ _ h
    · split at h
      · exact ih _ _ _ h
      · exact ih _ _ _ h
      · exact ih _ _ _ h
      · exact ih _ _ _ h
      · split at h
        · exact ih _ _ _ h
        · cases h
      · split at h
        · cases h; exact id
        · cases h
      · split at h
        · cases h; exact id
        · split at h
          · rename_i hr
            exact fun hh => regionRun_mono hr (ih _ _ _ h hh)
          · cases h
        · cases h
      · split at h
        · cases h; exact id
        · split at h
          · split at h
            · exact fun hh => let ⟨a, b, c⟩ := ih _ _ _ h hh; ⟨(allP_append a).1, b, c⟩
            · exact fun hh => let ⟨a, b, c⟩ := ih _ _ _ h hh; ⟨(allP_append a).1, b, c⟩
          · cases h
        · cases h
      · split at h
        · cases h; exact id
        · exact ih _ _ _ h
        · cases h
      · split at h
        · cases h; exact id
        · cases h
      · cases h

section
variable {P : Program} {G : Glob} {ρ0 : Mem} {σ0 : Sig} {F : Fr} {n : Nat}

def Landed (ro : Option Nat) (P : Program) (Q : Exit → Act → World → Prop) (r : Bool) (k : List It) (a : Act) (w : World) : Prop :=
  match r with
  | true => Q .normal a w ∧ Q .ret a w
  | false => ExK ro P Q k .normal a w

theorem runM_ok {ro : Option Nat} (hm : P.follows .mixedOrders = true) {Q : Exit → Act → World → Prop} : ∀ (f : Nat) (k : List It) (an : List (PAnn P G)) (st : PSt) {r k' st'}, runM n f k an st = some (r, k', st') → Holds st' →
    ∀ (ρ : Mem) (σ : Sig) (a : Act) (w : World), leR F ρ0 ρ → leS σ0 σ → Bears G ρ σ F n (look st.env) st.H st.N a w →
    (∀ ρ' σ' a' w', leR F ρ0 ρ' → leS σ0 σ' → a'.defers = a.defers → Bears G ρ' σ' F n (look st'.env) st'.H st'.N a' w' → Landed ro P Q r k' a' w') → ExK ro P Q k .normal a w := by
  intro f; induction f with
  | zero => intro k an st r k' st' h; cases h
  | succ f ih =>
    intro k an st r k' st' h hh ρ σ a w hρ hσ hB hQ
    unfold runM at h
    split at h
    · split at h
      · rename_i st1 hw
        have g := runM_mono _ _ _ _ h hh
        obtain ⟨k1, k2, k3, k4, k5, k6⟩ := weakB_ok hw g.2.1 hB.inv
        exact ih _ _ _ h hh ρ σ a w hρ hσ ⟨hB.gr, by rw [k5]; exact hB.env, by rw [k6]; exact k1⟩ hQ
      · cases h
    split at h
    · split at h
      · cases h; exact (hQ ρ σ a w hρ hσ rfl hB).1
      · cases h
    · split at h
      · cases h; exact hQ ρ σ a w hρ hσ rfl hB
      · cases h
    · exact ih _ _ _ h hh ρ σ a w hρ hσ hB hQ
    · split at h
      · cases h
      · exact ih _ _ _ h hh ρ σ a w hρ hσ hB hQ
    · split at h
      · exact wpIn_skip (ih _ _ _ h hh ρ σ a w hρ hσ hB hQ)
      · exact wpIn_label (ih _ _ _ h hh ρ σ a w hρ hσ hB hQ)
      · exact wpIn_seq (ih _ _ _ h hh ρ σ a w hρ hσ hB hQ)
      · exact wpIn_block (ih _ _ _ h hh ρ σ a w hρ hσ hB hQ)
      · split at h
        · rename_i hp
          exact wpIn_exit (ExK_pop _ hp (ih _ _ _ h hh ρ σ a w hρ hσ hB hQ))
        · cases h
      · split at h
        · cases h; exact wpIn_ret (ExK_ret _ (hQ ρ σ a w hρ hσ rfl hB).2)
        · cases h
      · split at h
        · cases h; exact hQ ρ σ a w hρ hσ rfl hB
        · split at h
          · rename_i hr
            have hh1 := runM_mono _ _ _ _ h hh
            exact regionRunIn_ok hm hr hh1 hρ hσ hB fun ρ' σ' a' w' g1 g2 g3 g4 =>
              ih _ _ _ h hh ρ' σ' a' w' g1 g2 g4 fun ρ'' σ'' a'' w'' k1 k2 k3 k4 => hQ ρ'' σ'' a'' w'' k1 k2 (k3.trans g3) k4
          · cases h
        · cases h
      · rename_i c t e
        split at h
        · cases h; exact hQ ρ σ a w hρ hσ rfl hB
        · split at h
          · rename_i y hy
            have key : ∀ (b : Bool), allP (st.C ++ (guardC none (look st.env) [c] ++ [y = b])) → a.eval c = .bool b := by
              intro b hb
              obtain ⟨_, h2⟩ := allP_append hb
              obtain ⟨h3, h4⟩ := allP_append h2
              have := operands_ok (a := a) (xs := [c]) hB.gr hB.env h3 (fun b hb => by cases hb) c (by simp)
              rw [hy] at this
              have hyb : y = b := h4.1
              generalize a.eval c = v at this ⊢
              cases this
              rw [hyb]
            split at h
            · have hh1 := runM_mono _ _ _ _ h hh
              exact wpIn_cond_true (key true hh1.1) (ih _ _ _ h hh ρ σ a w hρ hσ hB hQ)
            · have hh1 := runM_mono _ _ _ _ h hh
              exact wpIn_cond_false (key false hh1.1) (ih _ _ _ h hh ρ σ a w hρ hσ hB hQ)
          · cases h
        · cases h
      · split at h
        · cases h; exact hQ ρ σ a w hρ hσ rfl hB
        · exact wpIn_loop_rounds _ (ih _ _ _ h hh ρ σ a w hρ hσ hB hQ)
        · cases h
      · split at h
        · cases h; exact hQ ρ σ a w hρ hσ rfl hB
        · cases h
      · cases h
end

/-! Where a function began, and what it ends with. -/
structure Cx where
  ρ : Mem
  σ : Sig
  F : Fr
  ro : Option Nat
  dfs : List Deferred

section
variable {P : Program} {G : Glob} {n K0 : Nat} {rs : List ResultVar} {v : V} {hs1 : List (Option Blk)} {cx : Cx}

def Cx.C (cx : Cx) (G : Glob) (n K0 : Nat) (E : Env) (hs : List (Option Blk)) (a : Act) (w : World) : Prop :=
  ∃ ρ σ, leR cx.F cx.ρ ρ ∧ leN K0 cx.σ σ ∧ Bears G ρ σ cx.F n (look E) (hOf hs) hs.length a w
def Cx.In (cx : Cx) (G : Glob) (n K0 : Nat) (E : Env) (hs : List (Option Blk)) (a : Act) (w : World) : Prop :=
  a.defers = cx.dfs ∧ ∃ ρ σ, leR cx.F cx.ρ ρ ∧ leN K0 cx.σ σ ∧ Bears G ρ σ cx.F n (look E) (hOf hs) hs.length a w

/-! The frame with one more object; with the block of a range over a function, and its mark. -/
def Cx.set (cx : Cx) (r : Nat) (o : Obj) : Cx := { cx with F := { cx.F with m := fun q => if q = r then some o else cx.F q } }
def Cx.add (cx : Cx) (d : Nat) : Cx := { cx with F := { cx.F with m := fun q => if q = d then some (.deferred (some [])) else cx.F q }, dfs := { target := .collected d, args := #[] } :: cx.dfs }
def Cx.adds (cx : Cx) : List Nat → Cx
  | [] => cx
  | d :: ds => (cx.adds ds).add d
def Cx.free (cx : Cx) : List Nat → Prop
  | [] => True
  | d :: ds => (cx.adds ds).F d = none ∧ cx.ρ d = none ∧ cx.free ds
theorem Cx.adds_ρ (cx : Cx) : ∀ ds, (cx.adds ds).ρ = cx.ρ := by
  intro ds; induction ds with
  | nil => rfl
  | cons d ds ih => exact ih
theorem Cx.adds_snoc (cx : Cx) (d : Nat) : ∀ ds, (cx.add d).adds ds = cx.adds (ds ++ [d]) := by
  intro ds; induction ds with
  | nil => rfl
  | cons e ds ih => simp only [Cx.adds, List.cons_append, ih]
theorem Cx.free_snoc (cx : Cx) (d : Nat) (hF : cx.F d = none) (hρ : cx.ρ d = none) : ∀ ds, (cx.add d).free ds → cx.free (ds ++ [d]) := by
  intro ds; induction ds with
  | nil => intro _; exact ⟨hF, hρ, trivial⟩
  | cons e ds ih =>
    rintro ⟨h1, h2, h3⟩
    exact ⟨by rw [Cx.adds_snoc] at h1; exact h1, h2, ih h3⟩

theorem ρ_none {cx : Cx} {ρ : Mem} {r : Nat} {o : Obj} (h : leR (cx.set r o).F cx.ρ ρ) (hρ : cx.ρ r = none) : ρ r = none := by
  cases hr : ρ r with
  | none => rfl
  | some x => exact ((h.f r (by rw [hr]; simp)).elim (fun h => absurd hρ h) (fun h => by simp [Cx.set] at h))

/-- Another object at a place of the frame's own; slots told anew. -/
theorem Cx.C.re {r : Nat} {o o' : Obj} {E E' hs a a' w w'} (hρ : cx.ρ r = none) (hw : sameIO w w' ∧ ∀ q, q ≠ r → w'.heap[q]? = w.heap[q]?) (hr : w'.heap[r]? = some o')
    (hE : ∀ ρ σ, EnvR ρ σ (look E) n a.tmps → EnvR ρ σ (look E') n a'.tmps) (h : (cx.set r o).C G n K0 E hs a w) : (cx.set r o').C G n K0 E' hs a' w' := by
  obtain ⟨ρ, σ, h1, h2, hB⟩ := h
  have same : ∀ q, (cx.set r o').F q = none ↔ (cx.set r o).F q = none := by
    intro q; simp only [Cx.set]; split <;> simp
  have hρr : ρ r = none := ρ_none h1 hρ
  have hne : ∀ i b L, hOf hs i = some b → σ i = some L → L.cap ≠ 0 → L.r ≠ r := by
    intro i b L hb hL hc e
    have := (hB.inv.apart i b L hb hL hc).1
    rw [e] at this; simp [Cx.set] at this
  refine ⟨ρ, σ, ⟨h1.m, fun q hq => (h1.f q hq).imp id (same q).2⟩, h2, hB.gr, hE ρ σ hB.env, hB.inv.dom, ?_, hB.inv.inj, ?_, ?_, ?_, hw.1.io hB.inv.io⟩
  · intro i b hb
    obtain ⟨L, hL, hb'⟩ := hB.inv.blk i b hb
    exact ⟨L, hL, hb'.world fun hc => hw.2 _ (hne i b L hb hL hc)⟩
  · intro q x hq
    by_cases e : q = r
    · subst e; simp only [Cx.set, if_true, Option.some.injEq] at hq; rw [← hq]; exact hr
    · rw [hw.2 q e]
      refine hB.inv.frame q x ?_
      simp only [Cx.set, if_neg e] at hq ⊢; exact hq
  · intro q x hq
    rw [hw.2 q (fun e => by rw [e, hρr] at hq; cases hq)]
    exact hB.inv.rmem q x hq
  · intro i b L hb hL hc
    have := hB.inv.apart i b L hb hL hc
    exact ⟨(same _).2 this.1, this.2⟩

/-- The object at a place of the frame's own is let go. -/
theorem Cx.C.drop {r : Nat} {o : Obj} {E hs a a' w w'} (hr : cx.F r = none) (hρ : cx.ρ r = none) (hw : sameIO w w' ∧ ∀ q, q ≠ r → w'.heap[q]? = w.heap[q]?) (ha : a'.tmps = a.tmps)
    (h : (cx.set r o).C G n K0 E hs a w) : cx.C G n K0 E hs a' w' := by
  obtain ⟨ρ, σ, h1, h2, hB⟩ := h
  have lo : ∀ q, (cx.set r o).F q = none → q ≠ r ∧ cx.F q = none := by
    intro q hq
    simp only [Cx.set] at hq
    split at hq
    · cases hq
    · rename_i hne; exact ⟨hne, hq⟩
  have hi : ∀ q x, cx.F q = some x → q ≠ r ∧ (cx.set r o).F q = some x := by
    intro q x hq
    have hne : q ≠ r := fun e => by rw [e, hr] at hq; cases hq
    simp only [Cx.set]
    rw [if_neg hne]; exact ⟨hne, hq⟩
  have hρr : ρ r = none := ρ_none h1 hρ
  refine ⟨ρ, σ, ⟨h1.m, fun q hq => (h1.f q hq).imp id fun h => (lo q h).2⟩, h2, hB.gr, by rw [ha]; exact hB.env, hB.inv.dom, ?_, hB.inv.inj, ?_, ?_, ?_, hw.1.io hB.inv.io⟩
  · intro i b hb
    obtain ⟨L, hL, hb'⟩ := hB.inv.blk i b hb
    exact ⟨L, hL, hb'.world fun hc => hw.2 _ (lo _ (hB.inv.apart i b L hb hL hc).1).1⟩
  · intro q x hq
    obtain ⟨h3, h4⟩ := hi q x hq
    rw [hw.2 q h3]; exact hB.inv.frame q x h4
  · intro q x hq
    rw [hw.2 q (fun e => by rw [e, hρr] at hq; cases hq)]
    exact hB.inv.rmem q x hq
  · intro i b L hb hL hc
    have := hB.inv.apart i b L hb hL hc
    exact ⟨(lo _ this.1).2, this.2⟩

/-- A new object comes into the frame. -/
theorem Cx.C.alloc {E hs a w} (o : Obj) (h : cx.C G n K0 E hs a w) : cx.F w.heap.size = none ∧ cx.ρ w.heap.size = none ∧ (cx.set w.heap.size o).C G n K0 E hs a (w.alloc o) := by
  obtain ⟨ρ, σ, h1, h2, hB⟩ := h
  have nonew : ∀ {M : Mem}, (∀ r x, M r = some x → w.heap[r]? = some x) → M w.heap.size = none := by
    intro M hM
    cases h : M w.heap.size with
    | none => rfl
    | some x => have := hM _ _ h; simp at this
  have hF0 := nonew hB.inv.frame
  have hρ0 : ρ w.heap.size = none := nonew hB.inv.rmem
  have hcρ : cx.ρ w.heap.size = none := by
    cases h : cx.ρ w.heap.size with
    | none => rfl
    | some x => have := h1.m _ _ h; rw [hρ0] at this; cases this
  have hold : ∀ q, q < w.heap.size → (w.alloc o).heap[q]? = w.heap[q]? := by
    intro q hq
    show (w.heap.push _)[q]? = _
    rw [Array.getElem?_push, if_neg (by omega)]
  have hinv := hB.inv.world (w' := w.alloc o) ⟨rfl, rfl⟩ hold
  refine ⟨hF0, hcρ, ρ, σ, ⟨h1.m, fun q hq => ?_⟩, h2, hB.gr, hB.env, hinv.dom, hinv.blk, hinv.inj, ?_, hinv.rmem, ?_, hinv.io⟩
  · rcases h1.f q hq with h | h
    · exact .inl h
    · refine .inr ?_
      simp only [Cx.set]
      rw [if_neg (fun e => by subst e; exact hq hρ0)]; exact h
  · intro q x hq
    simp only [Cx.set] at hq
    split at hq
    · rename_i e; subst e; cases hq; exact World.alloc_heap_new w o
    · exact hinv.frame q x hq
  · intro i b L hb hL hc
    have ha := hinv.apart i b L hb hL hc
    refine ⟨?_, ha.2⟩
    simp only [Cx.set]
    rw [if_neg]; exact ha.1
    intro e
    obtain ⟨L', hL', hbr⟩ := hB.inv.blk i b hb
    rw [hL] at hL'; cases hL'
    obtain ⟨_, _, h3⟩ := hbr
    rcases h3 with h3 | ⟨_, _, _, h4, _⟩
    · exact hc h3.1
    · rw [e] at h4; simp at h4

def Cx.Q (cx : Cx) (P : Program) (G : Glob) (n K0 : Nat) (rs : List ResultVar) (v : V) (hs1 : List (Option Blk)) (e : Exit) (a : Act) (w : World) : Prop :=
  (e = .normal ∨ e = .ret) ∧ ∃ ds, cx.free ds ∧ ∃ E, resO P (look E) (hOf hs1) rs = some v ∧ (cx.adds ds).In G n K0 E hs1 a w
theorem Cx.Q.add {d : Nat} {e a w} (hF : cx.F d = none) (hρ : cx.ρ d = none) (h : (cx.add d).Q P G n K0 rs v hs1 e a w) : cx.Q P G n K0 rs v hs1 e a w := by
  obtain ⟨h1, ds, h2, E, h3, h4⟩ := h
  exact ⟨h1, ds ++ [d], cx.free_snoc d hF hρ ds h2, E, h3, by rw [← Cx.adds_snoc]; exact h4⟩
def WM (P : Program) (G : Glob) (n K0 : Nat) (rs : List ResultVar) (v : V) (hs1 : List (Option Blk)) (cx : Cx) (k : List It) (E : Env) (hs : List (Option Blk)) : Prop :=
  ∀ a w, cx.In G n K0 E hs a w → ExK cx.ro P (cx.Q P G n K0 rs v hs1) k .normal a w

/-- The same with whatever is asked at the end. -/
def WG (P : Program) (G : Glob) (n K0 : Nat) (Q : Exit → Act → World → Prop) (cx : Cx) (k : List It) (E : Env) (hs : List (Option Blk)) : Prop :=
  ∀ a w, cx.In G n K0 E hs a w → ExK cx.ro P Q k .normal a w

def envOf : List ResultVar → List V → Env
  | .tmp t :: r, v :: l => (t, ⟨none, v⟩) :: envOf r l
  | _, _ => []
def envR (rs : List ResultVar) (v : V) : Env :=
  match rs with
  | [r] => envOf [r] [v]
  | rs => match v with
    | .tup l => envOf rs l
    | _ => []

abbrev MRes := Option (Bool × List It × List Prop × List (List V × List V) × List (Option Core × Option Core))

/-- The run of a path and the fit of its end to what is claimed behind it. -/
def fullM (P : Program) (G : Glob) (n K0 : Nat) (k : List It) (E : Env) (hs : List (Option Blk)) (an : List (PAnn P G)) (m : Map) (E' : Env) (hs' : List (Option Blk)) : MRes :=
  match runM n 100000 k an ⟨[], [], [], E, hOf hs, hs.length⟩ with
  | some (r, k', st) => match Nat.beq m.length hs'.length && (idUpTo m K0 && nodupB (liveOf m 0 hs')), subE m st.env E', subH m st.H 0 hs' with
    | true, some (C, S1), some (S2, T) => some (r, k', st.C ++ C, st.S ++ (S1 ++ S2), st.T ++ T)
    | _, _, _ => none
  | _ => none
def lhsM (r : MRes) : Option (Bool × List It × List Prop × List (List V) × List (Option Core)) :=
  match r with
  | some (b, k, C, S, T) => some (b, k, C, S.map (·.1), T.map (·.1))
  | none => none
def rhsM (b : Bool) (k : List It) (C : List Prop) (r : MRes) : Option (Bool × List It × List Prop × List (List V) × List (Option Core)) :=
  match r with
  | some (_, _, _, S, T) => some (b, k, C, S.map (·.2), T.map (·.2))
  | none => some (b, k, C, [], [])

theorem fullM_ok (hm : P.follows .mixedOrders = true) {k E hs E' hs' b k'} {an : List (PAnn P G)} {m : Map} {C : List Prop}
    (h : lhsM (fullM P G n K0 k E hs an m E' hs') = rhsM b k' C (fullM P G n K0 k E hs an m E' hs')) (hC : allP C) {Q : Exit → Act → World → Prop}
    (next : ∀ a w, cx.In G n K0 E' hs' a w → Landed cx.ro P Q b k' a w) : ∀ a w, cx.In G n K0 E hs a w → ExK cx.ro P Q k .normal a w := by
  cases hr : fullM P G n K0 k E hs an m E' hs' with
  | none => rw [hr] at h; cases h
  | some r =>
    obtain ⟨b1, k1, C', S, T⟩ := r
    rw [hr] at h
    simp only [lhsM, rhsM, Option.some.injEq, Prod.mk.injEq] at h
    obtain ⟨rfl, rfl, rfl, hS, hT⟩ := h
    have hS' := allS_of hS
    have hT' := allT_of hT
    unfold fullM at hr
    split at hr
    · rename_i r0 k0 st hrun
      split at hr
      · rename_i C2 S1 S2 T2 hb hE hH
        cases hr
        simp only [Bool.and_eq_true] at hb
        obtain ⟨hC1, hC2⟩ := allP_append hC
        obtain ⟨hS1, hS2⟩ := allS_append hS'
        obtain ⟨hT1, hT2⟩ := allT_append hT'
        rintro a w ⟨hd, ρ, σ, h1, h2, hB⟩
        refine runM_ok hm _ _ _ _ hrun ⟨hC1, hS1, hT1⟩ ρ σ a w (leR.refl cx.F ρ) (leS.refl σ) hB fun ρ' σ' a' w' g1 g2 g3 g4 => ?_
        obtain ⟨q1, q2⟩ := sub_ok (K0 := K0) ⟨Nat.eq_of_beq_eq_true hb.1, hb.2.1, hb.2.2, S1, S2, hE, hH, rfl⟩ hC2 hS2 hT2 g4
        exact next a' w' ⟨g3.trans hd, ρ', _, h1.trans g1, h2.trans fun i hi L hL => q2 i hi L (g2 i L hL), q1⟩
      · cases hr
    · cases hr

theorem WM.cut (hm : P.follows .mixedOrders = true) {k E hs E' hs' k'} (an : List (PAnn P G)) (m : Map) {C : List Prop}
    (hC : allP C) (next : WM P G n K0 rs v hs1 cx k' E' hs')
    (h : lhsM (fullM P G n K0 k E hs an m E' hs') = rhsM false k' C (fullM P G n K0 k E hs an m E' hs')) : WM P G n K0 rs v hs1 cx k E hs :=
  fullM_ok hm h hC next

theorem WG.cut (hm : P.follows .mixedOrders = true) {Q : Exit → Act → World → Prop} {k E hs E' hs' k'} (an : List (PAnn P G)) (m : Map) {C : List Prop}
    (hC : allP C) (next : WG P G n K0 Q cx k' E' hs')
    (h : lhsM (fullM P G n K0 k E hs an m E' hs') = rhsM false k' C (fullM P G n K0 k E hs an m E' hs')) : WG P G n K0 Q cx k E hs :=
  fullM_ok hm h hC next
theorem WG.again {Q : Exit → Act → World → Prop} {k E hs} {I : Act → World → Prop} (h : ∀ a w, cx.In G n K0 E hs a w → I a w) : WG P G n K0 Q cx (.again I :: k) E hs := h

theorem WM.ret (hm : P.follows .mixedOrders = true) {k E hs} (an : List (PAnn P G)) (m : Map) {C : List Prop} (hC : allP C)
    (h : lhsM (fullM P G n K0 k E hs an m (envR rs v) hs1) = rhsM true [] C (fullM P G n K0 k E hs an m (envR rs v) hs1))
    (hv : resO P (look (envR rs v)) (hOf hs1) rs = some v) : WM P G n K0 rs v hs1 cx k E hs :=
  fullM_ok hm h hC fun _ _ hi => ⟨⟨.inl rfl, [], trivial, _, hv, hi⟩, .inr rfl, [], trivial, _, hv, hi⟩

theorem WM.again {k E hs} {I : Act → World → Prop} (h : ∀ a w, cx.In G n K0 E hs a w → I a w) : WM P G n K0 rs v hs1 cx (.again I :: k) E hs := h

theorem WG.loop {Q : Exit → Act → World → Prop} {X : Type} {Y : Type} {c : Code} {k : List It} {y : Y} (L : Nat → X → Option Y) (E : X → Env) (hs : X → List (Option Blk))
    (round : ∀ j x I, L j x = some y → (∀ i x', i < j → L i x' = some y → ∀ a w, cx.In G n K0 (E x') (hs x') a w → I a w) → WG P G n K0 Q cx (.code c :: .again I :: k) (E x) (hs x))
    {j x} (h : L j x = some y) : WG P G n K0 Q cx (.code (.loop c) :: k) (E x) (hs x) := by
  intro a w hi
  refine wpIn_loop_gh (fun j a w => ∃ x, L j x = some y ∧ cx.In G n K0 (E x) (hs x) a w) (m := j) ⟨x, h, hi⟩ ?_
  rintro j a w ⟨x, hx, hi⟩
  exact round j x (fun a w => ∃ i, i < j ∧ ∃ x', L i x' = some y ∧ cx.In G n K0 (E x') (hs x') a w) hx (fun i x' hlt hx' a w hi => ⟨i, hlt, x', hx', hi⟩) a w hi

theorem WM.loop {X : Type} {Y : Type} {c : Code} {k : List It} {y : Y} (L : Nat → X → Option Y) (E : X → Env) (hs : X → List (Option Blk))
    (round : ∀ j x I, L j x = some y → (∀ i x', i < j → L i x' = some y → ∀ a w, cx.In G n K0 (E x') (hs x') a w → I a w) → WM P G n K0 rs v hs1 cx (.code c :: .again I :: k) (E x) (hs x))
    {j x} (h : L j x = some y) : WM P G n K0 rs v hs1 cx (.code (.loop c) :: k) (E x) (hs x) := by
  intro a w hi
  refine wpIn_loop_gh (fun j a w => ∃ x, L j x = some y ∧ cx.In G n K0 (E x) (hs x) a w) (m := j) ⟨x, h, hi⟩ ?_
  rintro j a w ⟨x, hx, hi⟩
  exact round j x (fun a w => ∃ i, i < j ∧ ∃ x', L i x' = some y ∧ cx.In G n K0 (E x') (hs x') a w) hx (fun i x' hlt hx' a w hi => ⟨i, hlt, x', hx', hi⟩) a w hi

theorem leN.trans' {K : Nat} {a b c : Sig} (h : leN K a b) (h' : leN K b c) : leN K a c := h.trans h'

/-- The marks of the loops over functions are taken off at the end. -/
theorem leavesM {fn : Func} {R : Ending → World → Prop} {E : Env} {hs : List (Option Blk)} {a : Act} : ∀ (ds : List Nat) (w : World), cx.free ds → (cx.adds ds).C G n K0 E hs a w →
    (∀ w, cx.C G n K0 E hs a w → LeavesIn Fence.wide 0 P fn a.tmps R [] .returning w) →
    LeavesInM Fence.wide 0 P fn a.tmps R (ds.map fun d => { target := .collected d, args := #[] }) .returning w := by
  intro ds; induction ds with
  | nil => intro w _ h hl; exact hl w h
  | cons d ds ih =>
    rintro w ⟨h1, h2, h3⟩ h hl
    have hd : w.heap[d]? = some (.deferred (some [])) := by
      obtain ⟨ρ, σ, _, _, hB⟩ := h
      exact hB.inv.frame d _ (by simp [Cx.adds, Cx.add])
    refine ⟨by simp, .inl ⟨d, _, rfl, run_takeDeferred hd, ih _ h3 ?_ hl⟩⟩
    refine Cx.C.drop (cx := cx.adds ds) (r := d) (o := .deferred (some [])) (a := a) (w := w) h1 (by rw [Cx.adds_ρ]; exact h2) ⟨⟨rfl, rfl⟩, fun q hq => World.putObj_heap_other hq⟩ rfl h

theorem Spec.ofM0 {K : FuncId} {fn : Func} {c : Code} {args : List V} {hs hs' v} (hf : P.funcs[K]? = some fn) (hb : fn.body = some c) (hn : fn.ntmps = n) (hrs : fn.results.toList = rs) (hlen : Nat.ble args.length n = true)
    (h : ∀ ρ σ F, WM P G n hs.length rs v hs' ⟨ρ, σ, F, none, []⟩ [.code c] (argEnv 0 args) hs) : Spec P G K args hs v hs' := by
  have hlen := Nat.le_of_ble_eq_true hlen
  intro ρ σ F w vals hG hA hH
  refine (callsIn_wide (n := 0)).1 (callsIn_of_wp_marks hf hb trivial (wpIn_mono (h ρ σ F _ w ⟨rfl, ρ, σ, leR.refl F ρ, leN.refl _ σ, hG, ⟨?_, fun t e he => ?_⟩, hH⟩) ?_))
  · simp only [Array.size_append, Array.size_replicate, hn]
    have := hA.1; omega
  · obtain ⟨_, h2, h3, h4⟩ := argEnv_look args 0 t e he
    simp only [Nat.zero_add, Nat.sub_zero] at h2 h4
    have hlt : t < vals.size := by rw [← hA.1]; exact h2
    refine ⟨by omega, ?_⟩
    unfold entR
    rw [h3, h4]
    have : (vals ++ Array.replicate (fn.ntmps - vals.size) undef).getD t undef = vals[t] := by
      simp [Array.getD_eq_getD_getElem?, Array.getElem?_append_left hlt, Array.getElem?_eq_getElem hlt]
    rw [this]
    exact hA.2 t hlt
  · rintro e a' w' ⟨he, ds, hfree, E', hrv, hd, hcore⟩
    have hdf : ∀ ds, (Cx.adds ⟨ρ, σ, F, none, []⟩ ds).dfs = ds.map fun d => { target := .collected d, args := #[] } := by
      intro ds; induction ds with
      | nil => rfl
      | cons d ds ih => simp only [Cx.adds, Cx.add, List.map_cons, ih]
    suffices hl : ∀ w', (⟨ρ, σ, F, none, []⟩ : Cx).C G n hs.length E' hs' a' w' → LeavesIn Fence.wide 0 P fn a'.tmps (fun e w' => ∃ val ρ' σ', e = .returned val ∧ VR ρ' σ' v val ∧ leR F ρ ρ' ∧ leN hs.length σ σ' ∧ HInv ρ' σ' (· < hs'.length) (hOf hs') F w') [] .returning w' by
      have := leavesM ds w' hfree hcore hl
      rcases he with rfl | rfl
      · show LeavesInM _ _ _ _ _ _ a'.defers _ _
        rw [hd, hdf]; exact this
      · show LeavesInM _ _ _ _ _ _ a'.defers _ _
        rw [hd, hdf]; exact this
    rintro w' ⟨ρ', σ', h1, h2, hB⟩
    obtain ⟨l, hr, hv⟩ : ∃ l, resA P (look E') (hOf hs') rs = some l ∧ resV l = v := by
      unfold resO at hrv
      split at hrv
      · rename_i l hl; cases hrv; exact ⟨l, hl, rfl⟩
      · cases hrv
    subst hrs
    obtain ⟨vs, hvs, hvr⟩ := resA_ok hB hr
    have hres : ∃ val, (results fn a'.tmps).run P w' = .ok val w' ∧ VR ρ' σ' v val := by
      have hrun : (results fn a'.tmps).run P w' = .ok (if h : vs.toArray.size = 1 then vs.toArray[0] else .tuple vs.toArray) w' := by
        rw [results_eq, Sem.run_bind, Array.mapM_eq_mapM_toList, Sem.run_map, hvs]; rfl
      rw [hrun]
      refine ⟨_, rfl, ?_⟩
      subst hv
      obtain ⟨hl, hvv⟩ := hvr
      by_cases h1 : vs.toArray.size = 1
      · rw [dif_pos h1]
        match l, hl with
        | [x], _ => exact hvv 0 (by omega)
        | [], hl => rw [← hl] at h1; cases h1
        | _ :: _ :: _, hl => rw [← hl] at h1; simp at h1
      · rw [dif_neg h1]
        match l, hl with
        | [x], hl => exact absurd hl.symm h1
        | [], hl => exact .tup hl hvv
        | _ :: _ :: _, hl => exact .tup hl hvv
    obtain ⟨val, hval, hvv⟩ := hres
    exact ⟨val, hval, val, ρ', σ', rfl, hvv, h1, h2, hB.inv⟩
theorem Spec.ofM {K : FuncId} {fn : Func} {c : Code} {args : List V} {hs hs' v} (hf : P.funcs[K]? = some fn) (hb : fn.body = some c) (hn : fn.ntmps = n) (hrs : fn.results.toList = rs) (hlen : Nat.ble args.length n = true)
    (h : ∀ cx, WM P G n hs.length rs v hs' cx [.code c] (argEnv 0 args) hs) : Spec P G K args hs v hs' :=
  Spec.ofM0 hf hb hn hrs hlen fun _ _ _ => h _
end
end Go.Proofs.YtiekchfipaiflaaGreatDoor
