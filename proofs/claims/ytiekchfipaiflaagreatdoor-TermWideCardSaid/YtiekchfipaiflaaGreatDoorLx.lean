/- Triples for code, loops, functions; a function's contract as a caller meets it. -/
import Derived.Test.YtiekchfipaiflaaGreatDoorLw
namespace Go.Proofs.YtiekchfipaiflaaGreatDoor
open Go

def TriF (P : Program) (G : Glob) (n K0 : Nat) (c : Code) (E : Env) (hs : List (Option Blk)) (ex : Ex) (E' : Env) (hs' : List (Option Blk)) : Prop :=
  ∀ ρ σ F a w, Bears G ρ σ F n (look E) (hOf hs) hs.length a w → a.defers = [] →
    c.wp P (fun e a' w' => e = ex.to ∧ a'.defers = [] ∧ ∃ ρ' σ', leR F ρ ρ' ∧ leN K0 σ σ' ∧ Bears G ρ' σ' F n (look E') (hOf hs') hs'.length a' w') a w

section
variable {P : Program} {G : Glob} {n K0 : Nat}

def fullRun (P : Program) (G : Glob) (n K0 : Nat) (c : Code) (E : Env) (hs : List (Option Blk)) (an : List (PAnn P G)) (m : Map) (E' : Env) (hs' : List (Option Blk)) :
    Option (Ex × List Prop × List (List V × List V) × List (Option Core × Option Core)) :=
  match runP n c an ⟨[], [], [], E, hOf hs, hs.length⟩ with
  | some (ex, [], st) => match Nat.beq m.length hs'.length && (idUpTo m K0 && nodupB (liveOf m 0 hs')), subE m st.env E', subH m st.H 0 hs' with
    | true, some (C, S1), some (S2, T) => some (ex, st.C ++ C, st.S ++ (S1 ++ S2), st.T ++ T)
    | _, _, _ => none
  | _ => none

def lhs (r : Option (Ex × List Prop × List (List V × List V) × List (Option Core × Option Core))) : Option (Ex × List Prop × List (List V) × List (Option Core)) :=
  match r with
  | some (ex, C, S, T) => some (ex, C, S.map (·.1), T.map (·.1))
  | none => none
def rhs (ex : Ex) (C : List Prop) (r : Option (Ex × List Prop × List (List V × List V) × List (Option Core × Option Core))) : Option (Ex × List Prop × List (List V) × List (Option Core)) :=
  match r with
  | some (_, _, S, T) => some (ex, C, S.map (·.2), T.map (·.2))
  | none => some (ex, C, [], [])

theorem allS_of {l : List (List V × List V)} (h : l.map (·.1) = l.map (·.2)) : allS l := by
  induction l with
  | nil => trivial
  | cons p r ih => simp only [List.map_cons, List.cons.injEq] at h; exact ⟨h.1, ih h.2⟩
theorem allT_of {l : List (Option Core × Option Core)} (h : l.map (·.1) = l.map (·.2)) : allT l := by
  induction l with
  | nil => trivial
  | cons p r ih => simp only [List.map_cons, List.cons.injEq] at h; exact ⟨h.1, ih h.2⟩

/-- A path is what the abstract run says. -/
theorem TriF.path (hm : P.follows .mixedOrders = true) {c E hs ex E' hs'} (an : List (PAnn P G)) (m : Map) (C : List Prop)
    (h : lhs (fullRun P G n K0 c E hs an m E' hs') = rhs ex C (fullRun P G n K0 c E hs an m E' hs')) (hC : allP C) : TriF P G n K0 c E hs ex E' hs' := by
  cases hr : fullRun P G n K0 c E hs an m E' hs' with
  | none => rw [hr] at h; cases h
  | some r =>
    obtain ⟨ex', C', S, T⟩ := r
    rw [hr] at h
    simp only [lhs, rhs, Option.some.injEq, Prod.mk.injEq] at h
    obtain ⟨rfl, rfl, hS, hT⟩ := h
    have hS' := allS_of hS
    have hT' := allT_of hT
    unfold fullRun at hr
    split at hr
    · rename_i ex0 st hrun
      split at hr
      · rename_i C2 S1 S2 T2 hb hE hH
        cases hr
        simp only [Bool.and_eq_true] at hb
        obtain ⟨hC1, hC2⟩ := allP_append hC
        obtain ⟨hS1, hS2⟩ := allS_append hS'
        obtain ⟨hT1, hT2⟩ := allT_append hT'
        intro ρ σ F a w hB hd
        refine runP_ok hm c an _ _ _ st hrun ⟨hC1, hS1, hT1⟩ ρ σ a w _ (leR.refl F ρ) (leS.refl σ) hB fun ρ' σ' a' w' h1 h2 h3 h4 => ?_
        obtain ⟨g1, g2⟩ := sub_ok (K0 := K0) ⟨Nat.eq_of_beq_eq_true hb.1, hb.2.1, hb.2.2, S1, S2, hE, hH, rfl⟩ hC2 hS2 hT2 h4
        exact ⟨rfl, h3.trans hd, ρ', _, h1, fun i hi L hL => g2 i hi L (h2 i L hL), g1⟩
      · cases hr
    · cases hr

theorem TriF.seq {x y E hs E1 hs1 ex E2 hs2} (h : TriF P G n K0 x E hs .nrm E1 hs1) (h' : TriF P G n K0 y E1 hs1 ex E2 hs2) : TriF P G n K0 (.seq x y) E hs ex E2 hs2 := by
  intro ρ σ F a w hB hd
  refine wp_seq (wp_mono (h ρ σ F a w hB hd) ?_)
  rintro e a1 w1 ⟨rfl, hd1, ρ1, σ1, h1, h2, hB1⟩
  refine wp_mono (h' ρ1 σ1 F a1 w1 hB1 hd1) ?_
  rintro e a2 w2 ⟨rfl, hd2, ρ2, σ2, h3, h4, hB2⟩
  exact ⟨rfl, hd2, ρ2, σ2, h1.trans h3, h2.trans h4, hB2⟩

theorem TriF.seqX {x y E hs ex E2 hs2} (h : TriF P G n K0 x E hs ex E2 hs2) (hx : ex ≠ .nrm) : TriF P G n K0 (.seq x y) E hs ex E2 hs2 := by
  intro ρ σ F a w hB hd
  refine wp_seq (wp_mono (h ρ σ F a w hB hd) ?_)
  rintro e a1 w1 ⟨rfl, hd1, r⟩
  cases ex with
  | nrm => exact absurd rfl hx
  | ext i => exact ⟨rfl, hd1, r⟩
  | ret => exact ⟨rfl, hd1, r⟩

theorem TriF.blockX {id x E hs E2 hs2} (h : TriF P G n K0 x E hs (.ext id) E2 hs2) : TriF P G n K0 (.block id x) E hs .nrm E2 hs2 := by
  intro ρ σ F a w hB hd
  refine wp_block (wp_mono (h ρ σ F a w hB hd) ?_)
  rintro e a1 w1 ⟨rfl, hd1, r⟩
  simp only [Ex.to, Exit.inBlock, if_true]
  exact ⟨trivial, hd1, r⟩

theorem TriF.block {id x E hs ex E2 hs2} (h : TriF P G n K0 x E hs ex E2 hs2) (hx : ex ≠ .ext id) : TriF P G n K0 (.block id x) E hs ex E2 hs2 := by
  intro ρ σ F a w hB hd
  refine wp_block (wp_mono (h ρ σ F a w hB hd) ?_)
  rintro e a1 w1 ⟨rfl, hd1, r⟩
  cases ex with
  | nrm => exact ⟨rfl, hd1, r⟩
  | ext i =>
    have : i ≠ id := fun e => hx (by rw [e])
    simp only [Ex.to, Exit.inBlock, this, if_false]
    exact ⟨trivial, hd1, r⟩
  | ret => exact ⟨rfl, hd1, r⟩

theorem TriF.cond {c : Operand} {t e E hs ex E2 hs2} (x b : Bool) (hv : evO G (look E) c = .b x) (hg : gO (look E) c = none) (hb : x = b)
    (h : TriF P G n K0 (match b with | true => t | false => e) E hs ex E2 hs2) : TriF P G n K0 (.cond c t e) E hs ex E2 hs2 := by
  intro ρ σ F a w hB hd
  have := evO_ok (a := a) (x := c) hB.gr hB.env (fun b hb => by rw [hg] at hb; cases hb)
  rw [hv] at this
  subst hb
  refine wp_cond (t := x) (by generalize a.eval c = v at this ⊢; cases this; rfl) ?_
  cases x <;> exact h ρ σ F a w hB hd

/-- A loop: by rounds that are counted beside it. -/
theorem wp_loop_ghost {c : Code} {Q : Exit → Act → World → Prop} {a : Act} {w : World} (J : Nat → Act → World → Prop) {k : Nat} (h0 : J k a w)
    (round : ∀ k a w, J k a w → c.wp P (Exit.then (fun a' w' => ∃ m, m < k ∧ J m a' w') Q) a w) : (Code.loop c).wp P Q a w := by
  intro b kk cs
  have key : ∀ n a w, J n a w → ∃ e a' w', Q e a' w' ∧ Arrives P (lone (b.at a (.code c :: .inLoop c :: kk)) cs w) b kk cs e a' w' := by
    intro n
    induction n using Nat.strongRecOn with
    | _ n ih =>
      intro a w hI
      obtain ⟨e, a₁, w₁, hq, harr⟩ := round n a w hI b (.inLoop c :: kk) cs
      cases e with
      | normal =>
        obtain ⟨m, hlt, hI₁⟩ := hq
        obtain ⟨e₂, a₂, w₂, hq₂, harr₂⟩ := ih m hlt a₁ w₁ hI₁
        exact ⟨e₂, a₂, w₂, hq₂, .of_steps (Steps.trans harr (.one step_inLoop)) harr₂⟩
      | exit id => exact ⟨_, a₁, w₁, hq, .pass (x := .inLoop c) rfl (fun _ _ => .inl (by simp)) harr⟩
      | goto l => exact ⟨_, a₁, w₁, hq, .pass (x := .inLoop c) rfl (fun _ _ => .inl (by simp)) harr⟩
      | ret => exact ⟨_, a₁, w₁, hq, .pass (x := .inLoop c) rfl (fun _ _ => .inl (by simp)) harr⟩
      | panic ch => exact ⟨_, a₁, w₁, hq, .pass (x := .inLoop c) rfl (fun _ _ => .inl (by simp)) harr⟩
      | outgrown => exact ⟨_, a₁, w₁, hq, .pass (x := .inLoop c) rfl (fun _ _ => .inl (by simp)) harr⟩
  obtain ⟨e, a', w', hq, harr⟩ := key k a w h0
  exact ⟨e, a', w', hq, .of_steps (.one step_loop) harr⟩

theorem TriF.loop {X Y : Type} {c : Code} (L : Nat → X → Option Y) (E : X → Env) (hs : X → List (Option Blk)) (ex : Y → Ex) (E' : Y → Env) (hs' : Y → List (Option Blk))
    (round : ∀ k x y, L k x = some y → (∃ k' x', k' < k ∧ L k' x' = some y ∧ TriF P G n K0 c (E x) (hs x) .nrm (E x') (hs x')) ∨ (ex y ≠ .nrm ∧ TriF P G n K0 c (E x) (hs x) (ex y) (E' y) (hs' y)))
    {k x y} (h : L k x = some y) : TriF P G n K0 (.loop c) (E x) (hs x) (ex y) (E' y) (hs' y) := by
  intro ρ σ F a w hB hd
  refine wp_loop_ghost (fun k a w => ∃ x, L k x = some y ∧ a.defers = [] ∧ ∃ ρ1 σ1, leR F ρ ρ1 ∧ leN K0 σ σ1 ∧ Bears G ρ1 σ1 F n (look (E x)) (hOf (hs x)) (hs x).length a w)
    (k := k) ⟨x, h, hd, ρ, σ, leR.refl F ρ, leN.refl K0 σ, hB⟩ ?_
  rintro k a w ⟨x, hx, hd, ρ1, σ1, h1, h2, hB⟩
  rcases round k x y hx with ⟨k', x', hk, hx', ht⟩ | ⟨hne, ht⟩
  · refine wp_mono (ht ρ1 σ1 F a w hB hd) ?_
    rintro e a2 w2 ⟨rfl, hd2, ρ2, σ2, h3, h4, hB2⟩
    exact ⟨k', hk, x', hx', hd2, ρ2, σ2, h1.trans h3, h2.trans h4, hB2⟩
  · refine wp_mono (ht ρ1 σ1 F a w hB hd) ?_
    rintro e a2 w2 ⟨rfl, hd2, ρ2, σ2, h3, h4, hB2⟩
    cases hex : ex y with
    | nrm => exact absurd hex hne
    | ext i => exact ⟨rfl, hd2, ρ2, σ2, h1.trans h3, h2.trans h4, hB2⟩
    | ret => exact ⟨rfl, hd2, ρ2, σ2, h1.trans h3, h2.trans h4, hB2⟩

/-! Functions. -/

def Spec (P : Program) (G : Glob) (K : FuncId) (args : List V) (hs : List (Option Blk)) (v : V) (hs' : List (Option Blk)) : Prop :=
  ∀ ρ σ F w vals, GR G ρ → VRs ρ σ args vals → HInv ρ σ (· < hs.length) (hOf hs) F w →
    Calls P K vals w fun e w' => ∃ val ρ' σ', e = .returned val ∧ VR ρ' σ' v val ∧ leR F ρ ρ' ∧ leN hs.length σ σ' ∧ HInv ρ' σ' (· < hs'.length) (hOf hs') F w'

def argEnv : Nat → List V → Env
  | _, [] => []
  | i, v :: r => (i, ⟨none, v⟩) :: argEnv (i + 1) r

theorem argEnv_look : ∀ (l : List V) (i t : Nat) (e : Ent), look (argEnv i l) t = some e → i ≤ t ∧ t < i + l.length ∧ e.g = none ∧ e.v = l.getD (t - i) .u := by
  intro l; induction l with
  | nil => intro i t e h; cases h
  | cons v r ih =>
    intro i t e h
    simp only [argEnv, look] at h
    by_cases hit : i = t
    · subst hit
      simp only [Nat.beq_refl] at h
      cases h
      exact ⟨Nat.le_refl _, by simp, rfl, by simp⟩
    · have : Nat.beq i t = false := by
        cases hb : Nat.beq i t with
        | false => rfl
        | true => exact absurd (Nat.eq_of_beq_eq_true hb) hit
      rw [this] at h
      obtain ⟨h1, h2, h3, h4⟩ := ih (i + 1) t e h
      refine ⟨by omega, by simp only [List.length_cons]; omega, h3, ?_⟩
      rw [h4, show t - i = (t - (i + 1)) + 1 by omega]; rfl

def resA (P : Program) (env : Nat → Option Ent) (H : Heap) : List ResultVar → Option (List V)
  | [] => some []
  | .tmp t :: r => match env t, resA P env H r with
    | some ⟨none, v⟩, some l => some (v :: l)
    | _, _ => none
  | .cell t ty :: r => match env t, resA P env H r with
    | some ⟨none, .p id idx sub⟩, some l => match H id with
      | some b => match Nat.blt idx b.l.length, loadA P ty (b.enc (b.l.getD idx b.d)) sub b.size with
        | true, some v => some (v :: l)
        | _, _ => none
      | none => none
    | _, _ => none
def resV : List V → V
  | [v] => v
  | l => .tup l

theorem loadP_ok {ρ σ D H F w t id idx sub b v a} (hH : HInv ρ σ D H F w) (hx : VR ρ σ (.p id idx sub) a) (hb : H id = some b) (hidx : idx < b.l.length) (hv : loadA P t (b.enc (b.l.getD idx b.d)) sub b.size = some v) :
    ∃ z, (do loadVar t (← asAddr a) : Sem Value).run P w = .ok z w ∧ VR ρ σ v z := by
  cases hx
  rename_i L hL
  obtain ⟨M, hM, hB⟩ := hH.blk _ _ hb
  rw [hL] at hM; cases hM
  obtain ⟨hes, hpos, hcase⟩ := hB
  rcases hcase with ⟨_, hnil⟩ | ⟨c, ty, fz, hw, hcs, hle, _, hcell⟩
  · rw [hnil] at hidx; simp at hidx
  · obtain ⟨z, hz, hzv⟩ := loadA_ok (ρ := ρ) (σ := σ) hv hw (base := idx * b.size) (fun j hj => hcell idx hidx j hj)
    rw [hes]
    refine ⟨z, ?_, hzv⟩
    simpa [Instr.loadAt, Instr.sureAddr, asAddr] using hz

def resF (tmps : Array Value) : ResultVar → Sem Value
  | .tmp t => pure (tmps.getD t undef)
  | .cell c t => do loadVar t (← asAddr (tmps.getD c undef))
theorem results_eq (fn : Func) (tmps : Array Value) : results fn tmps = (do
    let vs ← fn.results.mapM (resF tmps)
    pure (if h : vs.size = 1 then vs[0] else .tuple vs)) := by
  unfold results
  rfl

theorem resA_ok {ρ σ F N a w} {H : Heap} {env : Nat → Option Ent} (hB : Bears G ρ σ F n env H N a w) : ∀ {rs : List ResultVar} {l : List V}, resA P env H rs = some l →
    ∃ vs : List Value, (rs.mapM (resF a.tmps)).run P w = .ok vs w ∧ VRs ρ σ l vs.toArray := by
  intro rs; induction rs with
  | nil => intro l h; cases h; exact ⟨[], rfl, rfl, fun i hi => by simp at hi⟩
  | cons r rs ih =>
    have cons : ∀ {v l x vs}, VR ρ σ v x → VRs ρ σ l (List.toArray vs) → VRs ρ σ (v :: l) (List.toArray (x :: vs)) := by
      intro v l x vs hv ⟨h1, h2⟩
      simp only [List.size_toArray] at h1 h2
      refine ⟨by simp [h1], fun i hi => ?_⟩
      cases i with
      | zero => exact hv
      | succ i => simpa using h2 i (by simpa using hi)
    intro l h
    cases r with
    | tmp t =>
      simp only [resA] at h
      split at h
      · rename_i v l' he hr
        cases h
        obtain ⟨vs, h1, h2⟩ := ih hr
        have := (hB.env.2 t _ he).2
        refine ⟨a.tmps.getD t undef :: vs, ?_, cons this h2⟩
        simp only [List.mapM_cons, resF, Sem.run_bind, Sem.run_pure, Result.andThen_ok]
        rw [h1]; rfl
      · cases h
    | cell t ty =>
      simp only [resA] at h
      split at h
      · rename_i id idx sub l' he hr
        split at h
        · rename_i b hb
          split at h
          · rename_i v hidx hv
            cases h
            obtain ⟨vs, h1, h2⟩ := ih hr
            have hp := (hB.env.2 t _ he).2
            simp only [entR] at hp
            obtain ⟨vs, h1, h2⟩ := ih hr
            obtain ⟨z, hz, hzv⟩ := loadP_ok hB.inv hp hb (by simpa using hidx) hv
            refine ⟨z :: vs, ?_, cons hzv h2⟩
            simp only [List.mapM_cons]
            rw [Sem.run_bind, show (resF a.tmps (.cell t ty)).run P w = .ok z w from hz]
            simp only [Result.andThen_ok, Sem.run_bind]
            rw [h1]; rfl
          · cases h
        · cases h
      · cases h


def resO (P : Program) (env : Nat → Option Ent) (H : Heap) (rs : List ResultVar) : Option V :=
  match resA P env H rs with
  | some l => some (resV l)
  | none => none

theorem Spec.of {K : FuncId} {fn : Func} {c : Code} {args : List V} {hs E' hs' v ex} (hf : P.funcs[K]? = some fn) (hb : fn.body = some c) (hn : fn.ntmps = n) (hlen : args.length ≤ n)
    (hex : ex = .nrm ∨ ex = .ret) (h : TriF P G n hs.length c (argEnv 0 args) hs ex E' hs') (hrv : resO P (look E') (hOf hs') fn.results.toList = some v) : Spec P G K args hs v hs' := by
  obtain ⟨l, hr, hv⟩ : ∃ l, resA P (look E') (hOf hs') fn.results.toList = some l ∧ resV l = v := by
    unfold resO at hrv
    split at hrv
    · rename_i l hl; cases hrv; exact ⟨l, hl, rfl⟩
    · cases hrv
  intro ρ σ F w vals hG hA hH
  refine calls_of_wp hf hb (wp_mono (h ρ σ F _ w ⟨hG, ⟨?_, fun t e he => ?_⟩, hH⟩ rfl) ?_)
  · simp only [Array.size_append, Array.size_replicate, hn]
    have := hA.1; omega
  · obtain ⟨_, h2, h3, h4⟩ := argEnv_look args 0 t e he
    simp only [Nat.zero_add, Nat.sub_zero] at h2 h4
    have hlt : t < vals.size := by rw [← hA.1]; exact h2
    refine ⟨by omega, ?_⟩
    unfold entR
    rw [h3, h4]
    have : (vals ++ Array.replicate (fn.ntmps - vals.size) undef).getD t undef = vals[t] := by
      simp [Array.getD_eq_getD_getElem?, Array.getElem?_append_left hlt, Array.getElem?_eq_getElem hlt]
    rw [this]
    exact hA.2 t hlt
  · rintro e a' w' ⟨rfl, hd, ρ', σ', h1, h2, hB⟩
    obtain ⟨vs, hvs, hvr⟩ := resA_ok hB hr
    have hres : ∃ val, (results fn a'.tmps).run P w' = .ok val w' ∧ VR ρ' σ' v val := by
      have hrun : (results fn a'.tmps).run P w' = .ok (if h : vs.toArray.size = 1 then vs.toArray[0] else .tuple vs.toArray) w' := by
        rw [results_eq, Sem.run_bind, Array.mapM_eq_mapM_toList, Sem.run_map, hvs]; rfl
      rw [hrun]
      refine ⟨_, rfl, ?_⟩
      subst hv
      obtain ⟨hl, hvv⟩ := hvr
      by_cases h1 : vs.toArray.size = 1
      · rw [dif_pos h1]
        match l, hl with
        | [x], _ => exact hvv 0 (by omega)
        | [], hl => rw [← hl] at h1; cases h1
        | _ :: _ :: _, hl => rw [← hl] at h1; simp at h1
      · rw [dif_neg h1]
        match l, hl with
        | [x], hl => exact absurd hl.symm h1
        | [], hl => exact .tup hl hvv
        | _ :: _ :: _, hl => exact .tup hl hvv
    obtain ⟨val, hval, hvv⟩ := hres
    rcases hex with rfl | rfl
    · exact ⟨hd, val, hval, val, ρ', σ', rfl, hvv, h1, h2, hB.inv⟩
    · exact ⟨hd, val, hval, val, ρ', σ', rfl, hvv, h1, h2, hB.inv⟩

end
end Go.Proofs.YtiekchfipaiflaaGreatDoor
