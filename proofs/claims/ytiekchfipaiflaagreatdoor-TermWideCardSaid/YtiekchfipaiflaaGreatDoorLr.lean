/- Regions in the order of their text; paths through code. -/
import Derived.Test.YtiekchfipaiflaaGreatDoorLq
namespace Go.Proofs.YtiekchfipaiflaaGreatDoor
open Go

/-- The numbers are free and rise. -/
def takes : Nat → List Nat → Option Nat
  | n, [] => some n
  | n, i :: r => match Nat.ble n i with
    | true => takes (i + 1) r
    | false => none

theorem takes_ok : ∀ {l : List Nat} {n m : Nat}, takes n l = some m → n ≤ m ∧ l.Nodup ∧ (∀ i ∈ l, n ≤ i ∧ i < m) := by
  intro l; induction l with
  | nil => intro n m h; cases h; exact ⟨Nat.le_refl _, List.nodup_nil, fun i hi => by cases hi⟩
  | cons i r ih =>
    intro n m h
    unfold takes at h
    split at h
    · rename_i hb
      have hb' : n ≤ i := Nat.le_of_ble_eq_true hb
      obtain ⟨h1, h2, h3⟩ := ih h
      refine ⟨by omega, List.nodup_cons.2 ⟨fun hm => by have := (h3 i hm).1; omega, h2⟩, fun j hj => ?_⟩
      cases hj with
      | head => exact ⟨hb', by omega⟩
      | tail _ hj => have := h3 j hj; exact ⟨by omega, this.2⟩
    · cases h

structure PSt : Type 1 where
  C : List Prop
  S : List (List V × List V)
  T : List (Option Core × Option Core)
  env : Env
  H : Heap
  N : Nat

def putE (env : Env) (d : Option Nat) (e : Ent) : Env :=
  match d with
  | some t => (t, e) :: env
  | none => env

def wrLow (N : Nat) : List (Nat × Option Blk) → Bool
  | [] => true
  | (i, _) :: r => Nat.blt i N && wrLow N r

def runR {P : Program} {G : Glob} (ops : List Oper) : List Oper → List (RAnn P G) → PSt → Option PSt
  | [], [], st => some st
  | o :: os, an :: ans, st => match stepR ops o an (look st.env) st.H with
    | none => none
    | some r => match takes st.N r.fr with
      | none => none
      | some N => match wrLow N r.wr with
        | true => runR ops os ans ⟨st.C ++ r.C, st.S ++ r.S, st.T ++ r.T, putE st.env o.dst r.e, applyW r.wr st.H, N⟩
        | false => none
  | _, _, _ => none

theorem allS_append {a b : List (List V × List V)} (h : allS (a ++ b)) : allS a ∧ allS b := by
  induction a with
  | nil => exact ⟨trivial, h⟩
  | cons x r ih => exact ⟨⟨h.1, (ih h.2).1⟩, (ih h.2).2⟩
theorem allT_append {a b : List (Option Core × Option Core)} (h : allT (a ++ b)) : allT a ∧ allT b := by
  induction a with
  | nil => exact ⟨trivial, h⟩
  | cons x r ih => exact ⟨⟨h.1, (ih h.2).1⟩, (ih h.2).2⟩

theorem wrLow_ok {N : Nat} : ∀ {wr : List (Nat × Option Blk)}, wrLow N wr = true → ∀ i ∈ wr.map (·.1), i < N := by
  intro wr; induction wr with
  | nil => intro _ i hi; cases hi
  | cons p r ih =>
    obtain ⟨j, b⟩ := p
    intro h i hi
    simp only [wrLow, Bool.and_eq_true] at h
    cases hi with
    | head => simpa using h.1
    | tail _ hi => exact ih h.2 i hi

/-- What a run of operations adds holds what it began with. -/
theorem runR_mono {P : Program} {G : Glob} {ops : List Oper} : ∀ (os : List Oper) (ans : List (RAnn P G)) (st st' : PSt), runR ops os ans st = some st' →
    (allP st'.C → allP st.C) ∧ (allS st'.S → allS st.S) ∧ (allT st'.T → allT st.T) := by
  intro os; induction os with
  | nil =>
    intro ans st st' h
    cases ans with
    | nil => cases h; exact ⟨id, id, id⟩
    | cons => cases h
  | cons o os ih =>
    intro ans st st' h
    cases ans with
    | nil => cases h
    | cons an ans =>
      unfold runR at h
      split at h
      · cases h
      · split at h
        · cases h
        · split at h
          · obtain ⟨h1, h2, h3⟩ := ih _ _ _ h
            exact ⟨fun x => (allP_append (h1 x)).1, fun x => (allS_append (h2 x)).1, fun x => (allT_append (h3 x)).1⟩
          · cases h

/-- A frame and a world bear a state. -/
structure Bears (G : Glob) (ρ : Mem) (σ : Sig) (F : Fr) (n : Nat) (env : Nat → Option Ent) (H : Heap) (N : Nat) (a : Act) (w : World) : Prop where
  gr : GR G ρ
  env : EnvR ρ σ env n a.tmps
  inv : HInv ρ σ (· < N) H F w

def noDefer : Op → Bool
  | .defer _ => false
  | _ => true
def dstsLow (n : Nat) : List Oper → Bool
  | [] => true
  | o :: r => (noDefer o.op && (match o.dst with
    | some d => Nat.blt d n
    | none => true)) && dstsLow n r

theorem EnvR_put {ρ σ env n a d e x} (h : EnvR ρ σ (look env) n (Act.tmps a)) (hd : ∀ t, d = some t → t < n) (he : entR ρ σ e x) : EnvR ρ σ (look (putE env d e)) n (a.put d x).tmps := by
  cases d with
  | none => exact h
  | some t =>
    refine ⟨by simp [Act.put]; exact h.1, fun s f hs => ?_⟩
    simp only [putE, look] at hs
    by_cases hts : t = s
    · subst hts
      simp only [Nat.beq_refl] at hs
      cases hs
      have hlt := hd t rfl
      refine ⟨hlt, ?_⟩
      have : t < a.tmps.size := by rw [h.1]; exact hlt
      simp only [Act.put]
      have e1 : (a.tmps.setIfInBounds t x).getD t undef = x := by simp [Array.getD, this]
      rw [e1]; exact he
    · have : Nat.beq t s = false := by
        cases hb : Nat.beq t s with
        | false => rfl
        | true => exact absurd (Nat.eq_of_beq_eq_true hb) hts
      rw [this] at hs
      obtain ⟨h1, h2⟩ := h.2 s f hs
      refine ⟨h1, ?_⟩
      simp only [Act.put]
      have e1 : (a.tmps.setIfInBounds t x).getD s undef = a.tmps.getD s undef := by
        simp only [Array.getD_eq_getD_getElem?]
        rw [Array.getElem?_setIfInBounds_ne hts]
      rw [e1]; exact h2

theorem runR_ok {P : Program} {G : Glob} {ρ0 : Mem} {σ0 : Sig} {F : Fr} {n : Nat} {ops : Array Oper} {Q : Exit → Act → World → Prop} (hdst : ∀ o ∈ ops.toList, ∀ d, o.dst = some d → d < n) :
    ∀ (os : List Oper) (k : Nat) (ans : List (RAnn P G)) (st st' : PSt) (ρ : Mem) (σ : Sig) (a : Act) (w : World),
      ops.toList.drop k = os → runR ops.toList os ans st = some st' → allP st'.C → allS st'.S → allT st'.T →
      leR F ρ0 ρ → leS σ0 σ → Bears G ρ σ F n (look st.env) st.H st.N a w →
      (∀ ρ' σ' a' w', leR F ρ0 ρ' → leS σ0 σ' → a'.defers = a.defers → Bears G ρ' σ' F n (look st'.env) st'.H st'.N a' w' → Q .normal a' w') →
      wpOps P ops Q (List.range' k os.length) a w := by
  intro os; induction os with
  | nil =>
    intro k ans st st' ρ σ a w _ h hC hS hT hρ hσ hB hQ
    cases ans with
    | nil => cases h; exact hQ ρ σ a w hρ hσ rfl hB
    | cons => cases h
  | cons o os ih =>
    intro k ans st st' ρ σ a w hk h hC hS hT hρ hσ hB hQ
    cases ans with
    | nil => cases h
    | cons an ans =>
      have hmono := runR_mono (o :: os) (an :: ans) st st' h
      unfold runR at h
      split at h
      · cases h
      · rename_i r hr
        split at h
        · cases h
        · rename_i N hN
          split at h
          · rename_i hlow
            obtain ⟨m1, m2, m3⟩ := runR_mono _ _ _ _ h
            have hC' := (allP_append (m1 hC)).2
            have hS' := (allS_append (m2 hS)).2
            have hT' := (allT_append (m3 hT)).2
            obtain ⟨hle, hnd, hfr⟩ := takes_ok hN
            have hko : ops[k]? = some o := by
              have : ops.toList[k]? = some o := by
                have := congrArg (·[0]?) hk
                simpa [List.getElem?_drop] using this
              simpa using this
            have hmem : o ∈ ops.toList := List.mem_of_getElem? (by simpa using hko : ops.toList[k]? = some o)
            rw [show (o :: os).length = os.length + 1 from rfl, List.range'_succ]
            simp only [wpOps, hko]
            refine stepR_ok hr hC' hS' hT' hB.gr hB.env hB.inv (fun i hi => ?_) hnd ?_
            · cases hs : σ i with
              | none => rfl
              | some L => have := hB.inv.dom i L hs; have := (hfr i hi).1; omega
            · intro x ρ' σ' w' hρ' hσ' he hH'
              refine ih (k + 1) ans _ st' ρ' σ' _ w' ?_ h hC hS hT (hρ.trans hρ') (hσ.trans hσ') ?_ ?_
              · rw [← List.drop_drop, hk]; rfl
              · refine ⟨hB.gr.mono hρ'.m, EnvR_put (hB.env.mono hρ'.m hσ') (hdst o hmem) he, hH'.wider (fun i hi => ?_)⟩
                rcases hi with hi | hi
                · exact Nat.lt_of_lt_of_le hi hle
                · exact wrLow_ok hlow i hi
              · intro ρ'' σ'' a'' w'' h1 h2 h3 h4
                exact hQ ρ'' σ'' a'' w'' h1 h2 (by rw [h3]; cases o.dst <;> rfl) h4
          · cases h

theorem dstsLow_ok {n : Nat} : ∀ {l : List Oper}, dstsLow n l = true → ∀ o ∈ l, ∀ d, o.dst = some d → d < n := by
  intro l; induction l with
  | nil => intro _ o ho; cases ho
  | cons x r ih =>
    intro h o ho d hd
    simp only [dstsLow, Bool.and_eq_true] at h
    cases ho with
    | head =>
      have := h.1.2
      rw [hd] at this
      simpa using this
    | tail _ ho => exact ih h.2 o ho d hd
theorem noDefer_ok {n : Nat} : ∀ {l : List Oper}, dstsLow n l = true → ∀ o ∈ l, ∀ c, o.op ≠ .defer c := by
  intro l; induction l with
  | nil => intro _ o ho; cases ho
  | cons x r ih =>
    intro h o ho c hc
    simp only [dstsLow, Bool.and_eq_true] at h
    cases ho with
    | head => have := h.1.1; rw [hc] at this; cases this
    | tail _ ho => exact ih h.2 o ho c hc

end Go.Proofs.YtiekchfipaiflaaGreatDoor
