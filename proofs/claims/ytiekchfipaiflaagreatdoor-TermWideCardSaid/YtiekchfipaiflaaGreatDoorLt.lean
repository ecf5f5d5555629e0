/- A region whose order is open: whatever the order, the outcome is that of the text. -/
import Derived.Test.YtiekchfipaiflaaGreatDoorLs
namespace Go.Proofs.YtiekchfipaiflaaGreatDoor
open Go

structure Item : Type 1 where
  dst : Option Nat
  names : List Nat
  fp : List Nat
  r : ROut

def Item.wr (it : Item) : List Nat := it.r.wr.map (·.1) ++ it.r.fr

section generic
variable {α : Type 1} (act : Item → (Nat → α) → Nat → α) (touch : Item → Nat → Prop)
variable (ha : ∀ it f t, ¬ touch it t → act it f t = f t) (hb : ∀ it f g t, touch it t → act it f t = act it g t)

def selA : List Item → (Nat → Bool) → Nat → (Nat → α) → (Nat → α)
  | [], _, _, f => f
  | it :: r, s, k, f => selA r s (k + 1) (match s k with | true => act it f | false => f)

include ha hb in
theorem selA_congr : ∀ (l : List Item) (s s' : Nat → Bool) (k : Nat) (f g : Nat → α) (t : Nat),
    (∀ i it, l[i]? = some it → touch it t → s (k + i) = s' (k + i)) → f t = g t → selA act l s k f t = selA act l s' k g t := by
  intro l; induction l with
  | nil => intro s s' k f g t _ h; exact h
  | cons it r ih =>
    intro s s' k f g t h hfg
    simp only [selA]
    refine ih s s' (k + 1) _ _ t (fun i it' hi ht => ?_) ?_
    · have := h (i + 1) it' (by simpa using hi) ht
      rw [show k + (i + 1) = k + 1 + i by omega] at this; exact this
    · by_cases htt : touch it t
      · have := h 0 it rfl htt
        simp only [Nat.add_zero] at this
        rw [this]
        cases s' k
        · exact hfg
        · exact hb it f g t htt
      · have e : ∀ (b : Bool) (f : Nat → α), (match b with | true => act it f | false => f) t = f t := by
          intro b f; cases b
          · rfl
          · exact ha it f t htt
        rw [e, e]; exact hfg

include ha in
theorem selA_none : ∀ (l : List Item) (s : Nat → Bool) (k : Nat) (f : Nat → α) (t : Nat), (∀ i it, l[i]? = some it → s (k + i) = true → ¬ touch it t) → selA act l s k f t = f t := by
  intro l; induction l with
  | nil => intro s k f t _; rfl
  | cons it r ih =>
    intro s k f t h
    simp only [selA]
    rw [ih s (k + 1) _ t (fun i it' hi hs => h (i + 1) it' (by simpa using hi) (by rw [show k + (i + 1) = k + 1 + i by omega]; exact hs))]
    cases hs : s k
    · rfl
    · exact ha it f t (h 0 it rfl (by simpa using hs))

include ha hb in
theorem selA_add : ∀ (l : List Item) (j : Nat) (it : Item) (s : Nat → Bool) (k : Nat) (f : Nat → α) (t : Nat), l[j]? = some it → s (k + j) = false →
    (∀ i it', j < i → l[i]? = some it' → s (k + i) = true → touch it t → ¬ touch it' t) →
    selA act l (fun i => s i || i == k + j) k f t = act it (selA act l s k f) t := by
  intro l; induction l with
  | nil => intro j it s k f t h; simp at h
  | cons x r ih =>
    intro j it s k f t hj hs hl
    cases j with
    | zero =>
      simp only [List.getElem?_cons_zero, Option.some.injEq] at hj
      subst hj
      simp only [Nat.add_zero] at hs ⊢
      simp only [selA, beq_self_eq_true, Bool.or_true, hs]
      by_cases ht : touch x t
      · rw [hb x _ f t ht]
        refine selA_none act touch ha r _ (k + 1) _ t (fun i it' hi hsi => ?_)
        have hsi' : s (k + (i + 1)) = true := by
          simp only [Bool.or_eq_true, beq_iff_eq] at hsi
          rcases hsi with h | h
          · rw [show k + (i + 1) = k + 1 + i by omega]; exact h
          · omega
        exact hl (i + 1) it' (by omega) (by simpa using hi) hsi' ht
      · rw [ha x _ t ht]
        refine selA_congr act touch ha hb r _ _ (k + 1) _ _ t (fun i it' hi _ => ?_) (ha x f t ht)
        have : (k + 1 + i == k) = false := by simp; omega
        rw [this, Bool.or_false]
    | succ j =>
      simp only [selA]
      have e0 : (s k || k == k + (j + 1)) = s k := by
        have : (k == k + (j + 1)) = false := by simp
        rw [this, Bool.or_false]
      rw [e0]
      have := ih j it s (k + 1) (match s k with | true => act x f | false => f) t (by simpa using hj) (by rw [show k + 1 + j = k + (j + 1) by omega]; exact hs) (fun i it' hi hit hsi => hl (i + 1) it' (by omega) (by simpa using hit) (by rw [show k + (i + 1) = k + 1 + i by omega]; exact hsi))
      rw [show k + 1 + j = k + (j + 1) by omega] at this
      exact this

end generic

def putF (d : Option Nat) (e : Ent) (E : Nat → Option Ent) : Nat → Option Ent := fun t =>
  match d with
  | some s => (match Nat.beq s t with | true => some e | false => E t)
  | none => E t
def actE (it : Item) (E : Nat → Option Ent) : Nat → Option Ent := putF it.dst it.r.e E
def actH (it : Item) (H : Heap) : Heap := applyW it.r.wr H
def touchE (it : Item) (t : Nat) : Prop := it.dst = some t
def touchH (it : Item) (t : Nat) : Prop := t ∈ it.r.wr.map (·.1)

theorem look_put (env : Env) (d : Option Nat) (e : Ent) : look (putE env d e) = putF d e (look env) := by
  funext t
  cases d <;> rfl

theorem actE_a (it : Item) (f : Nat → Option Ent) (t : Nat) (h : ¬ touchE it t) : actE it f t = f t := by
  unfold actE putF
  cases hd : it.dst with
  | none => rfl
  | some s =>
    simp only
    cases hb : Nat.beq s t with
    | false => rfl
    | true => exact absurd (by rw [touchE, hd, Nat.eq_of_beq_eq_true hb]) h
theorem actE_b (it : Item) (f g : Nat → Option Ent) (t : Nat) (h : touchE it t) : actE it f t = actE it g t := by
  unfold actE putF
  rw [h]; simp
theorem applyW_out : ∀ (wr : List (Nat × Option Blk)) (H : Heap) (t : Nat), t ∉ wr.map (·.1) → applyW wr H t = H t := by
  intro wr; induction wr with
  | nil => intro H t _; rfl
  | cons p r ih =>
    intro H t h
    simp only [List.map_cons, List.mem_cons, not_or] at h
    show applyW r (upd H p.1 p.2) t = H t
    rw [ih _ t h.2, upd_ne _ _ _ h.1]
theorem applyW_in : ∀ (wr : List (Nat × Option Blk)) (H H' : Heap) (t : Nat), t ∈ wr.map (·.1) → applyW wr H t = applyW wr H' t := by
  intro wr; induction wr with
  | nil => intro H H' t h; cases h
  | cons p r ih =>
    intro H H' t h
    show applyW r (upd H p.1 p.2) t = applyW r (upd H' p.1 p.2) t
    by_cases hr : t ∈ r.map (·.1)
    · exact ih _ _ t hr
    · rw [applyW_out r _ t hr, applyW_out r _ t hr]
      simp only [List.map_cons, List.mem_cons] at h
      rcases h with h | h
      · subst h; rw [upd_same, upd_same]
      · exact absurd h hr
theorem actH_a (it : Item) (f : Heap) (t : Nat) (h : ¬ touchH it t) : actH it f t = f t := applyW_out _ _ _ h
theorem actH_b (it : Item) (f g : Heap) (t : Nat) (h : touchH it t) : actH it f t = actH it g t := applyW_in _ _ _ _ h

/-- The run in the order of the text, its steps noted. -/
def runI {P : Program} {G : Glob} (ops : List Oper) : List Oper → List (RAnn P G) → PSt → Option (List Item × PSt)
  | [], [], st => some ([], st)
  | o :: os, an :: ans, st => match stepR ops o an (look st.env) st.H with
    | none => none
    | some r => match takes st.N r.fr with
      | none => none
      | some N => match wrLow N r.wr with
        | true => match runI ops os ans ⟨st.C ++ r.C, st.S ++ r.S, st.T ++ r.T, putE st.env o.dst r.e, applyW r.wr st.H, N⟩ with
          | some (l, st') => some (⟨o.dst, namesOf ops o, fpOf o an (look st.env), r⟩ :: l, st')
          | none => none
        | false => none
  | _, _, _ => none

structure StepAt {P : Program} {G : Glob} (ops : List Oper) (o : Oper) (it : Item) (E : Nat → Option Ent) (H : Heap) (st' : PSt) (N N' : Nat) : Prop where
  dst : it.dst = o.dst
  names : it.names = namesOf ops o
  step : ∃ (an : RAnn P G) (E0 : Nat → Option Ent) (H0 : Heap), stepR ops o an E0 H0 = some it.r ∧ it.fp = fpOf o an E0 ∧ (∀ t, E0 t = E t) ∧ (∀ t, H0 t = H t)
  C : allP st'.C → allP it.r.C
  S : allS st'.S → allS it.r.S
  T : allT st'.T → allT it.r.T
  nd : it.r.fr.Nodup
  fr : ∀ i ∈ it.r.fr, N ≤ i
  wr : ∀ i ∈ it.r.wr.map (·.1), i < N'

theorem runI_ok {P : Program} {G : Glob} {ops : List Oper} : ∀ (os : List Oper) (ans : List (RAnn P G)) (st st' : PSt) (l : List Item) (k : Nat), runI ops os ans st = some (l, st') →
    l.length = os.length ∧ st.N ≤ st'.N ∧ ((allP st'.C → allP st.C) ∧ (allS st'.S → allS st.S) ∧ (allT st'.T → allT st.T)) ∧
    (∀ t, look st'.env t = selA actE l (fun _ => true) k (look st.env) t) ∧ (∀ t, st'.H t = selA actH l (fun _ => true) k st.H t) ∧
    (∀ (q j : Nat) (it' it : Item), q < j → l[q]? = some it' → l[j]? = some it → ∀ i ∈ it.r.fr, i ∉ it'.r.wr.map (·.1)) ∧
    ∀ j o it, os[j]? = some o → l[j]? = some it → StepAt (P := P) (G := G) ops o it (selA actE l (fun i => decide (i < k + j)) k (look st.env)) (selA actH l (fun i => decide (i < k + j)) k st.H) st' st.N st'.N := by
  intro os; induction os with
  | nil =>
    intro ans st st' l k h
    cases ans with
    | nil => cases h; exact ⟨rfl, Nat.le_refl _, ⟨id, id, id⟩, fun _ => rfl, fun _ => rfl, fun q j it' it _ hq => by simp at hq, fun j o it ho => by simp at ho⟩
    | cons => cases h
  | cons o os ih =>
    intro ans st st' l k h
    cases ans with
    | nil => cases h
    | cons an ans =>
      unfold runI at h
      split at h
      · cases h
      · rename_i r hr
        split at h
        · cases h
        · rename_i N hN
          split at h
          · rename_i hlow
            split at h
            · rename_i l' st'' hrec
              cases h
              obtain ⟨h1, h2, ⟨m1, m2, m3⟩, h4, h5, hlate, h6⟩ := ih _ _ _ _ (k + 1) hrec
              obtain ⟨hle, hnd, hfr⟩ := takes_ok hN
              dsimp only at h2 m1 m2 m3 h4 h5 h6
              rw [look_put] at h4 h6
              refine ⟨by simp [h1], Nat.le_trans hle h2, ⟨fun x => (allP_append (m1 x)).1, fun x => (allS_append (m2 x)).1, fun x => (allT_append (m3 x)).1⟩, fun t => ?_, fun t => ?_, ?_, ?_⟩
              · rw [h4 t]; rfl
              · rw [h5 t]; rfl
              · intro q j it' it hqj hq hj i hi
                cases j with
                | zero => omega
                | succ j =>
                  have hj' : l'[j]? = some it := by simpa using hj
                  cases q with
                  | zero =>
                    simp only [List.getElem?_cons_zero, Option.some.injEq] at hq
                    subst hq
                    have hlt := (List.getElem?_eq_some_iff.1 hj').1
                    have hoj : os[j]? = some (os[j]'(by omega)) := List.getElem?_eq_getElem _
                    have := (h6 j _ it hoj hj').fr i hi
                    intro hw
                    have := wrLow_ok hlow i hw
                    omega
                  | succ q => exact hlate q j it' it (by omega) (by simpa using hq) hj' i hi
              · intro j o' it ho hit
                cases j with
                | zero =>
                  simp only [List.getElem?_cons_zero, Option.some.injEq] at ho hit
                  subst ho; subst hit
                  refine ⟨rfl, rfl, ⟨an, look st.env, st.H, hr, rfl, fun t => ?_, fun t => ?_⟩, fun x => (allP_append (m1 x)).2, fun x => (allS_append (m2 x)).2, fun x => (allT_append (m3 x)).2, hnd, fun i hi => (hfr i hi).1, fun i hi => Nat.lt_of_lt_of_le (wrLow_ok hlow i hi) h2⟩
                  · rw [selA_none actE touchE actE_a]
                    intro i it' _ hs; simp at hs; omega
                  · rw [selA_none actH touchH actH_a]
                    intro i it' _ hs; simp at hs; omega
                | succ j =>
                  have := h6 j o' it (by simpa using ho) (by simpa using hit)
                  have e1 : (fun i => decide (i < k + 1 + j)) = fun i => decide (i < k + (j + 1)) := by funext i; congr 1; rw [show k + 1 + j = k + (j + 1) by omega]
                  rw [e1] at this
                  have e2 : decide (k < k + (j + 1)) = true := by simp
                  obtain ⟨a1, a2, ⟨an', E0, H0, b1, b2, b3, b4⟩, a4, a5, a6, a7, a8, a9⟩ := this
                  refine ⟨a1, a2, ⟨an', E0, H0, b1, b2, fun t => ?_, fun t => ?_⟩, a4, a5, a6, a7, fun i hi => Nat.le_trans hle (a8 i hi), a9⟩
                  · rw [b3 t]; simp only [selA, e2]; rfl
                  · rw [b4 t]; simp only [selA, e2]; rfl
            · cases h
          · cases h

end Go.Proofs.YtiekchfipaiflaaGreatDoor
