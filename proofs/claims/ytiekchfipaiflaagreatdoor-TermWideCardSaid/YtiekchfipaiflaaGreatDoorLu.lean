/- A region whose order is open: the theorem. -/
import Derived.Test.YtiekchfipaiflaaGreatDoorLt
namespace Go.Proofs.YtiekchfipaiflaaGreatDoor
open Go

def memB (x : Nat) : List Nat → Bool
  | [] => false
  | y :: r => Nat.beq x y || memB x r
theorem memB_ok {x : Nat} : ∀ {l : List Nat}, memB x l = false → x ∉ l := by
  intro l; induction l with
  | nil => intro _ h; cases h
  | cons y r ih =>
    intro h hm
    simp only [memB, Bool.or_eq_false_iff] at h
    cases hm with
    | head => simp at h
    | tail _ hm => exact ih h.2 hm
def apartL : List Nat → List Nat → Bool
  | [], _ => true
  | x :: r, l => !memB x l && apartL r l
theorem apartL_ok : ∀ {a b : List Nat}, apartL a b = true → ∀ x, x ∈ a → x ∉ b := by
  intro a; induction a with
  | nil => intro b _ x hx; cases hx
  | cons y r ih =>
    intro b h x hx
    simp only [apartL, Bool.and_eq_true, Bool.not_eq_true'] at h
    cases hx with
    | head => exact memB_ok h.1
    | tail _ hx => exact ih h.2 x hx
def dstApart (d : Option Nat) (l : List Nat) : Bool :=
  match d with
  | none => true
  | some t => !memB t l
def dstNe (d e : Option Nat) : Bool :=
  match d, e with
  | some t, some u => !Nat.beq t u
  | _, _ => true

def indep (a b : Item) : Bool :=
  dstApart a.dst b.names && (dstNe a.dst b.dst && (dstApart b.dst a.names && (apartL a.wr b.fp && (apartL a.wr b.wr && apartL b.wr a.fp))))

structure Indep (a b : Item) : Prop where
  ab : ∀ t, a.dst = some t → t ∉ b.names
  ne : ∀ t, a.dst = some t → b.dst ≠ some t
  ba : ∀ t, b.dst = some t → t ∉ a.names
  wf : ∀ x, x ∈ a.wr → x ∉ b.fp
  ww : ∀ x, x ∈ a.wr → x ∉ b.wr
  fw : ∀ x, x ∈ b.wr → x ∉ a.fp
theorem indep_ok {a b : Item} (h : indep a b = true) : Indep a b := by
  simp only [indep, Bool.and_eq_true] at h
  obtain ⟨h1, h2, h3, h4, h5, h6⟩ := h
  refine ⟨?_, ?_, ?_, apartL_ok h4, apartL_ok h5, apartL_ok h6⟩
  · intro t ht
    rw [ht] at h1
    simp only [dstApart, Bool.not_eq_true'] at h1
    exact memB_ok h1
  · intro t ht hb
    rw [ht, hb] at h2
    simp [dstNe] at h2
  · intro t ht
    rw [ht] at h3
    simp only [dstApart, Bool.not_eq_true'] at h3
    exact memB_ok h3

/-- What stands ahead of an operation, by the edges, through others too. -/
def maskOf (acc : List Nat) : List Edge → Nat
  | [] => 0
  | e :: r => (match Region.binds .any e with | true => 2 ^ e.on ||| acc.getD e.on 0 | false => 0) ||| maskOf acc r
def masks : List Oper → List Nat → List Nat
  | [], acc => acc
  | o :: r, acc => masks r (acc ++ [maskOf acc o.after.toList])
def edgesLow : Nat → List Edge → Bool
  | _, [] => true
  | j, e :: r => (!Region.binds .any e || Nat.blt e.on j) && edgesLow j r
def allLow : Nat → List Oper → Bool
  | _, [] => true
  | j, o :: r => edgesLow j o.after.toList && allLow (j + 1) r

def pairs : List Nat → List (Nat × Item) → Nat → List Item → Bool
  | m :: ms, done, j, it :: r => (done.all fun p => Nat.testBit m p.1 || indep p.2 it) && pairs ms ((j, it) :: done) (j + 1) r
  | _, _, _, [] => true
  | [], _, _, _ :: _ => false

theorem pairs_ok : ∀ (l : List Item) (ms : List Nat) (done : List (Nat × Item)) (k : Nat), pairs ms done k l = true →
    ∀ j it, l[j]? = some it → ∃ m, ms[j]? = some m ∧ (∀ p ∈ done, Nat.testBit m p.1 = true ∨ Indep p.2 it) ∧ ∀ i it', i < j → l[i]? = some it' → Nat.testBit m (k + i) = true ∨ Indep it' it := by
  intro l; induction l with
  | nil => intro ms done k _ j it h; simp at h
  | cons x r ih =>
    intro ms done k h j it hj
    cases ms with
    | nil => simp [pairs] at h
    | cons m ms =>
      simp only [pairs, Bool.and_eq_true, List.all_eq_true] at h
      cases j with
      | zero =>
        simp only [List.getElem?_cons_zero, Option.some.injEq] at hj
        subst hj
        refine ⟨m, rfl, fun p hp => ?_, fun i it' hi => by omega⟩
        have := h.1 p hp
        simp only [Bool.or_eq_true] at this
        exact this.imp id indep_ok
      | succ j =>
        obtain ⟨m', h1, h2, h3⟩ := ih ms ((k, x) :: done) (k + 1) h.2 j it (by simpa using hj)
        refine ⟨m', by simpa using h1, fun p hp => h2 p (.tail _ hp), fun i it' hi hit => ?_⟩
        cases i with
        | zero =>
          simp only [List.getElem?_cons_zero, Option.some.injEq] at hit
          subst hit
          exact h2 (k, x) (.head _)
        | succ i =>
          have := h3 i it' (by omega) (by simpa using hit)
          rw [show k + (i + 1) = k + 1 + i by omega]; exact this

def Closed (ops : List Oper) (S : Nat → Prop) : Prop := ∀ j o, ops[j]? = some o → S j → ∀ e ∈ o.after.toList, Region.binds .any e = true → S e.on

theorem maskOf_bit {acc : List Nat} {i : Nat} : ∀ {es : List Edge}, Nat.testBit (maskOf acc es) i = true → ∃ e ∈ es, Region.binds .any e = true ∧ (e.on = i ∨ Nat.testBit (acc.getD e.on 0) i = true) := by
  intro es; induction es with
  | nil => intro h; simp [maskOf] at h
  | cons e r ih =>
    intro h
    simp only [maskOf, Nat.testBit_or, Bool.or_eq_true] at h
    rcases h with h | h
    · split at h
      · rename_i hb
        simp only [Nat.testBit_or, Nat.testBit_two_pow, Bool.or_eq_true, decide_eq_true_eq] at h
        exact ⟨e, .head _, hb, h⟩
      · simp at h
    · obtain ⟨e', he, hb, h'⟩ := ih h
      exact ⟨e', .tail _ he, hb, h'⟩

theorem masks_ok (all : List Oper) : ∀ (os : List Oper) (acc : List Nat) (pre : List Oper), all = pre ++ os → acc.length = pre.length →
    (∀ (j m : Nat), acc[j]? = some m → ∀ i, Nat.testBit m i = true → ∀ S, Closed all S → (∀ (o : Oper), all[j]? = some o → ∀ e ∈ o.after.toList, Region.binds .any e = true → S e.on) → S i) →
    ∀ (j m : Nat), (masks os acc)[j]? = some m → ∀ i, Nat.testBit m i = true → ∀ S, Closed all S → (∀ (o : Oper), all[j]? = some o → ∀ e ∈ o.after.toList, Region.binds .any e = true → S e.on) → S i := by
  intro os; induction os with
  | nil => intro acc pre _ _ h; exact h
  | cons o r ih =>
    intro acc pre hall hlen h
    refine ih (acc ++ [maskOf acc o.after.toList]) (pre ++ [o]) (by rw [hall]; simp) (by simp [hlen]) ?_
    intro j m hj i hi S hS hd
    by_cases hlt : j < acc.length
    · rw [List.getElem?_append_left hlt] at hj
      exact h j m hj i hi S hS hd
    · have hje : j = acc.length := by
        have := (List.getElem?_eq_some_iff.1 hj).1
        simp at this; omega
      subst hje
      rw [List.getElem?_append_right (Nat.le_refl _)] at hj
      simp only [Nat.sub_self, List.getElem?_cons_zero, Option.some.injEq] at hj
      subst hj
      obtain ⟨e, he, hb, h'⟩ := maskOf_bit hi
      have ho : all[acc.length]? = some o := by rw [hall, hlen]; simp
      have hSe := hd o ho e he hb
      rcases h' with h' | h'
      · rw [← h']; exact hSe
      · cases hg : acc[e.on]? with
        | none =>
          rw [List.getD_eq_getElem?_getD, hg] at h'
          simp at h'
        | some m =>
          rw [List.getD_eq_getElem?_getD, hg] at h'
          exact h e.on m hg i h' S hS (fun o' ho' e' he' hb' => hS e.on o' ho' hSe e' he' hb')

theorem edgesLow_ok {j : Nat} : ∀ {es : List Edge}, edgesLow j es = true → ∀ e ∈ es, Region.binds .any e = true → e.on < j := by
  intro es; induction es with
  | nil => intro _ e he; cases he
  | cons x r ih =>
    intro h e he hb
    simp only [edgesLow, Bool.and_eq_true, Bool.or_eq_true, Bool.not_eq_true'] at h
    cases he with
    | head =>
      rcases h.1 with h1 | h1
      · rw [hb] at h1; cases h1
      · simpa using h1
    | tail _ he => exact ih h.2 e he hb
theorem allLow_ok : ∀ {os : List Oper} {k : Nat}, allLow k os = true → ∀ j o, os[j]? = some o → ∀ e ∈ o.after.toList, Region.binds .any e = true → e.on < k + j := by
  intro os; induction os with
  | nil => intro k _ j o h; simp at h
  | cons x r ih =>
    intro k h j o hj e he hb
    simp only [allLow, Bool.and_eq_true] at h
    cases j with
    | zero =>
      simp only [List.getElem?_cons_zero, Option.some.injEq] at hj
      subst hj
      exact edgesLow_ok h.1 e he hb
    | succ j =>
      have := ih h.2 j o (by simpa using hj) e he hb
      omega

def unl (l : List Bool) : Nat := l.countP (!·)
theorem unl_set : ∀ (l : List Bool) (i : Nat), l[i]? = some false → unl (l.set i true) + 1 = unl l := by
  intro l; induction l with
  | nil => intro i h; simp at h
  | cons x r ih =>
    intro i h
    cases i with
    | zero =>
      simp only [List.getElem?_cons_zero, Option.some.injEq] at h
      subst h
      simp [unl, List.countP_cons]
    | succ i =>
      have := ih i (by simpa using h)
      simp only [unl, List.set_cons_succ, List.countP_cons] at this ⊢
      omega
theorem unl_zero : ∀ {l : List Bool}, unl l = 0 → ∀ (i : Nat) (b : Bool), l[i]? = some b → b = true := by
  intro l h i b hb
  cases b with
  | true => rfl
  | false =>
    have := unl_set l i hb
    omega

theorem ready_mem {ops : Array Oper} {listed : Array Bool} {i : Nat} (h : i ∈ Region.ready .any ops listed) :
    ∃ o, ops[i]? = some o ∧ listed.getD i true = false ∧ ∀ e ∈ o.after.toList, Region.binds .any e = true → listed.getD e.on false = true := by
  simp only [Region.ready, List.mem_filter, List.mem_range, Bool.and_eq_true, Bool.not_eq_true'] at h
  obtain ⟨hlt, h1, h2⟩ := h
  have ho : ops[i]? = some ops[i] := Array.getElem?_eq_getElem hlt
  refine ⟨ops[i], ho, h1, fun e he hb => ?_⟩
  rw [ho] at h2
  simp only [Option.map_some, Option.getD_some, Array.all_eq_true'] at h2
  have := h2 e (by simpa using he)
  simp only [hb, Bool.not_true, Bool.false_or] at this
  exact this

theorem ready_min {ops : Array Oper} {listed : Array Bool} (hl : listed.size = ops.size) (hlow : allLow 0 ops.toList = true) (hr : Region.ready .any ops listed = []) : ∀ i, i < ops.size → listed.getD i false = true := by
  intro i
  induction i using Nat.strongRecOn with
  | _ i ih =>
    intro hi
    cases hb : listed.getD i false with
    | true => rfl
    | false =>
      exfalso
      have hi' : i < listed.size := by omega
      have hb' : listed.getD i true = false := by
        simp only [Array.getD_eq_getD_getElem?, Array.getElem?_eq_getElem hi', Option.getD_some] at hb ⊢
        exact hb
      have : i ∈ Region.ready .any ops listed := by
        simp only [Region.ready, List.mem_filter, List.mem_range, Bool.and_eq_true, Bool.not_eq_true']
        refine ⟨hi, hb', ?_⟩
        rw [Array.getElem?_eq_getElem hi]
        simp only [Option.map_some, Option.getD_some, Array.all_eq_true']
        intro e he
        cases hbe : Region.binds .any e with
        | false => simp
        | true =>
          have := allLow_ok hlow i ops[i] (by simp [hi]) e (by simpa using he) hbe
          simp only [Bool.not_true, Bool.false_or]
          exact ih e.on (by omega) (by omega)
      rw [hr] at this; cases this


theorem applyW_step {it : Item} {H : Heap} : applyW it.r.wr H = actH it H := rfl

section
variable {P : Program} {G : Glob} {ρ0 : Mem} {σ0 : Sig} {F : Fr} {n : Nat} {ops : Array Oper} {Q : Exit → Act → World → Prop} {st st' : PSt} {items : List Item} {dfs : List Deferred}

def selOf (listed : Array Bool) (i : Nat) : Bool := listed.getD i false

structure DInv (G : Glob) (ρ0 : Mem) (σ0 : Sig) (F : Fr) (n : Nat) (items : List Item) (st : PSt) (dfs : List Deferred) (listed : Array Bool) (a : Act) (w : World) : Prop where
  ex : ∃ ρ σ, leR F ρ0 ρ ∧ leS σ0 σ ∧ GR G ρ ∧ EnvR ρ σ (selA actE items (selOf listed) 0 (look st.env)) n a.tmps ∧
    HInv ρ σ (fun i => i < st.N ∨ ∃ k it, items[k]? = some it ∧ selOf listed k = true ∧ i ∈ it.r.wr.map (·.1)) (selA actH items (selOf listed) 0 st.H) F w
  dfs : a.defers = dfs

theorem EnvR.congr {ρ σ E E' n tmps} (h : EnvR ρ σ E n tmps) (he : ∀ t, E' t = E t) : EnvR ρ σ E' n tmps := by
  have : E' = E := funext he
  rw [this]; exact h
theorem EnvR_putF {ρ σ n a d e x} {E : Nat → Option Ent} (h : EnvR ρ σ E n (Act.tmps a)) (hd : ∀ t, d = some t → t < n) (he : entR ρ σ e x) : EnvR ρ σ (putF d e E) n (a.put d x).tmps := by
  cases d with
  | none => exact h
  | some t =>
    refine ⟨by simp [Act.put]; exact h.1, fun s f hs => ?_⟩
    simp only [putF] at hs
    by_cases hts : t = s
    · subst hts
      simp only [Nat.beq_refl] at hs
      cases hs
      have hlt := hd t rfl
      refine ⟨hlt, ?_⟩
      have : t < a.tmps.size := by rw [h.1]; exact hlt
      simp only [Act.put]
      have e1 : (a.tmps.setIfInBounds t x).getD t undef = x := by simp [Array.getD, this]
      rw [e1]; exact he
    · have : Nat.beq t s = false := by
        cases hb : Nat.beq t s with
        | false => rfl
        | true => exact absurd (Nat.eq_of_beq_eq_true hb) hts
      rw [this] at hs
      obtain ⟨h1, h2⟩ := h.2 s f hs
      refine ⟨h1, ?_⟩
      simp only [Act.put]
      have e1 : (a.tmps.setIfInBounds t x).getD s undef = a.tmps.getD s undef := by
        simp only [Array.getD_eq_getD_getElem?]
        rw [Array.getElem?_setIfInBounds_ne hts]
      rw [e1]; exact h2

theorem drawAny (hdst : ∀ o ∈ ops.toList, ∀ d, o.dst = some d → d < n) {anns : List (RAnn P G)}
    (hrun : runI ops.toList ops.toList anns st = some (items, st')) (hp : pairs (masks ops.toList []) [] 0 items = true) (hlow : allLow 0 ops.toList = true)
    (hC : allP st'.C) (hS : allS st'.S) (hT : allT st'.T)
    (hQ : ∀ ρ' σ' a' w', leR F ρ0 ρ' → leS σ0 σ' → a'.defers = dfs → Bears G ρ' σ' F n (look st'.env) st'.H st'.N a' w' → Q .normal a' w') :
    ∀ (fuel : Nat) (listed : Array Bool) (a : Act) (w : World), listed.size = ops.size → unl listed.toList ≤ fuel → Closed ops.toList (fun i => selOf listed i = true) →
      DInv G ρ0 σ0 F n items st dfs listed a w → wpAny P .any ops Q fuel listed a w := by
  obtain ⟨hlen, hN, ⟨m1, m2, m3⟩, hE, hH, hlate, hstep⟩ := runI_ok _ _ _ _ _ 0 hrun
  have hlen' : items.length = ops.size := by rw [hlen]; simp
  have done : ∀ (listed : Array Bool) a w, listed.size = ops.size → (∀ i, i < ops.size → selOf listed i = true) → DInv G ρ0 σ0 F n items st dfs listed a w → Q .normal a w := by
    intro listed a w hl hall hD
    obtain ⟨⟨ρ, σ, h1, h2, h3, h4, h5⟩, h6⟩ := hD
    refine hQ ρ σ a w h1 h2 h6 ⟨h3, h4.congr fun t => ?_, ?_⟩
    · rw [hE t]
      exact selA_congr actE touchE actE_a actE_b items _ _ 0 _ _ t (fun i it hi _ => by
        have hlt := (List.getElem?_eq_some_iff.1 hi).1
        rw [Nat.zero_add, hall i (by omega)]) rfl
    · have e : st'.H = selA actH items (selOf listed) 0 st.H := by
        funext t
        rw [hH t]
        exact selA_congr actH touchH actH_a actH_b items _ _ 0 _ _ t (fun i it hi _ => by
          have hlt := (List.getElem?_eq_some_iff.1 hi).1
          rw [Nat.zero_add, hall i (by omega)]) rfl
      rw [e]
      refine h5.wider fun i hi => ?_
      rcases hi with hi | ⟨k, it, hk, _, hi⟩
      · exact Nat.lt_of_lt_of_le hi hN
      · have hk' := (List.getElem?_eq_some_iff.1 hk).1
        have ho : ops.toList[k]? = some (ops.toList[k]'(by simp; omega)) := List.getElem?_eq_getElem _
        exact (hstep k _ it ho hk).wr i hi
  have ready_done : ∀ (listed : Array Bool) a w, listed.size = ops.size → Region.ready .any ops listed = [] → DInv G ρ0 σ0 F n items st dfs listed a w → Q .normal a w :=
    fun listed a w hl hr hD => done listed a w hl (ready_min hl hlow hr) hD
  intro fuel
  induction fuel with
  | zero =>
    intro listed a w hl hu _ hD
    have hall : ∀ i, i < ops.size → selOf listed i = true := by
      intro i hi
      have hi' : i < listed.toList.length := by simp; omega
      have := unl_zero (by omega : unl listed.toList = 0) i listed.toList[i] (List.getElem?_eq_getElem hi')
      unfold selOf
      rw [Array.getD_eq_getD_getElem?, ← Array.getElem?_toList, List.getElem?_eq_getElem hi', this]; rfl
    have hr : Region.ready .any ops listed = [] := by
      cases hre : Region.ready .any ops listed with
      | nil => rfl
      | cons i r =>
        have hi : i ∈ Region.ready .any ops listed := by rw [hre]; exact .head _
        obtain ⟨o, ho, hlist, _⟩ := ready_mem hi
        have hlt := (Array.getElem?_eq_some_iff.1 ho).1
        have := hall i hlt
        unfold selOf at this
        have hi' : i < listed.size := by omega
        simp only [Array.getD_eq_getD_getElem?, Array.getElem?_eq_getElem hi', Option.getD_some] at this hlist
        rw [this] at hlist; cases hlist
    exact ⟨hr, done listed a w hl hall hD⟩
  | succ fuel ih =>
    intro listed a w hl hu hcl hD
    refine ⟨fun hr => ready_done listed a w hl hr hD, fun j hj => ?_⟩
    obtain ⟨o, ho, hnl, hdeps⟩ := ready_mem hj
    have hjlt := (Array.getElem?_eq_some_iff.1 ho).1
    have hjl : j < listed.size := by omega
    have hjf : selOf listed j = false := by
      unfold selOf
      simp only [Array.getD_eq_getD_getElem?, Array.getElem?_eq_getElem hjl, Option.getD_some] at hnl ⊢
      exact hnl
    have hol : ops.toList[j]? = some o := by simpa using ho
    have hit : ∃ it, items[j]? = some it := ⟨items[j]'(by omega), List.getElem?_eq_getElem _⟩
    obtain ⟨it, hit⟩ := hit
    have hs := hstep j o it hol hit
    obtain ⟨m, hm, _, hpair⟩ := pairs_ok items _ _ 0 hp j it hit
    -- what is ordered ahead of j is done
    have ahead : ∀ i, Nat.testBit m i = true → selOf listed i = true := fun i hi =>
      masks_ok ops.toList ops.toList [] [] rfl rfl (fun j m h => by simp at h) j m hm i hi (fun i => selOf listed i = true) hcl (fun o' ho' e he hb => by
        rw [hol] at ho'; cases ho'
        exact hdeps e he hb)
    have before : ∀ i it', i < j → items[i]? = some it' → selOf listed i = false → Indep it' it := by
      intro i it' hi hi' hf
      rcases hpair i it' hi hi' with h | h
      · have := ahead (0 + i) h
        rw [Nat.zero_add, hf] at this; cases this
      · exact h
    have behind : ∀ i it', j < i → items[i]? = some it' → selOf listed i = true → Indep it it' := by
      intro i it' hi hi' ht
      have hilt := (List.getElem?_eq_some_iff.1 hi').1
      obtain ⟨m', hm', _, hpair'⟩ := pairs_ok items _ _ 0 hp i it' hi'
      rcases hpair' j it hi hit with h | h
      · exfalso
        have hoi : ops.toList[i]? = some (ops.toList[i]'(by simp; omega)) := List.getElem?_eq_getElem _
        have := masks_ok ops.toList ops.toList [] [] rfl rfl (fun j m h => by simp at h) i m' hm' (0 + j) h (fun i => selOf listed i = true) hcl (fun o' ho' e he hb => hcl i o' ho' ht e he hb)
        rw [Nat.zero_add, hjf] at this; cases this
      · exact h
    obtain ⟨⟨ρ, σ, g1, g2, g3, g4, g5⟩, g6⟩ := hD
    obtain ⟨an, E0, H0, hst, hfp, hE0, hH0⟩ := hs.step
    have hEeq : ∀ t ∈ namesOf ops.toList o, E0 t = selA actE items (selOf listed) 0 (look st.env) t := by
      intro t ht
      rw [hE0 t]
      refine selA_congr actE touchE actE_a actE_b items _ _ 0 _ _ t (fun i it' hi' htt => ?_) rfl
      simp only [Nat.zero_add]
      rw [← hs.names] at ht
      by_cases hij : i < j
      · rw [decide_eq_true hij]
        cases hsel : selOf listed i with
        | true => rfl
        | false => exact absurd ht ((before i it' hij hi' hsel).ab t htt)
      · rw [decide_eq_false hij]
        cases hsel : selOf listed i with
        | false => rfl
        | true =>
          by_cases hje : i = j
          · subst hje; rw [hjf] at hsel; cases hsel
          · exact absurd ht ((behind i it' (by omega) hi' hsel).ba t htt)
    have hHeq : ∀ t ∈ fpOf o an E0, H0 t = selA actH items (selOf listed) 0 st.H t := by
      intro t ht
      rw [hH0 t]
      refine selA_congr actH touchH actH_a actH_b items _ _ 0 _ _ t (fun i it' hi' htt => ?_) rfl
      simp only [Nat.zero_add]
      rw [← hfp] at ht
      have htw : t ∈ it'.wr := List.mem_append.2 (.inl htt)
      by_cases hij : i < j
      · rw [decide_eq_true hij]
        cases hsel : selOf listed i with
        | true => rfl
        | false => exact absurd ht ((before i it' hij hi' hsel).wf t htw)
      · rw [decide_eq_false hij]
        cases hsel : selOf listed i with
        | false => rfl
        | true =>
          by_cases hje : i = j
          · subst hje; rw [hjf] at hsel; cases hsel
          · exact absurd ht ((behind i it' (by omega) hi' hsel).fw t htw)
    rw [stepR_congr hEeq hHeq] at hst
    have hfree : ∀ i ∈ it.r.fr, σ i = none := by
      intro i hi
      cases hσ : σ i with
      | none => rfl
      | some L =>
        exfalso
        rcases g5.dom i L hσ with h | ⟨k, it', hk, hsel, hw⟩
        · have := hs.fr i hi; omega
        · have hwt : i ∈ it'.wr := List.mem_append.2 (.inl hw)
          have hwi : i ∈ it.wr := List.mem_append.2 (.inr hi)
          by_cases hkj : k < j
          · exact hlate k j it' it hkj hk hit i hi hw
          · by_cases hke : k = j
            · subst hke; rw [hjf] at hsel; cases hsel
            · exact (behind k it' (by omega) hk hsel).ww i hwi hwt
    unfold wpOp
    rw [ho]
    refine stepR_ok hst (hs.C hC) (hs.S hS) (hs.T hT) g3 g4 g5 hfree hs.nd ?_
    intro x ρ' σ' w' k1 k2 k3 k4
    have hsel' : ∀ i, selOf (listed.setIfInBounds j true) i = (selOf listed i || i == 0 + j) := by
      intro i
      unfold selOf
      simp only [Array.getD_eq_getD_getElem?, Nat.zero_add]
      by_cases e : i = j
      · subst e; simp [hjl]
      · rw [Array.getElem?_setIfInBounds_ne (fun h => e h.symm)]
        have : (i == j) = false := by simpa using e
        rw [this, Bool.or_false]
    have hself : selOf (listed.setIfInBounds j true) = fun i => selOf listed i || i == 0 + j := funext hsel'
    refine ih (listed.setIfInBounds j true) _ w' (by simpa using hl) ?_ ?_ ⟨⟨ρ', σ', g1.trans k1, g2.trans k2, g3.mono k1.m, ?_, ?_⟩, ?_⟩
    · have hget : listed.toList[j]? = some false := by
        rw [Array.getElem?_toList, Array.getElem?_eq_getElem hjl]
        unfold selOf at hjf
        simp only [Array.getD_eq_getD_getElem?, Array.getElem?_eq_getElem hjl, Option.getD_some] at hjf
        rw [hjf]
      have := unl_set listed.toList j hget
      rw [Array.toList_setIfInBounds]; omega
    · intro i o' ho' hi' e he hb
      rw [hsel'] at hi' ⊢
      simp only [Bool.or_eq_true, beq_iff_eq] at hi' ⊢
      rcases hi' with h | h
      · exact .inl (hcl i o' ho' h e he hb)
      · rw [Nat.zero_add] at h
        subst h
        rw [hol] at ho'; cases ho'
        exact .inl (hdeps e he hb)
    · refine (EnvR_putF (g4.mono k1.m k2) (fun t ht => hdst o (List.mem_of_getElem? hol) t ht) k3).congr fun t => ?_
      rw [hself, selA_add actE touchE actE_a actE_b items j it (selOf listed) 0 _ t hit (by rw [Nat.zero_add]; exact hjf) (fun i it' hi hi' hsel htt => by
        rw [Nat.zero_add] at hsel
        exact fun h => (behind i it' hi hi' hsel).ne t htt h)]
      simp only [actE, hs.dst]
    · have e : selA actH items (selOf (listed.setIfInBounds j true)) 0 st.H = applyW it.r.wr (selA actH items (selOf listed) 0 st.H) := by
        funext t
        rw [hself, selA_add actH touchH actH_a actH_b items j it (selOf listed) 0 _ t hit (by rw [Nat.zero_add]; exact hjf) (fun i it' hi hi' hsel htt => by
          rw [Nat.zero_add] at hsel
          intro h
          exact (behind i it' hi hi' hsel).ww t (List.mem_append.2 (.inl htt)) (List.mem_append.2 (.inl h)))]
        rfl
      rw [e]
      refine k4.wider fun i hi => ?_
      rcases hi with (hi | ⟨k, it', hk, hsel, hw⟩) | hi
      · exact .inl hi
      · exact .inr ⟨k, it', hk, by rw [hsel', hsel]; rfl, hw⟩
      · exact .inr ⟨j, it, hit, by rw [hsel']; simp, hi⟩
    · show (a.put o.dst x).defers = dfs
      rw [← g6]; cases o.dst <;> rfl

end

end Go.Proofs.YtiekchfipaiflaaGreatDoor
