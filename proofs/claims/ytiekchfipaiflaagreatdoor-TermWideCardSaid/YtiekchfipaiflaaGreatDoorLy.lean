/- A contract as a caller meets it. -/
import Derived.Test.YtiekchfipaiflaaGreatDoorLx
namespace Go.Proofs.YtiekchfipaiflaaGreatDoor
open Go

theorem fwd0 {ρ : Mem} {σc σ : Sig} {m : Map} {v x} (h : VR ρ σc v x) (hs : ∀ i j, mapAt m i = some j → ∃ k, j = some k) (hm : ∀ i j L, mapAt m i = some (some j) → σc i = some L → σ j = some L) (hw : wf0 m v = true) : VR ρ σ (ren0 m v) x := by
  cases v <;> simp only [ren0, wf0] at hw ⊢
  case p id idx sub =>
    cases hi : mapAt m id with
    | none => rw [hi] at hw; cases hw
    | some o =>
      obtain ⟨j, rfl⟩ := hs id o hi
      simp only
      cases h
      rename_i L hL
      exact .p (hm id j L hi hL)
  case sl id off len =>
    cases hi : mapAt m id with
    | none => rw [hi] at hw; cases hw
    | some o =>
      obtain ⟨j, rfl⟩ := hs id o hi
      simp only
      cases h
      rename_i L a cap hL hc hl
      exact .sl (hm id j L hi hL) hl hc
  all_goals first
    | (cases hw; done)
    | (cases h; constructor <;> assumption)
    | exact .u

theorem fwd1 {ρ : Mem} {σc σ : Sig} {m : Map} {v x} (h : VR ρ σc v x) (hs : ∀ i j, mapAt m i = some j → ∃ k, j = some k) (hm : ∀ i j L, mapAt m i = some (some j) → σc i = some L → σ j = some L) (hw : wf1 m v = true) : VR ρ σ (ren1 m v) x := by
  cases v
  case agg l =>
    cases h
    rename_i cs hn hv
    refine .agg (by simpa using hn) fun i hi => ?_
    have hi' : i < l.length := by omega
    rw [getD_map _ _ _ hi']
    exact fwd0 (hv i hi) hs hm (wf0L_mem hw i hi')
  case iface t v =>
    cases h
    rename_i x h
    exact .iface (fwd0 h hs hm hw)
  case fn f a b =>
    simp only [wf1, Bool.and_eq_true] at hw
    cases h
    rename_i F C h1 h2 h3 h4
    refine .fn (by simpa using h1) (fun i hi => ?_) (by simpa using h3) (fun i hi => ?_)
    · have hi' : i < a.length := by omega
      rw [getD_map _ _ _ hi']
      exact fwd0 (h2 i hi) hs hm (wf0L_mem hw.1 i hi')
    · have hi' : i < b.length := by omega
      rw [getD_map _ _ _ hi']
      exact fwd0 (h4 i hi) hs hm (wf0L_mem hw.2 i hi')
  all_goals exact fwd0 h hs hm hw

theorem fwd2 {ρ : Mem} {σc σ : Sig} {m : Map} {v x} (h : VR ρ σc v x) (hs : ∀ i j, mapAt m i = some j → ∃ k, j = some k) (hm : ∀ i j L, mapAt m i = some (some j) → σc i = some L → σ j = some L) (hw : wf2 m v = true) : VR ρ σ (ren2 m v) x := by
  cases v
  case tup l =>
    cases h
    rename_i cs hn hv
    refine .tup (by simpa using hn) fun i hi => ?_
    have hi' : i < l.length := by omega
    rw [getD_map _ _ _ hi']
    exact fwd1 (hv i hi) hs hm (wf1L_mem hw i hi')
  all_goals exact fwd1 h hs hm hw

def renB (m : Map) (b : Blk) : Blk := { b with enc := fun x => (b.enc x).map (ren0 m) }

theorem BR_fwd {ρ : Mem} {σc σ : Sig} {m : Map} {b : Blk} {L w} (h : BR ρ σc b L w) (hs : ∀ i j, mapAt m i = some j → ∃ k, j = some k) (hm : ∀ i j L, mapAt m i = some (some j) → σc i = some L → σ j = some L)
    (hS : (wfS m b.core).1 = (wfS m b.core).2) : BR ρ σ (renB m b) L w := by
  obtain ⟨h1, h2, h3⟩ := h
  refine ⟨h1, h2, h3.imp id ?_⟩
  rintro ⟨cs, t, fz, h4, h5, h6, h7, h8⟩
  refine ⟨cs, t, fz, h4, h5, h6, h7, fun k hk j hj => ?_⟩
  obtain ⟨x, hx, hv⟩ := h8 k hk j hj
  obtain ⟨hl, hw⟩ := wfS_ok hS k hk
  refine ⟨x, hx, ?_⟩
  have hj' : j < (b.enc (b.l.getD k b.d)).length := by
    have : (b.enc (b.l.getD k b.d)).length = b.size := hl
    have : j < b.size := hj
    omega
  show VR ρ σ (((b.enc (b.l.getD k b.d)).map (ren0 m)).getD j .u) x
  rw [getD_map (ren0 m) _ _ hj']
  exact fwd0 hv hs hm (hw j hj)

def mapOf (τ : List Nat) : Map := τ.map some

def blksOf (m : Map) : List Nat → List (Option Blk) → List (Nat × Blk)
  | j :: r, some b :: hs => (j, renB m b) :: blksOf m r hs
  | _ :: r, none :: hs => blksOf m r hs
  | _, _ => []
def wrOf (m : Map) : List Nat → List (Option Blk) → List (Nat × Option Blk)
  | j :: r, b :: hs => (j, b.map (renB m)) :: wrOf m r hs
  | _, _ => []
def allSome : List (Option Blk) → Bool
  | [] => true
  | none :: _ => false
  | some _ :: r => allSome r
def wfHs (m : Map) : List (Option Blk) → List (List V × List V)
  | [] => []
  | none :: r => wfHs m r
  | some b :: r => wfS m b.core :: wfHs m r
def wf2L (m : Map) : List V → Bool
  | [] => true
  | x :: r => wf2 m x && wf2L m r

theorem wf2L_mem {m} : ∀ {l : List V}, wf2L m l = true → ∀ i, i < l.length → wf2 m (l.getD i .u) = true := by
  intro l; induction l with
  | nil => intro _ i hi; simp at hi
  | cons x r ih =>
    intro h i hi
    simp only [wf2L, Bool.and_eq_true] at h
    cases i with
    | zero => exact h.1
    | succ i => exact ih h.2 i (by simpa using hi)
theorem wfHs_mem {m} : ∀ {hs : List (Option Blk)}, allS (wfHs m hs) → ∀ (i : Nat) (b : Blk), hs[i]? = some (some b) → (wfS m b.core).1 = (wfS m b.core).2 := by
  intro hs; induction hs with
  | nil => intro _ i b h; simp at h
  | cons x r ih =>
    intro h i b hi
    cases x with
    | none =>
      cases i with
      | zero => simp at hi
      | succ i => exact ih h i b (by simpa using hi)
    | some b0 =>
      cases i with
      | zero =>
        simp only [List.getElem?_cons_zero, Option.some.injEq] at hi
        subst hi; exact h.1
      | succ i => exact ih h.2 i b (by simpa using hi)
theorem allSome_get : ∀ {hs : List (Option Blk)}, allSome hs = true → ∀ i, i < hs.length → ∃ b, hs[i]? = some (some b) := by
  intro hs; induction hs with
  | nil => intro _ i hi; simp at hi
  | cons x r ih =>
    intro h i hi
    cases x with
    | none => cases h
    | some b =>
      cases i with
      | zero => exact ⟨b, rfl⟩
      | succ i => exact ih h i (by simpa using hi)
theorem blksOf_mem {m} : ∀ {τ : List Nat} {hs : List (Option Blk)} {i : Nat} {b : Blk} {j : Nat}, τ[i]? = some j → hs[i]? = some (some b) → (j, renB m b) ∈ blksOf m τ hs := by
  intro τ; induction τ with
  | nil => intro hs i b j h; simp at h
  | cons t r ih =>
    intro hs i b j hj hb
    cases hs with
    | nil => simp at hb
    | cons x hs =>
      cases i with
      | zero =>
        simp only [List.getElem?_cons_zero, Option.some.injEq] at hj hb
        subst hj hb; exact .head _
      | succ i =>
        have := ih (hs := hs) (i := i) (b := b) (j := j) (by simpa using hj) (by simpa using hb)
        cases x with
        | none => exact this
        | some _ => exact .tail _ this
theorem wrOf_get {m} : ∀ {τ : List Nat} {hs : List (Option Blk)} {H : Heap}, τ.Nodup → ∀ (i : Nat) (j : Nat) (b : Option Blk), τ[i]? = some j → hs[i]? = some b → applyW (wrOf m τ hs) H j = b.map (renB m) := by
  intro τ; induction τ with
  | nil => intro hs H _ i j b h; simp at h
  | cons t r ih =>
    intro hs H hn i j b hj hb
    cases hs with
    | nil => simp at hb
    | cons x hs =>
      have hn' := List.nodup_cons.1 hn
      cases i with
      | zero =>
        simp only [List.getElem?_cons_zero, Option.some.injEq] at hj hb
        subst hj hb
        show applyW (wrOf m r hs) (upd H t (x.map (renB m))) t = _
        rw [applyW_out]
        · rw [upd_same]
        · have : ∀ {r : List Nat} {hs : List (Option Blk)} {t}, t ∈ (wrOf m r hs).map (·.1) → t ∈ r := by
            intro r; induction r with
            | nil => intro hs t h; cases hs <;> simp [wrOf] at h
            | cons y r ih =>
              intro hs t h
              cases hs with
              | nil => simp [wrOf] at h
              | cons z hs =>
                simp only [wrOf, List.map_cons, List.mem_cons] at h
                rcases h with h | h
                · subst h; exact .head _
                · exact .tail _ (ih h)
          exact fun h => hn'.1 (this h)
      | succ i => exact ih (hs := hs) (H := upd H t (x.map (renB m))) hn'.2 i j b (by simpa using hj) (by simpa using hb)
theorem wrOf_keys {m} : ∀ {τ : List Nat} {hs : List (Option Blk)} {j : Nat}, j ∈ (wrOf m τ hs).map (·.1) → ∃ i : Nat, τ[i]? = some j ∧ i < hs.length := by
  intro τ; induction τ with
  | nil => intro hs j h; cases hs <;> simp [wrOf] at h
  | cons t r ih =>
    intro hs j h
    cases hs with
    | nil => simp [wrOf] at h
    | cons x hs =>
      simp only [wrOf, List.map_cons, List.mem_cons] at h
      rcases h with h | h
      · exact ⟨0, by simp [h], by simp⟩
      · obtain ⟨i, h1, h2⟩ := ih h
        exact ⟨i + 1, by simpa using h1, by simpa using h2⟩
theorem mapOf_at {τ : List Nat} {i : Nat} : mapAt (mapOf τ) i = (τ[i]?).map some := by
  simp [mapAt, mapOf]

theorem nodup_inj : ∀ {l : List Nat}, l.Nodup → ∀ (i k j : Nat), l[i]? = some j → l[k]? = some j → i = k := by
  intro l; induction l with
  | nil => intro _ i k j h; simp at h
  | cons x r ih =>
    intro hn i k j h1 h2
    have hn' := List.nodup_cons.1 hn
    cases i with
    | zero =>
      cases k with
      | zero => rfl
      | succ k =>
        simp only [List.getElem?_cons_zero, Option.some.injEq] at h1
        subst h1
        exact absurd (List.mem_of_getElem? (by simpa using h2)) hn'.1
    | succ i =>
      cases k with
      | zero =>
        simp only [List.getElem?_cons_zero, Option.some.injEq] at h2
        subst h2
        exact absurd (List.mem_of_getElem? (by simpa using h1)) hn'.1
      | succ k => rw [ih hn'.2 i k j (by simpa using h1) (by simpa using h2)]

open Classical in
theorem CallOK.of {P : Program} {G : Glob} {K : FuncId} {args : List V} {hs : List (Option Blk)} {v : V} {hs' : List (Option Blk)} (h : Spec P G K args hs v hs') (τ : List Nat)
    (hn : nodupB τ = true) (hlen : τ.length = hs'.length) (hle : hs.length ≤ hs'.length) (hall : allSome hs = true)
    (hwa : wf2L (mapOf (τ.take hs.length)) args = true) (hwh : allS (wfHs (mapOf (τ.take hs.length)) hs)) (hwv : wf2 (mapOf τ) v = true) (hwr : allS (wfHs (mapOf τ) hs')) :
    CallOK P G K (args.map (ren2 (mapOf (τ.take hs.length)))) (blksOf (mapOf (τ.take hs.length)) (τ.take hs.length) hs) (ren2 (mapOf τ) v) (wrOf (mapOf τ) τ hs') := by
  intro ρ σ D H F w vals hG hblk hA hH hfree
  have nd := nodupB_ok hn
  let m0 := mapOf (τ.take hs.length)
  have htl : (τ.take hs.length).length = hs.length := by rw [List.length_take]; omega
  have m0at : ∀ i j, mapAt m0 i = some (some j) ↔ τ[i]? = some j ∧ i < hs.length := by
    intro i j
    rw [mapOf_at]
    simp only [Option.map_eq_some_iff, Option.some.injEq, exists_eq_right, List.getElem?_take]
    by_cases hi : i < hs.length
    · simp [hi]
    · simp [hi]
  let σc : Sig := sigOf m0 (fun _ => 0) σ
  have σc_some : ∀ i L, σc i = some L → ∃ j, τ[i]? = some j ∧ i < hs.length ∧ σ j = some L := by
    intro i L hi
    simp only [σc, sigOf] at hi
    cases hm : mapAt m0 i with
    | none => rw [hm] at hi; cases hi
    | some o =>
      cases o with
      | none => rw [mapOf_at] at hm; simp at hm
      | some j =>
        rw [hm] at hi
        obtain ⟨h1, h2⟩ := (m0at i j).1 hm
        exact ⟨j, h1, h2, hi⟩
  have σc_at : ∀ i j, τ[i]? = some j → i < hs.length → σc i = σ j := by
    intro i j hj hi
    simp only [σc, sigOf, (m0at i j).2 ⟨hj, hi⟩]
  have inHs : ∀ i b, hOf hs i = some b → ∃ j, τ[i]? = some j ∧ i < hs.length ∧ H j = some (renB m0 b) := by
    intro i b hi
    have hg := hOf_some hi
    have hil := (List.getElem?_eq_some_iff.1 hg).1
    have hj : τ[i]? = some (τ[i]'(by omega)) := List.getElem?_eq_getElem _
    refine ⟨_, hj, hil, ?_⟩
    have hj' : (τ.take hs.length)[i]? = some (τ[i]'(by omega)) := by rw [List.getElem?_take, if_pos hil]; exact hj
    exact hblk _ (blksOf_mem (m := m0) hj' hg)
  have tinj : ∀ {i k j : Nat}, τ[i]? = some j → τ[k]? = some j → i = k := by
    intro i k j h1 h2
    exact nodup_inj nd i k j h1 h2
  -- what the caller keeps
  let kept (r : Nat) : Prop := ∃ j b L, H j = some b ∧ (∀ i, i < hs.length → τ[i]? ≠ some j) ∧ σ j = some L ∧ L.cap ≠ 0 ∧ L.r = r
  let Fc : Fr := { m := fun r => if kept r then w.heap[r]? else F r, os := F.os, out := F.out }
  have Fc_frame : ∀ r o, Fc r = some o → w.heap[r]? = some o := by
    intro r o hr
    simp only [Fc] at hr
    split at hr
    · exact hr
    · exact hH.frame r o hr
  have Fc_F : ∀ r o, F r = some o → Fc r = some o := by
    intro r o hr
    have : ¬ kept r := by
      rintro ⟨j, b, L, h1, _, h3, h4, rfl⟩
      rw [(hH.apart j b L h1 h3 h4).1] at hr; cases hr
    simp only [Fc, if_neg this]; exact hr
  have Fc_kept : ∀ r, kept r → Fc r ≠ none := by
    rintro r ⟨j, b, L, h1, h2, h3, h4, rfl⟩
    have hk : kept L.r := ⟨j, b, L, h1, h2, h3, h4, rfl⟩
    simp only [Fc, if_pos hk]
    obtain ⟨L', hL', hB⟩ := hH.blk j b h1
    rw [h3] at hL'; cases hL'
    obtain ⟨_, _, hc⟩ := hB
    rcases hc with hc | ⟨_, _, _, hc, _⟩
    · exact absurd hc.1 h4
    · rw [hc]; simp
  have hHc : HInv ρ σc (· < hs.length) (hOf hs) Fc w := by
    refine ⟨fun i L hi => (σc_some i L hi).choose_spec.2.1, ?_, ?_, Fc_frame, hH.rmem, ?_, hH.io⟩
    · intro i b hi
      obtain ⟨j, h1, h2, h3⟩ := inHs i b hi
      obtain ⟨L, hL, hB⟩ := hH.blk j _ h3
      refine ⟨L, by rw [σc_at i j h1 h2]; exact hL, ?_⟩
      exact BR_back (c := renB m0 b) hB rfl rfl (wfHs_mem hwh i b (hOf_some hi))
    · intro i k b c L M hi hk hL hM hik hl hm
      obtain ⟨j, h1, h2, h3⟩ := inHs i b hi
      obtain ⟨j', h1', h2', h3'⟩ := inHs k c hk
      rw [σc_at i j h1 h2] at hL
      rw [σc_at k j' h1' h2'] at hM
      exact hH.inj j j' _ _ L M h3 h3' hL hM (fun e => hik (tinj h1 (e ▸ h1'))) hl hm
    · intro i b L hi hL hl
      obtain ⟨j, h1, h2, h3⟩ := inHs i b hi
      rw [σc_at i j h1 h2] at hL
      obtain ⟨g1, g2⟩ := hH.apart j _ L h3 hL hl
      refine ⟨?_, g2⟩
      have : ¬ kept L.r := by
        rintro ⟨j', b', L', k1, k2, k3, k4, k5⟩
        have hne : j' ≠ j := fun e => k2 i h2 (by rw [e]; exact h1)
        exact hH.inj j' j b' _ L' L k1 h3 k3 hL hne k4 hl k5
      simp only [Fc, if_neg this]; exact g1
  have hAc : VRs ρ σc args vals := by
    obtain ⟨a1, a2⟩ := hA
    have a1' : args.length = vals.size := by simpa using a1
    refine ⟨a1', fun i hi => ?_⟩
    have hi' : i < args.length := by omega
    have := a2 i hi
    rw [getD_map _ _ _ hi'] at this
    exact back2 this (wf2L_mem hwa i hi')
  refine (h ρ σc Fc w vals hG hAc hHc).mono ?_
  rintro e w' ⟨val, ρ', σc', rfl, hv, hρ, hσ, hH'⟩
  -- the numbers behind the call
  let σ' : Sig := fun j => if σ j = none then (if hx : ∃ i : Nat, τ[i]? = some j then σc' hx.choose else none) else σ j
  have leσ : leS σ σ' := by
    intro j L hj
    simp only [σ', hj]
    rw [if_neg (by simp)]
  have oldSome : ∀ i j, τ[i]? = some j → i < hs.length → ∃ L, σ j = some L ∧ σc' i = some L := by
    intro i j hj hi
    obtain ⟨b, hb⟩ := allSome_get hall i hi
    have hob : hOf hs i = some b := by unfold hOf; rw [hb]
    obtain ⟨j', h1, h2, h3⟩ := inHs i b hob
    rw [hj] at h1; cases h1
    obtain ⟨L, hL, _⟩ := hH.blk j _ h3
    exact ⟨L, hL, hσ i hi L (by rw [σc_at i j hj hi]; exact hL)⟩
  have newNone : ∀ i j, τ[i]? = some j → ¬ i < hs.length → i < hs'.length → σ j = none := by
    intro i j hj hi hi'
    have hmem : (j, (hs'[i]'hi').map (renB (mapOf τ))) ∈ wrOf (mapOf τ) τ hs' := by
      have gen : ∀ {m : Map} {τ : List Nat} {hs' : List (Option Blk)} {i : Nat} {j : Nat} {b : Option Blk}, τ[i]? = some j → hs'[i]? = some b → (j, b.map (renB m)) ∈ wrOf m τ hs' := by
        intro m τ; induction τ with
        | nil => intro hs' i j b h; simp at h
        | cons t r ih =>
          intro hs' i j b h1 h2
          cases hs' with
          | nil => simp at h2
          | cons x hs' =>
            cases i with
            | zero =>
              simp only [List.getElem?_cons_zero, Option.some.injEq] at h1 h2
              subst h1 h2; exact .head _
            | succ i => exact .tail _ (ih (by simpa using h1) (by simpa using h2))
      exact gen hj (List.getElem?_eq_getElem hi')
    rcases hfree _ hmem with hb | hb
    · exfalso
      obtain ⟨p, hp, hpe⟩ := List.mem_map.1 hb
      have keys : ∀ {m : Map} {τ : List Nat} {hs : List (Option Blk)} {p : Nat × Blk}, p ∈ blksOf m τ hs → ∃ k : Nat, τ[k]? = some p.1 := by
        intro m τ; induction τ with
        | nil => intro hs p h; cases hs <;> simp [blksOf] at h
        | cons t r ih =>
          intro hs p h
          cases hs with
          | nil => simp [blksOf] at h
          | cons x hs =>
            cases x with
            | none =>
              obtain ⟨k, hk⟩ := ih (hs := hs) h
              exact ⟨k + 1, by simpa using hk⟩
            | some b =>
              cases h with
              | head => exact ⟨0, rfl⟩
              | tail _ h =>
                obtain ⟨k, hk⟩ := ih h
                exact ⟨k + 1, by simpa using hk⟩
      obtain ⟨k, hk⟩ := keys hp
      have hkl : k < hs.length := by
        have := (List.getElem?_eq_some_iff.1 hk).1
        omega
      rw [List.getElem?_take, if_pos hkl] at hk
      have : p.1 = j := hpe
      rw [this] at hk
      have := tinj hj hk
      omega
    · exact hb
  have σ'_at : ∀ i j, τ[i]? = some j → i < hs'.length → ∀ L, σc' i = some L → σ' j = some L := by
    intro i j hj hi L hL
    by_cases hlt : i < hs.length
    · obtain ⟨L', h1, h2⟩ := oldSome i j hj hlt
      rw [hL] at h2; cases h2
      exact leσ j L h1
    · have hnone := newNone i j hj hlt hi
      have hx : ∃ i : Nat, τ[i]? = some j := ⟨i, hj⟩
      simp only [σ', if_pos hnone, dif_pos hx]
      rw [tinj hx.choose_spec hj]; exact hL
  have σ'_back : ∀ i j, τ[i]? = some j → i < hs'.length → σ' j = σc' i := by
    intro i j hj hi
    by_cases hlt : i < hs.length
    · obtain ⟨L', h1, h2⟩ := oldSome i j hj hlt
      rw [leσ j L' h1, h2]
    · have hnone := newNone i j hj hlt hi
      have hx : ∃ i : Nat, τ[i]? = some j := ⟨i, hj⟩
      simp only [σ', if_pos hnone, dif_pos hx]
      rw [tinj hx.choose_spec hj]
  have msome : ∀ i j, mapAt (mapOf τ) i = some j → ∃ k, j = some k := by
    intro i j hj
    rw [mapOf_at] at hj
    obtain ⟨k, _, rfl⟩ := Option.map_eq_some_iff.1 hj
    exact ⟨k, rfl⟩
  have mfwd : ∀ i j L, mapAt (mapOf τ) i = some (some j) → σc' i = some L → σ' j = some L := by
    intro i j L hm hL
    rw [mapOf_at] at hm
    obtain ⟨k, hk, hkj⟩ := Option.map_eq_some_iff.1 hm
    cases hkj
    have := (List.getElem?_eq_some_iff.1 hk).1
    exact σ'_at i j hk (by omega) L hL
  -- a block behind the call: one of the callee's, or one that was kept
  have part : ∀ j b, applyW (wrOf (mapOf τ) τ hs') H j = some b → (∃ i b0, τ[i]? = some j ∧ hOf hs' i = some b0 ∧ b = renB (mapOf τ) b0) ∨ ((∀ i, i < hs.length → τ[i]? ≠ some j) ∧ H j = some b ∧ ∃ L, σ j = some L) := by
    intro j b hj
    by_cases hx : ∃ i : Nat, τ[i]? = some j
    · obtain ⟨i, hi⟩ := hx
      have hil : i < hs'.length := by have := (List.getElem?_eq_some_iff.1 hi).1; omega
      rw [wrOf_get nd i j hs'[i] hi (List.getElem?_eq_getElem hil)] at hj
      obtain ⟨b0, hb0, rfl⟩ := Option.map_eq_some_iff.1 hj
      refine .inl ⟨i, b0, hi, ?_, rfl⟩
      unfold hOf; rw [List.getElem?_eq_getElem hil, hb0]
    · have hni : ∀ i : Nat, τ[i]? ≠ some j := fun i hi => hx ⟨i, hi⟩
      rw [applyW_out _ _ _ (fun hk => by obtain ⟨i, h1, _⟩ := wrOf_keys hk; exact hni i h1)] at hj
      obtain ⟨L, hL, _⟩ := hH.blk j b hj
      exact .inr ⟨fun i _ => hni i, hj, L, hL⟩
  have keptW : ∀ j b L, H j = some b → (∀ i, i < hs.length → τ[i]? ≠ some j) → σ j = some L → L.cap ≠ 0 → w'.heap[L.r]? = w.heap[L.r]? := by
    intro j b L h1 h2 h3 h4
    have hk : kept L.r := ⟨j, b, L, h1, h2, h3, h4, rfl⟩
    cases hF : Fc L.r with
    | none => exact absurd hF (Fc_kept _ hk)
    | some o => rw [hH'.frame _ _ hF, Fc_frame _ _ hF]
  refine ⟨val, ρ', σ', rfl, fwd2 hv msome mfwd hwv, ⟨hρ.m, fun r hr => ?_⟩, leσ, ⟨?_, ?_, ?_, fun r o hr => hH'.frame r o (Fc_F r o hr), hH'.rmem, ?_, hH'.io⟩⟩
  · rcases hρ.f r hr with h1 | h1
    · exact .inl h1
    · refine .inr ?_
      cases hF : F r with
      | none => rfl
      | some o => rw [Fc_F r o hF] at h1; cases h1
  · intro j L hj
    simp only [σ'] at hj
    split at hj
    · split at hj
      · rename_i hx
        refine .inr ?_
        have hi := hx.choose_spec
        have hil : hx.choose < hs'.length := by have := (List.getElem?_eq_some_iff.1 hi).1; omega
        have gen : ∀ {m : Map} {τ : List Nat} {hs' : List (Option Blk)} {i : Nat} {j : Nat}, τ[i]? = some j → i < hs'.length → j ∈ (wrOf m τ hs').map (·.1) := by
          intro m τ; induction τ with
          | nil => intro hs' i j h; simp at h
          | cons t r ih =>
            intro hs' i j h1 h2
            cases hs' with
            | nil => simp at h2
            | cons x hs' =>
              cases i with
              | zero =>
                simp only [List.getElem?_cons_zero, Option.some.injEq] at h1
                subst h1; exact .head _
              | succ i => exact .tail _ (ih (by simpa using h1) (by simpa using h2))
        exact gen hi hil
      · cases hj
    · exact .inl (hH.dom j L hj)
  · intro j b hj
    rcases part j b hj with ⟨i, b0, hi, hb0, rfl⟩ | ⟨hni, hjb, L, hL⟩
    · have hil : i < hs'.length := (List.getElem?_eq_some_iff.1 (hOf_some hb0)).1
      obtain ⟨L, hL, hB⟩ := hH'.blk i b0 hb0
      refine ⟨L, σ'_at i j hi hil L hL, BR_fwd hB msome mfwd (wfHs_mem hwr i b0 (hOf_some hb0))⟩
    · obtain ⟨L', hL', hB⟩ := hH.blk j b hjb
      rw [hL] at hL'; cases hL'
      exact ⟨L, leσ j L hL, (hB.mono hρ.m leσ).world (fun hc => keptW j b L hjb hni hL hc)⟩
  · intro j k b c L M hj hk hL hM hjk hl hm
    rcases part j b hj with ⟨i, b0, hi, hb0, rfl⟩ | ⟨hni, hjb, L', hL'⟩
    · have hil : i < hs'.length := (List.getElem?_eq_some_iff.1 (hOf_some hb0)).1
      rw [σ'_back i j hi hil] at hL
      rcases part k c hk with ⟨i', c0, hi', hc0, rfl⟩ | ⟨hnk, hkc, M', hM'⟩
      · have hil' : i' < hs'.length := (List.getElem?_eq_some_iff.1 (hOf_some hc0)).1
        rw [σ'_back i' k hi' hil'] at hM
        exact hH'.inj i i' b0 c0 L M hb0 hc0 hL hM (fun e => hjk (by rw [e, hi'] at hi; exact (Option.some.inj hi).symm)) hl hm
      · rw [leσ k M' hM'] at hM; cases hM
        have := (hH'.apart i b0 L hb0 hL hl).1
        intro e
        rw [e] at this
        exact Fc_kept _ ⟨k, c, M, hkc, hnk, hM', hm, rfl⟩ this
    · rw [leσ j L' hL'] at hL; cases hL
      rcases part k c hk with ⟨i', c0, hi', hc0, rfl⟩ | ⟨hnk, hkc, M', hM'⟩
      · have hil' : i' < hs'.length := (List.getElem?_eq_some_iff.1 (hOf_some hc0)).1
        rw [σ'_back i' k hi' hil'] at hM
        have := (hH'.apart i' c0 M hc0 hM hm).1
        intro e
        rw [← e] at this
        exact Fc_kept _ ⟨j, b, L, hjb, hni, hL', hl, rfl⟩ this
      · rw [leσ k M' hM'] at hM; cases hM
        exact hH.inj j k b c L M hjb hkc hL' hM' hjk hl hm
  · intro j b L hj hL hl
    rcases part j b hj with ⟨i, b0, hi, hb0, rfl⟩ | ⟨hni, hjb, L', hL'⟩
    · have hil : i < hs'.length := (List.getElem?_eq_some_iff.1 (hOf_some hb0)).1
      rw [σ'_back i j hi hil] at hL
      obtain ⟨g1, g2⟩ := hH'.apart i b0 L hb0 hL hl
      refine ⟨?_, g2⟩
      cases hF : F L.r with
      | none => rfl
      | some o => rw [Fc_F _ o hF] at g1; cases g1
    · rw [leσ j L' hL'] at hL; cases hL
      obtain ⟨g1, g2⟩ := hH.apart j b L hjb hL' hl
      refine ⟨g1, ?_⟩
      cases hr : ρ' L.r with
      | none => rfl
      | some o =>
        exfalso
        rcases hρ.f L.r (by rw [hr]; simp) with h1 | h1
        · exact h1 g2
        · exact Fc_kept _ ⟨j, b, L, hjb, hni, hL', hl, rfl⟩ h1

end Go.Proofs.YtiekchfipaiflaaGreatDoor
