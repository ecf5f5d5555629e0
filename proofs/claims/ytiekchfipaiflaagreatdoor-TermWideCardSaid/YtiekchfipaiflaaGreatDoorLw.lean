/- States renumbered; triples for code; loops. -/
import Derived.Test.YtiekchfipaiflaaGreatDoorLv
namespace Go.Proofs.YtiekchfipaiflaaGreatDoor
open Go

abbrev Map := List (Option Nat)

def mapAt (m : Map) (i : Nat) : Option (Option Nat) := m[i]?

def ren0 (m : Map) : V → V
  | .p id idx sub => match mapAt m id with
    | some (some j) => .p j idx sub
    | _ => .u
  | .sl id off len => match mapAt m id with
    | some (some j) => .sl j off len
    | some none => .nils
    | none => .u
  | v => v
def wf0 (m : Map) : V → Bool
  | .p id _ _ => match mapAt m id with
    | some (some _) => true
    | _ => false
  | .sl id off len => match mapAt m id with
    | some (some _) => true
    | some none => Nat.beq off 0 && Nat.beq len 0
    | none => false
  | .agg _ | .tup _ | .fn .. | .iface .. => false
  | _ => true
def wf0L (m : Map) : List V → Bool
  | [] => true
  | x :: r => wf0 m x && wf0L m r

def ren1 (m : Map) : V → V
  | .agg l => .agg (l.map (ren0 m))
  | .iface t v => .iface t (ren0 m v)
  | .fn f a b => .fn f (a.map (ren0 m)) (b.map (ren0 m))
  | v => ren0 m v
def wf1 (m : Map) : V → Bool
  | .agg l => wf0L m l
  | .iface _ v => wf0 m v
  | .fn _ a b => wf0L m a && wf0L m b
  | v => wf0 m v
def wf1L (m : Map) : List V → Bool
  | [] => true
  | x :: r => wf1 m x && wf1L m r
def ren2 (m : Map) : V → V
  | .tup l => .tup (l.map (ren1 m))
  | v => ren1 m v
def wf2 (m : Map) : V → Bool
  | .tup l => wf1L m l
  | v => wf1 m v

/-- What the numbers mean behind a renumbering. -/
def sigOf (m : Map) (es : Nat → Nat) (σ : Sig) : Sig := fun i => match mapAt m i with
  | some (some j) => σ j
  | some none => some ⟨0, 0, es i⟩
  | none => none

theorem wf0L_mem {m} : ∀ {l : List V}, wf0L m l = true → ∀ i, i < l.length → wf0 m (l.getD i .u) = true := by
  intro l; induction l with
  | nil => intro _ i hi; simp at hi
  | cons x r ih =>
    intro h i hi
    simp only [wf0L, Bool.and_eq_true] at h
    cases i with
    | zero => exact h.1
    | succ i => exact ih h.2 i (by simpa using hi)
theorem wf1L_mem {m} : ∀ {l : List V}, wf1L m l = true → ∀ i, i < l.length → wf1 m (l.getD i .u) = true := by
  intro l; induction l with
  | nil => intro _ i hi; simp at hi
  | cons x r ih =>
    intro h i hi
    simp only [wf1L, Bool.and_eq_true] at h
    cases i with
    | zero => exact h.1
    | succ i => exact ih h.2 i (by simpa using hi)
theorem getD_map (f : V → V) (l : List V) (i : Nat) (hi : i < l.length) : (l.map f).getD i .u = f (l.getD i .u) := by
  simp [List.getD_eq_getElem?_getD, hi]

theorem back0 {ρ σ m es v x} (h : VR ρ σ (ren0 m v) x) (hw : wf0 m v = true) : VR ρ (sigOf m es σ) v x := by
  cases v <;> simp only [ren0, wf0] at h hw
  case p id idx sub =>
    cases hm : mapAt m id with
    | none => rw [hm] at hw; cases hw
    | some o =>
      cases o with
      | none => rw [hm] at hw; cases hw
      | some j =>
        rw [hm] at h
        simp only at h
        cases h
        rename_i L hL
        exact .p (by simp only [sigOf, hm]; exact hL)
  case sl id off len =>
    cases hm : mapAt m id with
    | none => rw [hm] at hw; cases hw
    | some o =>
      cases o with
      | none =>
        rw [hm] at h hw
        simp only [Bool.and_eq_true] at h hw
        have h1 := Nat.eq_of_beq_eq_true hw.1
        have h2 := Nat.eq_of_beq_eq_true hw.2
        subst h1 h2
        cases h
        exact .sl (L := ⟨0, 0, es id⟩) (by simp only [sigOf, hm]) (Nat.le_refl _) (by omega)
      | some j =>
        rw [hm] at h
        simp only at h
        cases h
        rename_i L a cap hL hc hl
        exact .sl (by simp only [sigOf, hm]; exact hL) hl hc
  all_goals first
    | (cases hw; done)
    | (cases h; constructor <;> assumption)
    | exact .u

theorem back1 {ρ σ m es v x} (h : VR ρ σ (ren1 m v) x) (hw : wf1 m v = true) : VR ρ (sigOf m es σ) v x := by
  cases v
  case agg l =>
    simp only [ren1] at h
    cases h
    rename_i cs hn hv
    refine .agg (by simpa using hn) fun i hi => ?_
    have hi' : i < l.length := by simp at hn; omega
    have := hv i hi
    rw [getD_map _ _ _ hi'] at this
    exact back0 this (wf0L_mem hw i hi')
  case iface t v =>
    simp only [ren1] at h
    cases h
    rename_i x h
    exact .iface (back0 h hw)
  case fn f a b =>
    simp only [ren1] at h
    simp only [wf1, Bool.and_eq_true] at hw
    cases h
    rename_i F C h1 h2 h3 h4
    refine .fn (by simpa using h1) (fun i hi => ?_) (by simpa using h3) (fun i hi => ?_)
    · have hi' : i < a.length := by simp at h1; omega
      have := h2 i hi
      rw [getD_map _ _ _ hi'] at this
      exact back0 this (wf0L_mem hw.1 i hi')
    · have hi' : i < b.length := by simp at h3; omega
      have := h4 i hi
      rw [getD_map _ _ _ hi'] at this
      exact back0 this (wf0L_mem hw.2 i hi')
  all_goals exact back0 h hw

theorem back2 {ρ σ m es v x} (h : VR ρ σ (ren2 m v) x) (hw : wf2 m v = true) : VR ρ (sigOf m es σ) v x := by
  cases v
  case tup l =>
    simp only [ren2] at h
    cases h
    rename_i cs hn hv
    refine .tup (by simpa using hn) fun i hi => ?_
    have hi' : i < l.length := by simp at hn; omega
    have := hv i hi
    rw [getD_map _ _ _ hi'] at this
    exact back1 this (wf1L_mem hw i hi')
  all_goals exact back1 h hw

/-- A block renumbered. -/
def renC (m : Map) (b : Core) : Core := ⟨b.α, b.size, fun x => (b.enc x).map (ren0 m), b.d, b.l⟩
def wfS (m : Map) (b : Core) : List V × List V := (b.l.map fun y => .agg ((b.enc y).map fun v => .b (wf0 m v)), b.l.map fun _ => .agg (List.replicate b.size (.b true)))
theorem wfS_ok {m} {b : Core} (h : (wfS m b).1 = (wfS m b).2) : ∀ k, k < b.l.length → (b.enc (b.l.getD k b.d)).length = b.size ∧ ∀ j, j < b.size → wf0 m ((b.enc (b.l.getD k b.d)).getD j .u) = true := by
  intro k hk
  have e : b.l.getD k b.d = b.l[k] := by simp [List.getD_eq_getElem?_getD, hk]
  have := List.map_inj_left.1 h b.l[k] (List.getElem_mem hk)
  injection this with this
  rw [e]
  have hl : (b.enc b.l[k]).length = b.size := by simpa using congrArg List.length this
  refine ⟨hl, fun j hj => ?_⟩
  have h2 := congrArg (fun l => l.getD j .u) this
  have hj' : j < (b.enc b.l[k]).length := by omega
  simp only [List.getD_eq_getElem?_getD, List.getElem?_map, List.getElem?_eq_getElem hj', Option.map_some, Option.getD_some, List.getElem?_replicate, hj, if_true] at h2
  simp only [List.getD_eq_getElem?_getD, List.getElem?_eq_getElem hj', Option.getD_some]
  injection h2

/-- The cells of a block, renumbered. -/
def cellsR (m : Map) (b : Blk) : List V := b.l.map fun y => .agg ((b.enc y).map (ren0 m))
theorem BR_back {ρ σ m es} {b c : Blk} {L w} (h : BR ρ σ c L w) (hsz : b.size = c.size) (hc : cellsR m b = cellsOf c) (hS : (wfS m b.core).1 = (wfS m b.core).2) : BR ρ (sigOf m es σ) b L w := by
  have hc' : cellsOf { b with enc := fun y => (b.enc y).map (ren0 m) } = cellsOf c := hc
  obtain ⟨hl, he⟩ := cells_at hc'
  dsimp only at hl he
  obtain ⟨h1, h2, h3⟩ := h
  refine ⟨by rw [h1, hsz], by rw [hsz]; exact h2, ?_⟩
  rcases h3 with ⟨h3, h4⟩ | ⟨cs, t, fz, h4, h5, h6, h7, h8⟩
  · refine .inl ⟨h3, List.eq_nil_of_length_eq_zero ?_⟩
    rw [hl, h4]; rfl
  · refine .inr ⟨cs, t, fz, h4, h5, by rw [hl, hsz]; exact h6, h7, fun k hk j hj => ?_⟩
    obtain ⟨hlen, hw⟩ := wfS_ok hS k hk
    obtain ⟨x, hx, hv⟩ := h8 k (by omega) j (by omega)
    rw [hsz]
    refine ⟨x, hx, ?_⟩
    have hj' : j < (b.enc (b.l.getD k b.d)).length := by
      have : (b.enc (b.l.getD k b.d)).length = b.size := hlen
      omega
    have : VR ρ σ (ren0 m ((b.enc (b.l.getD k b.d)).getD j .u)) x := by
      rw [← getD_map (ren0 m) _ _ hj', he k hk]; exact hv
    exact back0 this (hw j hj)

def hOf (hs : List (Option Blk)) : Heap := fun i => match hs[i]? with
  | some b => b
  | none => none
def esOf (hs : List (Option Blk)) (i : Nat) : Nat := match hOf hs i with
  | some b => b.size
  | none => 0

def subE (m : Map) (env : Env) : Env → Option (List Prop × List (List V × List V))
  | [] => some ([], [])
  | (t, e) :: r => match e.g, look env t, wf2 m e.v, subE m env r with
    | none, some ce, true, some (C, S) => match ce.g with
      | none => some (C, ([ren2 m e.v], [ce.v]) :: S)
      | some b => some ((b = true) :: C, ([ren2 m e.v], [ce.v]) :: S)
    | _, _, _, _ => none

def emptyC (b : Core) : Core := ⟨b.α, b.size, b.enc, b.d, []⟩

def subH (m : Map) (H : Heap) : Nat → List (Option Blk) → Option (List (List V × List V) × List (Option Core × Option Core))
  | _, [] => some ([], [])
  | i, none :: r => subH m H (i + 1) r
  | i, some b :: r => match mapAt m i, subH m H (i + 1) r with
    | some (some j), some (S, T) => match H j with
      | some b' => match Nat.beq b.size b'.size with
        | true => some (wfS m b.core :: (cellsR m b, cellsOf b') :: S, T)
        | false => none
      | none => none
    | some none, some (S, T) => match Nat.ble 1 b.size with
      | true => some ((cellsOf b, []) :: S, T)
      | false => none
    | _, _ => none

def liveOf (m : Map) : Nat → List (Option Blk) → List Nat
  | _, [] => []
  | i, none :: r => liveOf m (i + 1) r
  | i, some _ :: r => match mapAt m i with
    | some (some j) => j :: liveOf m (i + 1) r
    | _ => liveOf m (i + 1) r

def idUpTo (m : Map) : Nat → Bool
  | 0 => true
  | n + 1 => (match mapAt m n with
    | some (some j) => Nat.beq j n
    | _ => false) && idUpTo m n
theorem idUpTo_ok {m} : ∀ {n : Nat}, idUpTo m n = true → ∀ i, i < n → mapAt m i = some (some i) := by
  intro n; induction n with
  | zero => intro _ i hi; omega
  | succ n ih =>
    intro h i hi
    simp only [idUpTo, Bool.and_eq_true] at h
    by_cases e : i = n
    · subst e
      have := h.1
      split at this
      · rename_i j hj; rw [hj, Nat.eq_of_beq_eq_true this]
      · cases this
    · exact ih h.2 i (by omega)

def leN (K : Nat) (σ σ' : Sig) : Prop := ∀ i, i < K → ∀ L, σ i = some L → σ' i = some L
theorem leN.refl (K σ) : leN K σ σ := fun _ _ _ h => h
theorem leN.trans {K a b c} (h : leN K a b) (h' : leN K b c) : leN K a c := fun i hi L x => h' i hi L (h i hi L x)

/-- A state may be told by less, and by other numbers. -/
structure SubOK (K0 : Nat) (m : Map) (env : Env) (H : Heap) (E' : Env) (hs' : List (Option Blk)) (C : List Prop) (S : List (List V × List V)) (T : List (Option Core × Option Core)) : Prop where
  len : m.length = hs'.length
  idk : idUpTo m K0 = true
  nd : nodupB (liveOf m 0 hs') = true
  ex : ∃ S1 S2, subE m env E' = some (C, S1) ∧ subH m H 0 hs' = some (S2, T) ∧ S = S1 ++ S2

theorem subE_ok {ρ σ n a m env es} : ∀ {E' : Env} {C S}, subE m env E' = some (C, S) → allP C → allS S → EnvR ρ σ (look env) n (Act.tmps a) → ∀ t e, look E' t = some e → t < n ∧ entR ρ (sigOf m es σ) e (a.tmps.getD t undef) := by
  intro E'; induction E' with
  | nil => intro C S _ _ _ _ t e h; cases h
  | cons p r ih =>
    obtain ⟨s, e'⟩ := p
    intro C S h hC hS hE t e he
    simp only [subE] at h
    split at h
    · rename_i g1 ce C' S' hg hl hw hr
      have hrest : allP C' ∧ allS S' ∧ (ce.g = none ∨ ∃ b, ce.g = some b ∧ b = true) ∧ ren2 m e'.v = ce.v := by
        split at h
        · rename_i hcg
          cases h
          exact ⟨hC, hS.2, .inl hcg, by have := hS.1; injection this⟩
        · rename_i b hcg
          cases h
          exact ⟨hC.2, hS.2, .inr ⟨b, hcg, hC.1⟩, by have := hS.1; injection this⟩
      obtain ⟨hC', hS', hcg, hv⟩ := hrest
      simp only [look] at he
      by_cases hts : s = t
      · subst hts
        simp only [Nat.beq_refl] at he
        cases he
        obtain ⟨h1, h2⟩ := hE.2 s ce hl
        refine ⟨h1, ?_⟩
        unfold entR at h2 ⊢
        rw [hg]
        have hvr : VR ρ σ ce.v (a.tmps.getD s undef) := by
          rcases hcg with h | ⟨b, h, hb⟩
          · rw [h] at h2; exact h2
          · rw [h] at h2; exact h2.1 hb
        rw [← hv] at hvr
        exact back2 hvr hw
      · have : Nat.beq s t = false := by
          cases hb : Nat.beq s t with
          | false => rfl
          | true => exact absurd (Nat.eq_of_beq_eq_true hb) hts
        rw [this] at he
        exact ih hr hC' hS' hE t e he
    · cases h

theorem subH_ok {m H} : ∀ {hs : List (Option Blk)} {i S T}, subH m H i hs = some (S, T) → allS S → allT T →
    ∀ k b, hs[k]? = some (some b) → (∃ j b', mapAt m (i + k) = some (some j) ∧ (wfS m b.core).1 = (wfS m b.core).2 ∧ H j = some b' ∧ b.size = b'.size ∧ cellsR m b = cellsOf b') ∨
      (mapAt m (i + k) = some none ∧ b.l = [] ∧ 0 < b.size) := by
  intro hs; induction hs with
  | nil => intro i S T _ _ _ k b h; simp at h
  | cons x r ih =>
    intro i S T h hS hT k b hk
    cases x with
    | none =>
      simp only [subH] at h
      cases k with
      | zero => simp at hk
      | succ k =>
        have := ih h hS hT k b (by simpa using hk)
        rw [show i + (k + 1) = i + 1 + k by omega]; exact this
    | some b0 =>
      simp only [subH] at h
      split at h
      · rename_i j S' T' hm hr
        split at h
        · rename_i b' hb'
          split at h
          · rename_i hsz
            cases h
            cases k with
            | zero =>
              simp only [List.getElem?_cons_zero, Option.some.injEq] at hk
              subst hk
              exact .inl ⟨j, b', hm, hS.1, hb', Nat.eq_of_beq_eq_true hsz, hS.2.1⟩
            | succ k =>
              have := ih hr hS.2.2 hT k b (by simpa using hk)
              rw [show i + (k + 1) = i + 1 + k by omega]; exact this
          · cases h
        · cases h
      · rename_i S' T' hm hr
        split at h
        · rename_i hb
          cases h
          cases k with
          | zero =>
            simp only [List.getElem?_cons_zero, Option.some.injEq] at hk
            subst hk
            exact .inr ⟨hm, by have := congrArg List.length hS.1; simp [cellsOf] at this; exact this, Nat.le_of_ble_eq_true hb⟩
          | succ k =>
            have := ih hr hS.2 hT k b (by simpa using hk)
            rw [show i + (k + 1) = i + 1 + k by omega]; exact this
        · cases h
      · cases h

theorem liveOf_inj {m} : ∀ {hs : List (Option Blk)} {i : Nat}, (liveOf m i hs).Nodup → ∀ k l b c j, hs[k]? = some (some b) → hs[l]? = some (some c) → mapAt m (i + k) = some (some j) → mapAt m (i + l) = some (some j) → k = l := by
  have mem : ∀ {hs : List (Option Blk)} {i : Nat} {k b j}, hs[k]? = some (some b) → mapAt m (i + k) = some (some j) → j ∈ liveOf m i hs := by
    intro hs; induction hs with
    | nil => intro i k b j h; simp at h
    | cons x r ih =>
      intro i k b j h hm
      cases k with
      | zero =>
        simp only [List.getElem?_cons_zero, Option.some.injEq] at h
        subst h
        simp only [Nat.add_zero] at hm
        simp only [liveOf, hm]; exact .head _
      | succ k =>
        have := ih (i := i + 1) (k := k) (by simpa using h) (by rw [show i + 1 + k = i + (k + 1) by omega]; exact hm)
        cases x with
        | none => exact this
        | some b0 =>
          simp only [liveOf]
          split
          · exact .tail _ this
          · exact this
  intro hs; induction hs with
  | nil => intro i _ k l b c j h; simp at h
  | cons x r ih =>
    intro i hn k l b c j hk hl hmk hml
    have tailn : (liveOf m (i + 1) r).Nodup := by
      cases x with
      | none => exact hn
      | some b0 =>
        simp only [liveOf] at hn
        split at hn
        · exact (List.nodup_cons.1 hn).2
        · exact hn
    cases k with
    | zero =>
      cases l with
      | zero => rfl
      | succ l =>
        exfalso
        simp only [List.getElem?_cons_zero, Option.some.injEq] at hk
        subst hk
        simp only [Nat.add_zero] at hmk
        simp only [liveOf, hmk] at hn
        exact (List.nodup_cons.1 hn).1 (mem (i := i + 1) (k := l) (by simpa using hl) (by rw [show i + 1 + l = i + (l + 1) by omega]; exact hml))
    | succ k =>
      cases l with
      | zero =>
        exfalso
        simp only [List.getElem?_cons_zero, Option.some.injEq] at hl
        subst hl
        simp only [Nat.add_zero] at hml
        simp only [liveOf, hml] at hn
        exact (List.nodup_cons.1 hn).1 (mem (i := i + 1) (k := k) (by simpa using hk) (by rw [show i + 1 + k = i + (k + 1) by omega]; exact hmk))
      | succ l =>
        have := ih (i := i + 1) tailn k l b c j (by simpa using hk) (by simpa using hl) (by rw [show i + 1 + k = i + (k + 1) by omega]; exact hmk) (by rw [show i + 1 + l = i + (l + 1) by omega]; exact hml)
        omega

theorem hOf_some {hs : List (Option Blk)} {i b} (h : hOf hs i = some b) : hs[i]? = some (some b) := by
  unfold hOf at h
  split at h
  · rename_i x hx; rw [hx, h]
  · cases h

theorem sub_ok {K0 m env H E' hs' C S T} (h : SubOK K0 m env H E' hs' C S T) (hC : allP C) (hS : allS S) (hT : allT T) {G ρ σ F n N a w} (hB : Bears G ρ σ F n (look env) H N a w) :
    Bears G ρ (sigOf m (esOf hs') σ) F n (look E') (hOf hs') hs'.length a w ∧ leN K0 σ (sigOf m (esOf hs') σ) := by
  obtain ⟨hlen, hidk, hnd, S1, S2, h1, h2, rfl⟩ := h
  obtain ⟨hS1, hS2⟩ := allS_append hS
  have hblk := subH_ok h2 hS2 hT
  have nd := nodupB_ok hnd
  -- a live number is an old one, or a block that is empty and borne by nothing
  have live : ∀ i b, hOf hs' i = some b → ∃ L, sigOf m (esOf hs') σ i = some L ∧ BR ρ (sigOf m (esOf hs') σ) b L w ∧ (L.cap ≠ 0 → ∃ j b', mapAt m i = some (some j) ∧ H j = some b' ∧ σ j = some L) := by
    intro i b hi
    rcases hblk i b (hOf_some hi) with ⟨j, b', hm, hw, hj, hsz, hcells⟩ | ⟨hm, hemp, hpos⟩
    · rw [Nat.zero_add] at hm
      obtain ⟨L, hL, hBR⟩ := hB.inv.blk j b' hj
      exact ⟨L, by simp only [sigOf, hm]; exact hL, BR_back hBR hsz hcells hw, fun _ => ⟨j, b', hm, hj, hL⟩⟩
    · rw [Nat.zero_add] at hm
      have hes : esOf hs' i = b.size := by unfold esOf; rw [hi]
      exact ⟨⟨0, 0, esOf hs' i⟩, by simp only [sigOf, hm], ⟨hes, hpos, .inl ⟨rfl, hemp⟩⟩, fun hc => absurd rfl hc⟩
  refine ⟨⟨hB.gr, ⟨hB.env.1, fun t e he => subE_ok h1 hC hS1 hB.env t e he⟩, ⟨?_, ?_, ?_, hB.inv.frame, hB.inv.rmem, ?_, hB.inv.io⟩⟩, ?_⟩
  · intro i L hi
    unfold sigOf mapAt at hi
    have : i < m.length := by
      rcases Nat.lt_or_ge i m.length with h | h
      · exact h
      · rw [List.getElem?_eq_none h] at hi; cases hi
    omega
  · intro i b hi
    obtain ⟨L, hL, hBR, _⟩ := live i b hi
    exact ⟨L, hL, hBR⟩
  · intro i j b c L M hi hj hL hM hij hl hm
    obtain ⟨L', hL', _, hex⟩ := live i b hi
    obtain ⟨M', hM', _, hex'⟩ := live j c hj
    rw [hL] at hL'; cases hL'
    rw [hM] at hM'; cases hM'
    obtain ⟨p, bp, hp1, hp2, hp3⟩ := hex hl
    obtain ⟨q, bq, hq1, hq2, hq3⟩ := hex' hm
    refine hB.inv.inj p q bp bq L M hp2 hq2 hp3 hq3 (fun e => hij ?_) hl hm
    subst e
    exact liveOf_inj (i := 0) nd i j b c p (hOf_some hi) (hOf_some hj) (by rw [Nat.zero_add]; exact hp1) (by rw [Nat.zero_add]; exact hq1)
  · intro i b L hi hL hl
    obtain ⟨L', hL', _, hex⟩ := live i b hi
    rw [hL] at hL'; cases hL'
    obtain ⟨p, bp, hp1, hp2, hp3⟩ := hex hl
    exact hB.inv.apart p bp L hp2 hp3 hl
  · intro i hi L hL
    have := idUpTo_ok hidk i hi
    simp only [sigOf, this]; exact hL

end Go.Proofs.YtiekchfipaiflaaGreatDoor
