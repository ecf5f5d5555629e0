/- One wide sign more. -/
import Derived.Test.YtiekchfipaiflaaGreatDoorPc
namespace Go.Proofs.YtiekchfipaiflaaGreatDoor
open Go

def cW : cell_Cell := ⟨19968, ⟨0, 0, 0⟩, 1⟩
def cR : cell_Cell := ⟨0, ⟨0, 0, 0⟩, 2⟩
def cellAt (k i : Nat) : cell_Cell := if i / 2 < k then (if i % 2 = 1 then cR else cW) else b0
def cellsL (N k : Nat) : List cell_Cell := (List.range N).map (cellAt k)
theorem cellsL_len (N k : Nat) : (cellsL N k).length = N := by simp [cellsL]
theorem cellsL_get {N k i : Nat} (h : i < N) : (cellsL N k)[i]? = some (cellAt k i) := by simp [cellsL, h]
theorem cellsL_getD {N k i : Nat} (h : i < N) : (cellsL N k).getD i zero_cell_Cell = cellAt k i := by rw [List.getD, cellsL_get h]; rfl
theorem cellsL_zero (N : Nat) : List.replicate N b0 = cellsL N 0 := by
  apply List.ext_getElem (by simp [cellsL])
  intro i h1 h2
  simp [cellsL, cellAt]
theorem cellsL_set {N k : Nat} (h : 2 * k + 1 < N) : ((cellsL N k).set (2 * k) cW).set (2 * k + 1) cR = cellsL N (k + 1) := by
  apply List.ext_getElem (by simp [cellsL])
  intro i h1 h2
  have hi : i < N := by simpa [cellsL] using h2
  simp only [List.getElem_set]
  have e1 : (cellsL N k)[i]'(by rw [cellsL_len]; exact hi) = cellAt k i := by simp [cellsL]
  have e2 : (cellsL N (k + 1))[i] = cellAt (k + 1) i := by simp [cellsL]
  rw [e1, e2]
  unfold cellAt
  split
  · rename_i e
    subst e
    rw [if_pos (by omega), if_pos (by omega)]
  · split
    · rename_i e
      subst e
      rw [if_pos (by omega), if_neg (by omega)]
    · by_cases hk : i / 2 < k
      · have : i / 2 < k + 1 := by omega
        simp only [hk, this, if_true]
      · have : ¬ i / 2 < k + 1 := by omega
        simp only [hk, this, if_false]

theorem cellAt_wide {k i : Nat} : ((cellAt k i).Wide = 1 ↔ i / 2 < k ∧ i % 2 = 0) ∧ ((cellAt k i).Wide = 2 ↔ i / 2 < k ∧ i % 2 = 1) := by
  unfold cellAt
  split
  · split
    · constructor <;> constructor <;> intro h <;> simp [cR] at * <;> omega
    · constructor <;> constructor <;> intro h <;> simp [cW] at * <;> omega
  · constructor <;> constructor <;> intro h <;> simp [b0] at * <;> omega

theorem whole_cellsL {N k q h : Nat} (hN : (q + 1) * (2 * h) ≤ N) : Whole (cellsL N k) (q * (2 * h)) (2 * h) := by
  have e1 : q * (2 * h) = 2 * (q * h) := by rw [Nat.mul_left_comm]
  have e2 : (q + 1) * (2 * h) = 2 * (q * h) + 2 * h := by rw [Nat.add_mul, e1, Nat.one_mul]
  rw [e2] at hN
  rw [e1]
  intro i hi
  constructor
  · intro hw
    rw [cellsL_getD (by omega)] at hw
    have := cellAt_wide.1.1 hw
    have hi2 : i + 1 < 2 * h := by omega
    refine ⟨hi2, ?_⟩
    rw [cellsL_getD (by omega)]
    exact cellAt_wide.2.2 ⟨by omega, by omega⟩
  · intro hw
    rw [cellsL_getD (by omega)] at hw
    have := cellAt_wide.2.1 hw
    refine ⟨by omega, ?_⟩
    rw [cellsL_getD (by omega)]
    exact cellAt_wide.1.2 ⟨by omega, by omega⟩

/-- The terminal with k wide signs. -/
def termW (r h : Nat) (s : tabs_StopsO_1) (g1 : grid_GridO) (k row col : Nat) (p : Bool) : term_TermO_2 :=
  ⟨⟨⟨row, col, p⟩, ⟨0, 0, 0⟩, false⟩, ⟨r, (2 * h : Nat), r * (2 * h), cellsL (r * (2 * h)) k⟩, g1, 0, 0, r - 1, s, false, false, false, false, [], kept0, r, (2 * h : Nat), signs0, asks0, 0, [], 0⟩

/-- Fuel enough for a wide sign. -/
structure Fuel (f : Nat) : Prop where
  big : 12000 < f
  wide : F70 f 19968 = some 2
  may : F48 f cW = some true

theorem F101_ok' {f r c row : Nat} {l : List cell_Cell} (hr : r ≤ 60) (hc : c ≤ 200) (hrow : row < r) : F101 f ⟨r, c, r * c, l⟩ (row : Int) = some (row * c, c) := by
  have h1 : (row + 1) * c ≤ r * c := Nat.mul_le_mul (by omega) (Nat.le_refl _)
  have h2 := size_le hr hc
  have h3 : (row + 1) * c = row * c + c := by rw [Nat.add_mul, Nat.one_mul]
  unfold F101
  have e1 : ((row : Int) + 1) = ((row + 1 : Nat) : Int) := by omega
  simp only [e1]
  rw [wr_mul (by omega) hc, wr_mul (by omega) hc, chk_t (inR_small (by omega) (by omega)), chk_t (by omega), chk_t (by omega), chk_t (by omega)]
  simp only [Int.toNat_natCast, Nat.zero_add, h3, Nat.add_sub_cancel_left]

theorem is_t {row r col c : Nat} (h : row < r) (h' : col < c) : (((decide ((row : Int) ≥ 0) && decide ((row : Int) < (r : Int))) && decide ((col : Int) ≥ 0)) && decide ((col : Int) < (c : Int))) = true := by
  have h1 : (row : Int) ≥ 0 := by omega
  have h2 : (row : Int) < (r : Int) := by omega
  have h3 : (col : Int) ≥ 0 := by omega
  have h4 : (col : Int) < (c : Int) := by omega
  rw [decide_eq_true h1, decide_eq_true h2, decide_eq_true h3, decide_eq_true h4]; rfl

theorem F73_w {f : Nat} (hf : Fuel f) {r h k row col : Nat} (hr : r ≤ 60) (h1 : 1 ≤ h) (hh : 2 * h ≤ 200) (hrow : row < r) (hcol : col < 2 * h) (hpos : row * (2 * h) + col = 2 * k) :
    F73 f ⟨r, (2 * h : Nat), r * (2 * h), cellsL (r * (2 * h)) k⟩ (row : Int) (col : Int) cW = some (⟨r, (2 * h : Nat), r * (2 * h), cellsL (r * (2 * h)) (k + 1)⟩, true) := by
  have g1 : (row + 1) * (2 * h) ≤ r * (2 * h) := Nat.mul_le_mul (by omega) (Nat.le_refl _)
  have g2 := size_le hr hh
  have g3 : (row + 1) * (2 * h) = row * (2 * h) + 2 * h := by rw [Nat.add_mul, Nat.one_mul]
  have g4 : row * (2 * h) = 2 * (row * h) := by rw [Nat.mul_left_comm]
  have hN : 2 * k + 1 < r * (2 * h) := by omega
  unfold F73 F100
  simp only [is_t hrow hcol]
  simp only [bnd_s, Bool.not_true, Bool.not_false, ifb_t, hf.may, Bool.false_or]
  rw [show decide (cW.Wide = 2) = false by decide, ifb_f, F101_ok' hr hh hrow]
  simp only [bnd_s, Int.toNat_natCast]
  rw [chk_t (by omega), chk_t (by omega), chk_t (by rw [cellsL_len]; omega), show decide (cW.Wide = 1) = true by decide, ifb_t, chk_t (inR_small (by omega) (by omega))]
  rw [show decide ((col : Int) + 1 = ((2 * h : Nat) : Int)) = false by simp; omega, ifb_f]
  have e1 : ((col : Int) + 1).toNat = col + 1 := by omega
  simp only [e1]
  rw [chk_t (by omega), chk_t (by omega), chk_t (by rw [List.length_set, cellsL_len]; omega)]
  rw [hpos, show row * (2 * h) + (col + 1) = 2 * k + 1 by omega]
  unfold F73_p1
  rw [show ((cell_Cell.mk 0 cW.Attr 2)) = cR from rfl, cellsL_set hN]
  simp only []
  rw [F103_whole (by omega) hf.big (by rw [cellsL_len]; omega) (whole_cellsL (by omega)), bnd_s]

theorem held_mid {a : Nat} {n : Int} (h : (a : Int) ≤ n) : imin (imax (a : Int) 0) n = (a : Int) := by
  unfold imin imax; split <;> split <;> omega

theorem F42_p3_w {f : Nat} (hf : Fuel f) {r h k row col : Nat} {s g1} (r1 : 1 ≤ r) (hr : r ≤ 60) (h1 : 1 ≤ h) (hh : 2 * h ≤ 200) (hrow : row < r) (hcol : col < 2 * h) (hpos : row * (2 * h) + col = 2 * k) :
    ∃ col' p', F42_p3 f 2 19968 (termW r h s g1 k row col false) = some (termW r h s g1 (k + 1) row col' p') ∧ ((p' = false ∧ row * (2 * h) + col' = 2 * (k + 1) ∧ col' < 2 * h) ∨ (p' = true ∧ (row + 1) * (2 * h) = 2 * (k + 1) ∧ col' = 2 * h - 1)) := by
  have g3 : (row + 1) * (2 * h) = row * (2 * h) + 2 * h := by rw [Nat.add_mul, Nat.one_mul]
  have g4 : row * (2 * h) = 2 * (row * h) := by rw [Nat.mul_left_comm]
  unfold F42_p3 F28 termW
  simp only [decide_true, ifb_t, bnd_s, sm_l]
  rw [chk_t (by decide)]
  rw [show (cell_Cell.mk 19968 (cell_Attr.mk 0 0 0) (2 - 1)) = cW from rfl, F73_w hf hr h1 hh hrow hcol hpos]
  simp only [bnd_s]
  have hm : imin 2 ((2 * h : Nat) : Int) = 2 := by unfold imin; split <;> omega
  rw [chk_t (by show inR ((col : Int) + imin 2 ((2 * h : Nat) : Int)); rw [hm]; exact inR_small (by omega) (by omega))]
  simp only [hm]
  unfold F74 F104
  simp only [bnd_s]
  rw [chk_t (inR_small (by omega) (by omega)), chk_t (inR_small (by omega) (by omega))]
  simp only [bnd_s]
  have e1 : imin (imax (row : Int) 0) ((r : Int) - 1) = (row : Int) := held_mid (by omega)
  rw [e1]
  by_cases hc : col + 2 < 2 * h
  · have e2 : imin (imax ((col : Int) + 2) 0) (((2 * h : Nat) : Int) - 1) = ((col + 2 : Nat) : Int) := by
      rw [show ((col : Int) + 2) = ((col + 2 : Nat) : Int) by omega]; exact held_mid (by omega)
    refine ⟨col + 2, false, ?_, .inl ⟨rfl, by omega, hc⟩⟩
    rw [e2, show decide ((col : Int) + 2 ≥ ((2 * h : Nat) : Int)) = false by simp; omega]
    rfl
  · have e2 : imin (imax ((col : Int) + 2) 0) (((2 * h : Nat) : Int) - 1) = ((2 * h - 1 : Nat) : Int) := by
      unfold imin imax; split <;> split <;> omega
    refine ⟨2 * h - 1, true, ?_, .inr ⟨rfl, by omega, rfl⟩⟩
    rw [e2, show decide ((col : Int) + 2 ≥ ((2 * h : Nat) : Int)) = true by simp; omega]
    rfl

theorem F42_p1_w {f : Nat} (hf : Fuel f) {r h k row col : Nat} {s g1} (r1 : 1 ≤ r) (hr : r ≤ 60) (h1 : 1 ≤ h) (hh : 2 * h ≤ 200) (hrow : row < r) (hcol : col < 2 * h) (hpos : row * (2 * h) + col = 2 * k) :
    ∃ col' p', F42_p1 f 2 19968 (termW r h s g1 k row col false) = some (termW r h s g1 (k + 1) row col' p') ∧ ((p' = false ∧ row * (2 * h) + col' = 2 * (k + 1) ∧ col' < 2 * h) ∨ (p' = true ∧ (row + 1) * (2 * h) = 2 * (k + 1) ∧ col' = 2 * h - 1)) := by
  have g4 : row * (2 * h) = 2 * (row * h) := by rw [Nat.mul_left_comm]
  have := F42_p3_w hf (s := s) (g1 := g1) r1 hr h1 hh hrow hcol hpos
  unfold F42_p1
  rw [chk_t (inR_small (by simp only [termW]; omega) (by simp only [termW]; omega))]
  rw [show decide ((termW r h s g1 k row col false).kept.cursor.col = (termW r h s g1 k row col false).cols - 1) = false from decide_eq_false (show ¬ ((col : Int) = ((2 * h : Nat) : Int) - 1) by omega)]
  simp only [Bool.and_false, Bool.false_and, ifb_f]
  unfold F42_p2
  rw [show (termW r h s g1 k row col false).insert = false from rfl, ifb_f]
  exact this

def InvW (r h k row col : Nat) (p : Bool) : Prop := row < r ∧ ((p = false ∧ row * (2 * h) + col = 2 * k ∧ col < 2 * h) ∨ (p = true ∧ (row + 1) * (2 * h) = 2 * k ∧ col = 2 * h - 1))

theorem F42_w {f : Nat} (hf : Fuel f) {r h k row col : Nat} {p s g1} (r1 : 1 ≤ r) (hr : r ≤ 60) (h1 : 1 ≤ h) (hh : 2 * h ≤ 200) (hk : k < r * h) (hI : InvW r h k row col p) :
    ∃ row' col' p', F42 f (termW r h s g1 k row col p) 19968 = some (termW r h s g1 (k + 1) row' col' p') ∧ InvW r h (k + 1) row' col' p' := by
  obtain ⟨hrow, hc⟩ := hI
  unfold F42
  rw [hf.wide, bnd_s, show decide ((2 : Int) = 0) = false from rfl, ifb_f]
  rcases hc with ⟨rfl, hpos, hcol⟩ | ⟨rfl, hpos, hcol⟩
  · rw [show ((termW r h s g1 k row col false).kept.cursor.pending && (!(termW r h s g1 k row col false).unwraps)) = false from rfl, ifb_f]
    obtain ⟨col', p', h2, h3⟩ := F42_p1_w hf (s := s) (g1 := g1) r1 hr h1 hh hrow hcol hpos
    exact ⟨row, col', p', h2, hrow, h3⟩
  · rw [show ((termW r h s g1 k row col true).kept.cursor.pending && (!(termW r h s g1 k row col true).unwraps)) = true from rfl, ifb_t]
    have hrow2 : row + 1 < r := by
      have e : r * (2 * h) = 2 * (r * h) := by rw [Nat.mul_left_comm]
      have : (row + 1) * (2 * h) < r * (2 * h) := by omega
      exact Nat.lt_of_mul_lt_mul_right this
    obtain ⟨col', p', h2, h3⟩ := F42_p1_w hf (s := s) (g1 := g1) (row := row + 1) (col := 0) r1 hr h1 hh hrow2 (by omega) (by omega : (row + 1) * (2 * h) + 0 = 2 * k)
    have e : F71 f (termW r h s g1 k row col true) = some (termW r h s g1 k (row + 1) 0 false) := by
      have hb : ¬ ((row : Int) = (r : Int) - 1) := by omega
      unfold F71 F76 termW
      simp only [hb, decide_false, ifb_f]
      rw [chk_t (inR_small (by omega) (by omega))]
      unfold F74 F104
      simp only [bnd_s]
      rw [chk_t (inR_small (by omega) (by omega)), chk_t (inR_small (by omega) (by omega))]
      simp only [bnd_s]
      rw [show ((row : Int) + 1) = ((row + 1 : Nat) : Int) by omega, held_mid (by omega), show imin (imax 0 0) (((2 * h : Nat) : Int) - 1) = ((0 : Nat) : Int) from held_mid (a := 0) (by omega)]
    rw [e, bnd_s]
    exact ⟨row + 1, col', p', h2, hrow2, h3⟩
end Go.Proofs.YtiekchfipaiflaaGreatDoor
