/- A new terminal, whatever its size. -/
import Derived.Test.YtiekchfipaiflaaGreatDoorPa
import Derived.Test.YtiekchfipaiflaaGreatDoorPm
namespace Go.Proofs.YtiekchfipaiflaaGreatDoor
open Go

theorem F35_loop {f n : Nat} {b : cell_Cell} {a0 : List cell_Cell} (hn : n ≤ 12000) : ∀ (j x : Nat) (l : List cell_Cell), l.length = n → 1 ≤ x → x ≤ n → l.take x = List.replicate x b → n - x < j →
    F35_p3 f (0, (n : Int)) a0 j l (x : Int) = some (n, List.replicate n b) := by
  intro j; induction j with
  | zero => intro x l _ _ _ _ h; omega
  | succ j ih =>
    intro x l hl h1 h2 h3 h4
    show F35_p3_b f (F35_p3 f (0, (n : Int)) a0 j) (0, (n : Int)) a0 l (x : Int) = _
    unfold F35_p3_b
    simp only [Int.toNat_natCast, Nat.zero_add, Nat.sub_zero, List.drop_zero, h3, List.length_replicate]
    by_cases hx : x < n
    · rw [show decide ((x : Int) < (n : Int)) = true by simpa using hx, ifb_t, chk_t (by omega), chk_t (by omega), chk_t (by omega), chk_t (by omega)]
      have hm : (Nat.min x (n - x)) = min x (n - x) := rfl
      simp only [hm]
      rw [chk_t (inR_small (by omega) (by omega))]
      have he : ((x : Int) + ((min x (n - x) : Nat) : Int)) = ((x + min x (n - x) : Nat) : Int) := by omega
      rw [he]
      have hxs : ((List.replicate x b).take (min x (n - x))).map (fun y => y) = List.replicate (min x (n - x)) b := by
        simp [List.take_replicate]
      rw [hxs]
      refine ih _ _ ?_ (by omega) (by omega) ?_ (by omega)
      · rw [putAt_length]; exact hl
        simp only [List.length_replicate]; omega
      · unfold putAt
        rw [h3, ← List.append_assoc, List.replicate_append_replicate, List.take_append_of_le_length (by simp), List.take_of_length_le (by simp)]
    · have hxn : x = n := by omega
      subst hxn
      rw [show decide ((x : Int) < (x : Int)) = false by simp, ifb_f]
      rw [List.take_of_length_le (by omega)] at h3
      rw [h3]

theorem F35_ok' {f n : Nat} {b : cell_Cell} (h1 : 1 ≤ n) (hn : n ≤ 12000) (hf : 12000 ≤ f) : F35 f 1 [b] (n : Int) = some (n, List.replicate n b) := by
  unfold F35
  rw [show decide ((n : Int) < 0) = false by simp, ifb_f]
  unfold F35_p1 F51
  have hm := mul64_ok n hn
  have h91 : F91 f (IntKind.wrap .u64 (((1 : Nat) : Nat) : Int)) (IntKind.wrap .u64 (n : Int)) = some (0, (n : Int)) := hm
  rw [h91, bnd_s, bnd_s]
  rw [show (decide ((((0 : Int), (n : Int)).1, ((0 : Int), (n : Int)).2).1 > 0) || decide ((((0 : Int), (n : Int)).1, ((0 : Int), (n : Int)).2).2 > 9223372036854775807)) = false by simp; omega, ifb_f]
  unfold F35_p2
  simp only [Int.toNat_natCast, Nat.zero_add, List.length_replicate, List.length_cons, List.length_nil, List.drop_zero]
  rw [chk_t (inR_small (by omega) (by omega)), chk_t (by omega), chk_t (by omega), chk_t (by omega), chk_t (by omega), chk_t (by omega)]
  have hm1 : Nat.min 1 n = 1 := by show min 1 n = 1; omega
  simp only [List.take_succ_cons, List.take_zero, List.length_cons, List.length_nil, Nat.zero_add, hm1, List.map_cons, List.map_nil]
  have := F35_loop (f := f) (b := b) (a0 := [b]) hn f 1 (putAt (List.replicate n (cell_Cell.mk 0 (cell_Attr.mk 0 0 0) 0)) 0 [b]) (by rw [putAt_length]; simp; simp; omega) (by omega) h1 (by simp [putAt, List.take_succ_cons]) (by omega)
  exact this

theorem F59_loop {f : Nat} {c : Nat} (hc : c ≤ 200) : ∀ (j x : Nat) (s : tabs_StopsO_1), s.at_n = s.at_.length → s.at_n ≤ x → x ≤ c → c - x < j → ∃ s', F59_p1 f (c : Int) j s (x : Int) = some (s', 0) := by
  intro j; induction j with
  | zero => intro x s _ _ _ h; omega
  | succ j ih =>
    intro x s hs hl hx hj
    show ∃ s', F59_p1_b f (F59_p1 f (c : Int) j) (c : Int) s (x : Int) = _
    unfold F59_p1_b
    by_cases h : x < c
    · rw [show decide ((x : Int) < (c : Int)) = true by simpa using h, ifb_t, chk_t (fun _ => by decide), chk_t hs, chk_t (by omega), chk_t (inR_small (by omega) (by omega))]
      have he : ((x : Int) + 1) = ((x + 1 : Nat) : Int) := by omega
      rw [he]
      exact ih (x + 1) _ (by simp [hs]) (by simp; omega) (by omega) (by omega)
    · rw [show decide ((x : Int) < (c : Int)) = false by simpa using h, ifb_f]
      exact ⟨s, rfl⟩

theorem F39_ok' {f c : Nat} (h1 : 1 ≤ c) (hc : c ≤ 200) (hf : 12000 ≤ f) : ∃ s, F39 f (c : Int) = some (.inr (s, 0)) := by
  unfold F39 F59
  rw [show (decide ((c : Int) < 1) || decide ((c : Int) > 200)) = false by simp; omega, ifb_f]
  have hi : imin 0 (c : Int) = 0 := by unfold imin; split <;> omega
  rw [hi, chk_t (by omega), chk_t (by omega)]
  obtain ⟨s, hs⟩ := F59_loop (f := f) hc f 0 (tabs_StopsO_1.mk 0 []) rfl (by simp) (by omega) (by omega)
  rw [show F59_p1 f (c : Int) f (tabs_StopsO_1.mk 0 []) 0 = some (s, 0) from hs, bnd_s]
  exact ⟨s, rfl⟩

def asks0 : esc_ParserO := ⟨0, 0, [], false, 0, 0, false, 0, [], 0, []⟩
def signs0 : utf_DecoderO := ⟨0, []⟩
def kept0 : term_kept := ⟨⟨0, 0, false⟩, ⟨0, 0, 0⟩, false⟩
def term0 (rows cols : Nat) (s : tabs_StopsO_1) : term_TermO_2 :=
  ⟨kept0, ⟨rows, cols, rows * cols, List.replicate (rows * cols) b0⟩, ⟨rows, cols, rows * cols, List.replicate (rows * cols) b0⟩, 0, 0, rows - 1, s, false, false, false, false, [], kept0, rows, cols, signs0, asks0, 0, [], 0⟩

theorem size_le {r c : Nat} (hr : r ≤ 60) (hc : c ≤ 200) : r * c ≤ 12000 := Nat.mul_le_mul hr hc
theorem size_pos {r c : Nat} (hr : 1 ≤ r) (hc : 1 ≤ c) : 1 ≤ r * c := Nat.mul_pos hr hc
theorem wr_mul {r c : Nat} (hr : r ≤ 60) (hc : c ≤ 200) : wr ((r : Int) * (c : Int)) = ((r * c : Nat) : Int) := by
  have := size_le hr hc
  rw [← Int.natCast_mul]
  exact wr_small (by omega) (by omega)

theorem fits_t {r c : Nat} (r1 : 1 ≤ r) (hr : r ≤ 60) (c1 : 1 ≤ c) (hc : c ≤ 200) : ((((decide ((r : Int) ≥ 1) && decide ((r : Int) ≤ 60)) && decide ((c : Int) ≥ 1)) && decide ((c : Int) ≤ 200))) = true := by
  simp; omega

theorem F38_ok' {f r c : Nat} (r1 : 1 ≤ r) (hr : r ≤ 60) (c1 : 1 ≤ c) (hc : c ≤ 200) (hf : 12000 ≤ f) :
    F38 f (r : Int) (c : Int) = some (.inr (⟨r, c, r * c, List.replicate (r * c) b0⟩, 0)) := by
  unfold F38 F57 F58 F13
  rw [fits_t r1 hr c1 hc, bnd_s, wr_mul hr hc]
  simp only [Bool.not_true, ifb_f, bnd_s]
  rw [F35_ok' (size_pos r1 c1) (size_le hr hc) hf, bnd_s]
  rfl

theorem F9_ok' {f r c : Nat} (r1 : 1 ≤ r) (hr : r ≤ 60) (c1 : 1 ≤ c) (hc : c ≤ 200) (hf : 12000 ≤ f) : ∃ s, F9 f (r : Int) (c : Int) = some (.inr (term0 r c s, 0)) := by
  unfold F9 F18 F34 F13
  rw [fits_t r1 hr c1 hc, bnd_s, wr_mul hr hc]
  simp only [Bool.not_true, ifb_f, bnd_s]
  rw [F35_ok' (size_pos r1 c1) (size_le hr hc) hf, bnd_s, bnd_s]
  simp only [decide_true, Bool.not_true, ifb_f]
  unfold F22 F23 F24
  simp only [bnd_s]
  rw [chk_t (inR_small (by omega) (by omega)), F38_ok' r1 hr c1 hc hf]
  simp only [bnd_s, sm_r]
  obtain ⟨s, hs⟩ := F39_ok' c1 hc hf
  rw [hs]
  exact ⟨s, rfl⟩

theorem F9_no {f : Nat} {r c : Int} (h : ¬ (1 ≤ r ∧ r ≤ 60 ∧ 1 ≤ c ∧ c ≤ 200)) : F9 f r c = some (.inl 1) := by
  unfold F9 F18 F34
  have : ((((decide (r ≥ 1) && decide (r ≤ 60)) && decide (c ≥ 1)) && decide (c ≤ 200))) = false := by
    simp only [Bool.and_eq_false_iff, decide_eq_false_iff_not]; omega
  rw [this]
  rfl
end Go.Proofs.YtiekchfipaiflaaGreatDoor
