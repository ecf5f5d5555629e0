/- A row that is whole is left as it is; one wide sign more. -/
import Derived.Test.YtiekchfipaiflaaGreatDoorPb
namespace Go.Proofs.YtiekchfipaiflaaGreatDoor
open Go
set_option linter.unusedSimpArgs false

/-- No half stands alone in n cells from place o on. -/
def Whole (l : List cell_Cell) (o n : Nat) : Prop := ∀ i, i < n →
  ((l.getD (o + i) zero_cell_Cell).Wide = 1 → i + 1 < n ∧ (l.getD (o + (i + 1)) zero_cell_Cell).Wide = 2) ∧
  ((l.getD (o + i) zero_cell_Cell).Wide = 2 → 0 < i ∧ (l.getD (o + (i - 1)) zero_cell_Cell).Wide = 1)

theorem row_getD {l : List cell_Cell} {o n i : Nat} (hi : i < n) : ((((l.drop o).take n)).map fun y => y).getD i zero_cell_Cell = l.getD (o + i) zero_cell_Cell := by
  simp only [List.map_id', List.getD, List.getElem?_take, hi, if_true, List.getElem?_drop]

theorem F103_loop {f : Nat} {l row : List cell_Cell} {o n : Nat} (hn : n ≤ 12000) (hl : o + n ≤ l.length) (hrow : row.length = n) (hr : ∀ i, i < n → row.getD i zero_cell_Cell = l.getD (o + i) zero_cell_Cell) (hw : Whole l o n) :
    ∀ (j x : Nat), x ≤ n → n - x < j → F103_p1 f (n, row) n o j l (x : Int) = some l := by
  intro j; induction j with
  | zero => intro x _ h; omega
  | succ j ih =>
    intro x hx hj
    show F103_p1_b f (F103_p1 f (n, row) n o j) (n, row) n o l (x : Int) = _
    unfold F103_p1_b
    simp only [Nat.zero_add, Int.toNat_natCast]
    by_cases h : x < n
    · have hin : inR ((x : Int) + 1) := inR_small (by omega) (by omega)
      have hin' : inR ((x : Int) - 1) := inR_small (by omega) (by omega)
      have e1 : ((x : Int) + 1).toNat = x + 1 := by omega
      have e2 : ((x : Int) - 1).toNat = x - 1 := by omega
      have hx1 : row.getD x zero_cell_Cell = l.getD (o + x) zero_cell_Cell := hr x h
      obtain ⟨w1, w2⟩ := hw x h
      rw [show decide ((x : Int) < (n : Int)) = true by simpa using h, ifb_t]
      simp only [e1, e2, hx1]
      generalize l.getD (o + x) zero_cell_Cell = c at w1 w2 ⊢
      rw [chk_t (by omega), chk_t (by omega), chk_t (by omega), chk_t (fun _ => hin), chk_t (fun _ => hin), chk_t (fun _ => by omega)]
      by_cases c1 : c.Wide = 1
      · obtain ⟨h3, h4⟩ := w1 c1
        have hx2 : row.getD (x + 1) zero_cell_Cell = l.getD (o + (x + 1)) zero_cell_Cell := hr (x + 1) h3
        rw [hx2, h4, c1]
        have hne : ¬ ((x : Int) + 1 = (n : Int)) := by omega
        simp only [hne, decide_false, decide_true, Bool.not_false, Bool.and_true, Bool.or_false, Bool.true_and, Bool.not_true, Bool.and_false, Bool.false_and]
        rw [chk_t (fun _ => by omega), chk_t (fun _ => by omega)]
        simp only [show ¬ ((1 : Int) = 2) by decide, decide_false, Bool.and_false, Bool.false_and, Bool.or_false]
        rw [chk_t (by simp), chk_t (by simp), chk_t (by simp), chk_t (by simp), ifb_f, chk_t hin]
        have he : ((x : Int) + 1) = ((x + 1 : Nat) : Int) := by omega
        rw [he]
        exact ih (x + 1) (by omega) (by omega)
      · simp only [c1, decide_false, Bool.false_and, Bool.not_false, Bool.true_and, Bool.false_or]
        rw [chk_t (by simp), chk_t (by simp)]
        have he : ((x : Int) + 1) = ((x + 1 : Nat) : Int) := by omega
        by_cases c2 : c.Wide = 2
        · obtain ⟨h3, h4⟩ := w2 c2
          have hx2 : row.getD (x - 1) zero_cell_Cell = l.getD (o + (x - 1)) zero_cell_Cell := hr (x - 1) (by omega)
          rw [hx2, h4, c2]
          have hne : ¬ ((x : Int) = 0) := by omega
          simp only [hne, decide_false, decide_true, Bool.not_false, Bool.and_true, Bool.not_true, Bool.or_false, Bool.true_and]
          rw [chk_t (fun _ => hin'), chk_t (fun _ => by omega), chk_t (fun _ => by omega), chk_t (fun _ => by omega), ifb_f, chk_t hin, he]
          exact ih (x + 1) (by omega) (by omega)
        · simp only [c2, decide_false, Bool.false_and]
          rw [chk_t (by simp), chk_t (by simp), chk_t (by simp), chk_t (by simp), ifb_f, chk_t hin, he]
          exact ih (x + 1) (by omega) (by omega)
    · rw [show decide ((x : Int) < (n : Int)) = false by simpa using h, ifb_f]

theorem F103_whole {f o n : Nat} {l : List cell_Cell} (hn : n ≤ 12000) (hf : 12000 < f) (hl : o + n ≤ l.length) (hw : Whole l o n) : F103 f o n l = some l := by
  unfold F103 F47
  have e : ((l.drop o).take n).length = n := by simp; omega
  simp only [e, Nat.zero_add, List.nil_append]
  rw [chk_t (by omega), chk_t hl, bnd_s]
  exact F103_loop hn hl (by simp; omega) (fun i hi => row_getD hi) hw f 0 (by omega) (by omega)
end Go.Proofs.YtiekchfipaiflaaGreatDoor
