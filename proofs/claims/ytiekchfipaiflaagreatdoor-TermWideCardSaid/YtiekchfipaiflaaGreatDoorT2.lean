/- Printed by program: what each function of the call computes, as a Lean function, and that the call computes it (part 2). -/
import Derived.Test.YtiekchfipaiflaaGreatDoorT1
namespace Go.Proofs.YtiekchfipaiflaaGreatDoor
open Go
set_option linter.unusedVariables false
/-! ### F103: function 103 tickertape/grid.mend -/
def F103_p1_b (f : Nat) (g1 : (List cell_Cell) → Int → Option (List cell_Cell)) (r1 : Nat × List cell_Cell) (a0_n : Nat) (a0_o : Nat) (a0_1 : List cell_Cell) (x10_1 : Int) : Option (List cell_Cell) :=
  ifb (decide (x10_1 < ((r1.1 : Nat) : Int))) (
    chk (0 ≤ x10_1) <|
    chk (x10_1 < ((r1.1 : Nat) : Int)) <|
    chk ((0 + x10_1.toNat) < r1.2.length) <|
    chk ((decide ((r1.2.getD (0 + x10_1.toNat) zero_cell_Cell).Wide = 1) = true → inR (x10_1 + 1))) <|
    chk (((decide ((r1.2.getD (0 + x10_1.toNat) zero_cell_Cell).Wide = 1) && (!(decide ((x10_1 + 1) = ((a0_n : Nat) : Int))))) = true → inR (x10_1 + 1))) <|
    chk (((decide ((r1.2.getD (0 + x10_1.toNat) zero_cell_Cell).Wide = 1) && (!(decide ((x10_1 + 1) = ((a0_n : Nat) : Int))))) = true → 0 ≤ (x10_1 + 1))) <|
    chk (((decide ((r1.2.getD (0 + x10_1.toNat) zero_cell_Cell).Wide = 1) && (!(decide ((x10_1 + 1) = ((a0_n : Nat) : Int))))) = true → (x10_1 + 1) < ((r1.1 : Nat) : Int))) <|
    chk (((decide ((r1.2.getD (0 + x10_1.toNat) zero_cell_Cell).Wide = 1) && (!(decide ((x10_1 + 1) = ((a0_n : Nat) : Int))))) = true → (0 + ((x10_1 + 1)).toNat) < r1.2.length)) <|
    chk (((((!(decide ((r1.2.getD (0 + x10_1.toNat) zero_cell_Cell).Wide = 1) && (decide ((x10_1 + 1) = ((a0_n : Nat) : Int)) || (!(decide ((r1.2.getD (0 + ((x10_1 + 1)).toNat) zero_cell_Cell).Wide = 2)))))) && decide ((r1.2.getD (0 + x10_1.toNat) zero_cell_Cell).Wide = 2)) && (!(decide (x10_1 = 0)))) = true → inR (x10_1 - 1))) <|
    chk (((((!(decide ((r1.2.getD (0 + x10_1.toNat) zero_cell_Cell).Wide = 1) && (decide ((x10_1 + 1) = ((a0_n : Nat) : Int)) || (!(decide ((r1.2.getD (0 + ((x10_1 + 1)).toNat) zero_cell_Cell).Wide = 2)))))) && decide ((r1.2.getD (0 + x10_1.toNat) zero_cell_Cell).Wide = 2)) && (!(decide (x10_1 = 0)))) = true → 0 ≤ (x10_1 - 1))) <|
    chk (((((!(decide ((r1.2.getD (0 + x10_1.toNat) zero_cell_Cell).Wide = 1) && (decide ((x10_1 + 1) = ((a0_n : Nat) : Int)) || (!(decide ((r1.2.getD (0 + ((x10_1 + 1)).toNat) zero_cell_Cell).Wide = 2)))))) && decide ((r1.2.getD (0 + x10_1.toNat) zero_cell_Cell).Wide = 2)) && (!(decide (x10_1 = 0)))) = true → (x10_1 - 1) < ((r1.1 : Nat) : Int))) <|
    chk (((((!(decide ((r1.2.getD (0 + x10_1.toNat) zero_cell_Cell).Wide = 1) && (decide ((x10_1 + 1) = ((a0_n : Nat) : Int)) || (!(decide ((r1.2.getD (0 + ((x10_1 + 1)).toNat) zero_cell_Cell).Wide = 2)))))) && decide ((r1.2.getD (0 + x10_1.toNat) zero_cell_Cell).Wide = 2)) && (!(decide (x10_1 = 0)))) = true → (0 + ((x10_1 - 1)).toNat) < r1.2.length)) <|
    ifb (((decide ((r1.2.getD (0 + x10_1.toNat) zero_cell_Cell).Wide = 1) && (decide ((x10_1 + 1) = ((a0_n : Nat) : Int)) || (!(decide ((r1.2.getD (0 + ((x10_1 + 1)).toNat) zero_cell_Cell).Wide = 2))))) || (decide ((r1.2.getD (0 + x10_1.toNat) zero_cell_Cell).Wide = 2) && (decide (x10_1 = 0) || (!(decide ((r1.2.getD (0 + ((x10_1 - 1)).toNat) zero_cell_Cell).Wide = 1))))))) (
      chk (x10_1 < ((a0_n : Nat) : Int)) <|
      chk ((a0_o + x10_1.toNat) < a0_1.length) <|
      chk (inR (x10_1 + 1)) <|
      g1 (a0_1.set (a0_o + x10_1.toNat) (cell_Cell.mk 32 ((r1.2.getD (0 + x10_1.toNat) zero_cell_Cell).Attr) 0)) (x10_1 + 1)) (
      chk (inR (x10_1 + 1)) <|
      g1 a0_1 (x10_1 + 1))) (
    some (a0_1))
def F103_p1 (f : Nat) (r1 : Nat × List cell_Cell) (a0_n : Nat) (a0_o : Nat) : Nat → (List cell_Cell) → Int → Option (List cell_Cell)
  | 0, _, _ => none
  | j + 1, a0_1, x10_1 => F103_p1_b f (F103_p1 f r1 a0_n a0_o j) r1 a0_n a0_o a0_1 x10_1
def F103 (f : Nat) (a0_o : Nat) (a0_n : Nat) (a0 : List cell_Cell) : Option (List cell_Cell) :=
  bnd (F47 f a0_o a0_n a0) fun r1 =>
  F103_p1 f r1 a0_n a0_o f a0 0
def v_F103 (a0_o : Nat) (a0_n : Nat) (a0 : List cell_Cell) (y : List cell_Cell) : V :=
  .tup []
def e_F103 (a0_o : Nat) (a0_n : Nat) (a0 : List cell_Cell) (y : List cell_Cell) : Env :=
  []
def x_F103 (a0_o : Nat) (a0_n : Nat) (a0 : List cell_Cell) (y : List cell_Cell) : List (Option Blk) :=
  [some (blk_cell_Cell y)]
set_option maxRecDepth 100000 in
set_option maxHeartbeats 4000000 in
theorem F103_p1_bok {cx : Cx} {f : Nat} {I1 : Act → World → Prop} {g1 : (List cell_Cell) → Int → Option (List cell_Cell)} {a0_o : Nat} {a0_n : Nat} {a0 : List cell_Cell} {r1 : Nat × List cell_Cell} {a0_1 : List cell_Cell} {x10_1 : Int} {y : List cell_Cell} (hg1 : ∀ (a0_1 : List cell_Cell) (x10_1 : Int), g1 a0_1 x10_1 = some y → ∀ a w, cx.In G0 60 1 [(0, ⟨none, .sl 0 a0_o a0_n⟩), (2, ⟨none, .sl 1 0 r1.1⟩), (8, ⟨none, .sl 1 0 r1.1⟩), (9, ⟨none, .i .i64 ((r1.1 : Nat) : Int)⟩), (10, ⟨none, .i .i64 x10_1⟩)] [some (blk_cell_Cell a0_1), some (blk_cell_Cell r1.2)] a w → I1 a w) (h : F103_p1_b f g1 r1 a0_n a0_o a0_1 x10_1 = some y) :
    WM Tryz.prog G0 60 1 Tryz.f103.results.toList (v_F103 a0_o a0_n a0 y) (x_F103 a0_o a0_n a0 y) cx (nav [.r, .r, .l I1] [.code (bodyOf Tryz.f103)]) [(0, ⟨none, .sl 0 a0_o a0_n⟩), (2, ⟨none, .sl 1 0 r1.1⟩), (8, ⟨none, .sl 1 0 r1.1⟩), (9, ⟨none, .i .i64 ((r1.1 : Nat) : Int)⟩), (10, ⟨none, .i .i64 x10_1⟩)] [some (blk_cell_Cell a0_1), some (blk_cell_Cell r1.2)] := by
  unfold F103_p1_b at h
  rcases of_ifb h with ⟨h2, h⟩ | ⟨h2, h⟩
  · obtain ⟨h3, h⟩ := of_chk h
    obtain ⟨h4, h⟩ := of_chk h
    obtain ⟨h5, h⟩ := of_chk h
    obtain ⟨h6, h⟩ := of_chk h
    obtain ⟨h7, h⟩ := of_chk h
    obtain ⟨h8, h⟩ := of_chk h
    obtain ⟨h9, h⟩ := of_chk h
    obtain ⟨h10, h⟩ := of_chk h
    obtain ⟨h11, h⟩ := of_chk h
    obtain ⟨h12, h⟩ := of_chk h
    obtain ⟨h13, h⟩ := of_chk h
    obtain ⟨h14, h⟩ := of_chk h
    rcases of_ifb h with ⟨h15, h⟩ | ⟨h15, h⟩
    · obtain ⟨h16, h⟩ := of_chk h
      obtain ⟨h17, h⟩ := of_chk h
      obtain ⟨h18, h⟩ := of_chk h
      exact WM.cut mixed [R_ [o_], T_, R_ [o_, o_, o_, .op (.fresh 2 (svB 5 [.i .i32 0, .i .i64 0, .i .i64 0, .i .i64 0, .i .i64 0])), o_, o_], R_ [o_, o_, o_, o_, o_, o_, o_, o_, o_, o_, o_, o_, o_, o_, o_, o_, o_, o_, o_, o_, o_, o_, o_, o_, o_, o_, o_, o_, o_, o_, o_, o_, o_, o_, o_, o_, o_, o_], R_ [o_], T_, R_ [o_, o_, o_, o_, o_, o_, o_], R_ [o_, o_]] [some 0, some 1] (pc ((h2 : decide (x10_1 < ((r1.1 : Nat) : Int)) = true)) <| pc h3 <| pc h4 <| pc h5 <| pc zlt1 <| pc zlt1 <| pc ((fun h => h : (decide ((r1.2.getD (0 + x10_1.toNat) zero_cell_Cell).Wide = 1) = true → decide ((r1.2.getD (0 + x10_1.toNat) zero_cell_Cell).Wide = 1) = true))) <| pc h6 <| pc ((fun h => h : (decide ((r1.2.getD (0 + x10_1.toNat) zero_cell_Cell).Wide = 1) = true → decide ((r1.2.getD (0 + x10_1.toNat) zero_cell_Cell).Wide = 1) = true))) <| pc ((fun h => h : (decide ((r1.2.getD (0 + x10_1.toNat) zero_cell_Cell).Wide = 1) = true → decide ((r1.2.getD (0 + x10_1.toNat) zero_cell_Cell).Wide = 1) = true))) <| pc ((fun h => h : (decide ((r1.2.getD (0 + x10_1.toNat) zero_cell_Cell).Wide = 1) = true → decide ((r1.2.getD (0 + x10_1.toNat) zero_cell_Cell).Wide = 1) = true))) <| pc ((fun h => h : (decide ((r1.2.getD (0 + x10_1.toNat) zero_cell_Cell).Wide = 1) = true → decide ((r1.2.getD (0 + x10_1.toNat) zero_cell_Cell).Wide = 1) = true))) <| pc ((fun h => h : ((decide ((r1.2.getD (0 + x10_1.toNat) zero_cell_Cell).Wide = 1) && (!(decide ((x10_1 + 1) = ((a0_n : Nat) : Int))))) = true → (decide ((r1.2.getD (0 + x10_1.toNat) zero_cell_Cell).Wide = 1) && (!(decide ((x10_1 + 1) = ((a0_n : Nat) : Int))))) = true))) <| pc h7 <| pc ((fun h => h : ((decide ((r1.2.getD (0 + x10_1.toNat) zero_cell_Cell).Wide = 1) && (!(decide ((x10_1 + 1) = ((a0_n : Nat) : Int))))) = true → (decide ((r1.2.getD (0 + x10_1.toNat) zero_cell_Cell).Wide = 1) && (!(decide ((x10_1 + 1) = ((a0_n : Nat) : Int))))) = true))) <| pc ((fun h => h : ((decide ((r1.2.getD (0 + x10_1.toNat) zero_cell_Cell).Wide = 1) && (!(decide ((x10_1 + 1) = ((a0_n : Nat) : Int))))) = true → (decide ((r1.2.getD (0 + x10_1.toNat) zero_cell_Cell).Wide = 1) && (!(decide ((x10_1 + 1) = ((a0_n : Nat) : Int))))) = true))) <| pc h8 <| pc h9 <| pc ((fun h => h : ((decide ((r1.2.getD (0 + x10_1.toNat) zero_cell_Cell).Wide = 1) && (!(decide ((x10_1 + 1) = ((a0_n : Nat) : Int))))) = true → (decide ((r1.2.getD (0 + x10_1.toNat) zero_cell_Cell).Wide = 1) && (!(decide ((x10_1 + 1) = ((a0_n : Nat) : Int))))) = true))) <| pc ((fun h => h : ((decide ((r1.2.getD (0 + x10_1.toNat) zero_cell_Cell).Wide = 1) && (!(decide ((x10_1 + 1) = ((a0_n : Nat) : Int))))) = true → (decide ((r1.2.getD (0 + x10_1.toNat) zero_cell_Cell).Wide = 1) && (!(decide ((x10_1 + 1) = ((a0_n : Nat) : Int))))) = true))) <| pc h10 <| pc ((fun h => h : ((decide ((r1.2.getD (0 + x10_1.toNat) zero_cell_Cell).Wide = 1) && (!(decide ((x10_1 + 1) = ((a0_n : Nat) : Int))))) = true → (decide ((r1.2.getD (0 + x10_1.toNat) zero_cell_Cell).Wide = 1) && (!(decide ((x10_1 + 1) = ((a0_n : Nat) : Int))))) = true))) <| pc ((fun h => h : (decide ((r1.2.getD (0 + x10_1.toNat) zero_cell_Cell).Wide = 1) = true → decide ((r1.2.getD (0 + x10_1.toNat) zero_cell_Cell).Wide = 1) = true))) <| pc ((fun k1 k2 => (and_t k1 (not_t k2)) : (decide ((r1.2.getD (0 + x10_1.toNat) zero_cell_Cell).Wide = 1) = true → (decide ((x10_1 + 1) = ((a0_n : Nat) : Int)) = false → (decide ((r1.2.getD (0 + x10_1.toNat) zero_cell_Cell).Wide = 1) && (!(decide ((x10_1 + 1) = ((a0_n : Nat) : Int))))) = true)))) <| pc ((fun k2 => k2 : (decide ((r1.2.getD (0 + x10_1.toNat) zero_cell_Cell).Wide = 1) = true → decide ((r1.2.getD (0 + x10_1.toNat) zero_cell_Cell).Wide = 1) = true))) <| pc ((fun h => h : ((!(decide ((r1.2.getD (0 + x10_1.toNat) zero_cell_Cell).Wide = 1) && (decide ((x10_1 + 1) = ((a0_n : Nat) : Int)) || (!(decide ((r1.2.getD (0 + ((x10_1 + 1)).toNat) zero_cell_Cell).Wide = 2)))))) = true → (!(decide ((r1.2.getD (0 + x10_1.toNat) zero_cell_Cell).Wide = 1) && (decide ((x10_1 + 1) = ((a0_n : Nat) : Int)) || (!(decide ((r1.2.getD (0 + ((x10_1 + 1)).toNat) zero_cell_Cell).Wide = 2)))))) = true))) <| pc ((fun _ => zlt1 : ((!(decide ((r1.2.getD (0 + x10_1.toNat) zero_cell_Cell).Wide = 1) && (decide ((x10_1 + 1) = ((a0_n : Nat) : Int)) || (!(decide ((r1.2.getD (0 + ((x10_1 + 1)).toNat) zero_cell_Cell).Wide = 2)))))) = true → 0 < 1))) <| pc ((fun h => h : ((!(decide ((r1.2.getD (0 + x10_1.toNat) zero_cell_Cell).Wide = 1) && (decide ((x10_1 + 1) = ((a0_n : Nat) : Int)) || (!(decide ((r1.2.getD (0 + ((x10_1 + 1)).toNat) zero_cell_Cell).Wide = 2)))))) = true → (!(decide ((r1.2.getD (0 + x10_1.toNat) zero_cell_Cell).Wide = 1) && (decide ((x10_1 + 1) = ((a0_n : Nat) : Int)) || (!(decide ((r1.2.getD (0 + ((x10_1 + 1)).toNat) zero_cell_Cell).Wide = 2)))))) = true))) <| pc ((fun h => h : ((!(decide ((r1.2.getD (0 + x10_1.toNat) zero_cell_Cell).Wide = 1) && (decide ((x10_1 + 1) = ((a0_n : Nat) : Int)) || (!(decide ((r1.2.getD (0 + ((x10_1 + 1)).toNat) zero_cell_Cell).Wide = 2)))))) = true → (!(decide ((r1.2.getD (0 + x10_1.toNat) zero_cell_Cell).Wide = 1) && (decide ((x10_1 + 1) = ((a0_n : Nat) : Int)) || (!(decide ((r1.2.getD (0 + ((x10_1 + 1)).toNat) zero_cell_Cell).Wide = 2)))))) = true))) <| pc ((fun h => h : (((!(decide ((r1.2.getD (0 + x10_1.toNat) zero_cell_Cell).Wide = 1) && (decide ((x10_1 + 1) = ((a0_n : Nat) : Int)) || (!(decide ((r1.2.getD (0 + ((x10_1 + 1)).toNat) zero_cell_Cell).Wide = 2)))))) && decide ((r1.2.getD (0 + x10_1.toNat) zero_cell_Cell).Wide = 2)) = true → ((!(decide ((r1.2.getD (0 + x10_1.toNat) zero_cell_Cell).Wide = 1) && (decide ((x10_1 + 1) = ((a0_n : Nat) : Int)) || (!(decide ((r1.2.getD (0 + ((x10_1 + 1)).toNat) zero_cell_Cell).Wide = 2)))))) && decide ((r1.2.getD (0 + x10_1.toNat) zero_cell_Cell).Wide = 2)) = true))) <| pc ((fun h => h : (((!(decide ((r1.2.getD (0 + x10_1.toNat) zero_cell_Cell).Wide = 1) && (decide ((x10_1 + 1) = ((a0_n : Nat) : Int)) || (!(decide ((r1.2.getD (0 + ((x10_1 + 1)).toNat) zero_cell_Cell).Wide = 2)))))) && decide ((r1.2.getD (0 + x10_1.toNat) zero_cell_Cell).Wide = 2)) = true → ((!(decide ((r1.2.getD (0 + x10_1.toNat) zero_cell_Cell).Wide = 1) && (decide ((x10_1 + 1) = ((a0_n : Nat) : Int)) || (!(decide ((r1.2.getD (0 + ((x10_1 + 1)).toNat) zero_cell_Cell).Wide = 2)))))) && decide ((r1.2.getD (0 + x10_1.toNat) zero_cell_Cell).Wide = 2)) = true))) <| pc ((fun h => h : ((((!(decide ((r1.2.getD (0 + x10_1.toNat) zero_cell_Cell).Wide = 1) && (decide ((x10_1 + 1) = ((a0_n : Nat) : Int)) || (!(decide ((r1.2.getD (0 + ((x10_1 + 1)).toNat) zero_cell_Cell).Wide = 2)))))) && decide ((r1.2.getD (0 + x10_1.toNat) zero_cell_Cell).Wide = 2)) && (!(decide (x10_1 = 0)))) = true → (((!(decide ((r1.2.getD (0 + x10_1.toNat) zero_cell_Cell).Wide = 1) && (decide ((x10_1 + 1) = ((a0_n : Nat) : Int)) || (!(decide ((r1.2.getD (0 + ((x10_1 + 1)).toNat) zero_cell_Cell).Wide = 2)))))) && decide ((r1.2.getD (0 + x10_1.toNat) zero_cell_Cell).Wide = 2)) && (!(decide (x10_1 = 0)))) = true))) <| pc h11 <| pc ((fun h => h : ((((!(decide ((r1.2.getD (0 + x10_1.toNat) zero_cell_Cell).Wide = 1) && (decide ((x10_1 + 1) = ((a0_n : Nat) : Int)) || (!(decide ((r1.2.getD (0 + ((x10_1 + 1)).toNat) zero_cell_Cell).Wide = 2)))))) && decide ((r1.2.getD (0 + x10_1.toNat) zero_cell_Cell).Wide = 2)) && (!(decide (x10_1 = 0)))) = true → (((!(decide ((r1.2.getD (0 + x10_1.toNat) zero_cell_Cell).Wide = 1) && (decide ((x10_1 + 1) = ((a0_n : Nat) : Int)) || (!(decide ((r1.2.getD (0 + ((x10_1 + 1)).toNat) zero_cell_Cell).Wide = 2)))))) && decide ((r1.2.getD (0 + x10_1.toNat) zero_cell_Cell).Wide = 2)) && (!(decide (x10_1 = 0)))) = true))) <| pc ((fun h => h : ((((!(decide ((r1.2.getD (0 + x10_1.toNat) zero_cell_Cell).Wide = 1) && (decide ((x10_1 + 1) = ((a0_n : Nat) : Int)) || (!(decide ((r1.2.getD (0 + ((x10_1 + 1)).toNat) zero_cell_Cell).Wide = 2)))))) && decide ((r1.2.getD (0 + x10_1.toNat) zero_cell_Cell).Wide = 2)) && (!(decide (x10_1 = 0)))) = true → (((!(decide ((r1.2.getD (0 + x10_1.toNat) zero_cell_Cell).Wide = 1) && (decide ((x10_1 + 1) = ((a0_n : Nat) : Int)) || (!(decide ((r1.2.getD (0 + ((x10_1 + 1)).toNat) zero_cell_Cell).Wide = 2)))))) && decide ((r1.2.getD (0 + x10_1.toNat) zero_cell_Cell).Wide = 2)) && (!(decide (x10_1 = 0)))) = true))) <| pc h12 <| pc h13 <| pc ((fun h => h : ((((!(decide ((r1.2.getD (0 + x10_1.toNat) zero_cell_Cell).Wide = 1) && (decide ((x10_1 + 1) = ((a0_n : Nat) : Int)) || (!(decide ((r1.2.getD (0 + ((x10_1 + 1)).toNat) zero_cell_Cell).Wide = 2)))))) && decide ((r1.2.getD (0 + x10_1.toNat) zero_cell_Cell).Wide = 2)) && (!(decide (x10_1 = 0)))) = true → (((!(decide ((r1.2.getD (0 + x10_1.toNat) zero_cell_Cell).Wide = 1) && (decide ((x10_1 + 1) = ((a0_n : Nat) : Int)) || (!(decide ((r1.2.getD (0 + ((x10_1 + 1)).toNat) zero_cell_Cell).Wide = 2)))))) && decide ((r1.2.getD (0 + x10_1.toNat) zero_cell_Cell).Wide = 2)) && (!(decide (x10_1 = 0)))) = true))) <| pc ((fun h => h : ((((!(decide ((r1.2.getD (0 + x10_1.toNat) zero_cell_Cell).Wide = 1) && (decide ((x10_1 + 1) = ((a0_n : Nat) : Int)) || (!(decide ((r1.2.getD (0 + ((x10_1 + 1)).toNat) zero_cell_Cell).Wide = 2)))))) && decide ((r1.2.getD (0 + x10_1.toNat) zero_cell_Cell).Wide = 2)) && (!(decide (x10_1 = 0)))) = true → (((!(decide ((r1.2.getD (0 + x10_1.toNat) zero_cell_Cell).Wide = 1) && (decide ((x10_1 + 1) = ((a0_n : Nat) : Int)) || (!(decide ((r1.2.getD (0 + ((x10_1 + 1)).toNat) zero_cell_Cell).Wide = 2)))))) && decide ((r1.2.getD (0 + x10_1.toNat) zero_cell_Cell).Wide = 2)) && (!(decide (x10_1 = 0)))) = true))) <| pc h14 <| pc ((fun h => h : ((((!(decide ((r1.2.getD (0 + x10_1.toNat) zero_cell_Cell).Wide = 1) && (decide ((x10_1 + 1) = ((a0_n : Nat) : Int)) || (!(decide ((r1.2.getD (0 + ((x10_1 + 1)).toNat) zero_cell_Cell).Wide = 2)))))) && decide ((r1.2.getD (0 + x10_1.toNat) zero_cell_Cell).Wide = 2)) && (!(decide (x10_1 = 0)))) = true → (((!(decide ((r1.2.getD (0 + x10_1.toNat) zero_cell_Cell).Wide = 1) && (decide ((x10_1 + 1) = ((a0_n : Nat) : Int)) || (!(decide ((r1.2.getD (0 + ((x10_1 + 1)).toNat) zero_cell_Cell).Wide = 2)))))) && decide ((r1.2.getD (0 + x10_1.toNat) zero_cell_Cell).Wide = 2)) && (!(decide (x10_1 = 0)))) = true))) <| pc ((fun h => h : (((!(decide ((r1.2.getD (0 + x10_1.toNat) zero_cell_Cell).Wide = 1) && (decide ((x10_1 + 1) = ((a0_n : Nat) : Int)) || (!(decide ((r1.2.getD (0 + ((x10_1 + 1)).toNat) zero_cell_Cell).Wide = 2)))))) && decide ((r1.2.getD (0 + x10_1.toNat) zero_cell_Cell).Wide = 2)) = true → ((!(decide ((r1.2.getD (0 + x10_1.toNat) zero_cell_Cell).Wide = 1) && (decide ((x10_1 + 1) = ((a0_n : Nat) : Int)) || (!(decide ((r1.2.getD (0 + ((x10_1 + 1)).toNat) zero_cell_Cell).Wide = 2)))))) && decide ((r1.2.getD (0 + x10_1.toNat) zero_cell_Cell).Wide = 2)) = true))) <| pc ((fun k1 k2 => (and_t k1 (not_t k2)) : (((!(decide ((r1.2.getD (0 + x10_1.toNat) zero_cell_Cell).Wide = 1) && (decide ((x10_1 + 1) = ((a0_n : Nat) : Int)) || (!(decide ((r1.2.getD (0 + ((x10_1 + 1)).toNat) zero_cell_Cell).Wide = 2)))))) && decide ((r1.2.getD (0 + x10_1.toNat) zero_cell_Cell).Wide = 2)) = true → (decide (x10_1 = 0) = false → (((!(decide ((r1.2.getD (0 + x10_1.toNat) zero_cell_Cell).Wide = 1) && (decide ((x10_1 + 1) = ((a0_n : Nat) : Int)) || (!(decide ((r1.2.getD (0 + ((x10_1 + 1)).toNat) zero_cell_Cell).Wide = 2)))))) && decide ((r1.2.getD (0 + x10_1.toNat) zero_cell_Cell).Wide = 2)) && (!(decide (x10_1 = 0)))) = true)))) <| pc ((fun h => h : ((!(decide ((r1.2.getD (0 + x10_1.toNat) zero_cell_Cell).Wide = 1) && (decide ((x10_1 + 1) = ((a0_n : Nat) : Int)) || (!(decide ((r1.2.getD (0 + ((x10_1 + 1)).toNat) zero_cell_Cell).Wide = 2)))))) = true → (!(decide ((r1.2.getD (0 + x10_1.toNat) zero_cell_Cell).Wide = 1) && (decide ((x10_1 + 1) = ((a0_n : Nat) : Int)) || (!(decide ((r1.2.getD (0 + ((x10_1 + 1)).toNat) zero_cell_Cell).Wide = 2)))))) = true))) <| pc ((fun k1 k2 => (and_t k1 k2) : ((!(decide ((r1.2.getD (0 + x10_1.toNat) zero_cell_Cell).Wide = 1) && (decide ((x10_1 + 1) = ((a0_n : Nat) : Int)) || (!(decide ((r1.2.getD (0 + ((x10_1 + 1)).toNat) zero_cell_Cell).Wide = 2)))))) = true → (decide ((r1.2.getD (0 + x10_1.toNat) zero_cell_Cell).Wide = 2) = true → ((!(decide ((r1.2.getD (0 + x10_1.toNat) zero_cell_Cell).Wide = 1) && (decide ((x10_1 + 1) = ((a0_n : Nat) : Int)) || (!(decide ((r1.2.getD (0 + ((x10_1 + 1)).toNat) zero_cell_Cell).Wide = 2)))))) && decide ((r1.2.getD (0 + x10_1.toNat) zero_cell_Cell).Wide = 2)) = true)))) <| pc ((fun k2 => (not_t k2) : ((decide ((r1.2.getD (0 + x10_1.toNat) zero_cell_Cell).Wide = 1) && (decide ((x10_1 + 1) = ((a0_n : Nat) : Int)) || (!(decide ((r1.2.getD (0 + ((x10_1 + 1)).toNat) zero_cell_Cell).Wide = 2))))) = false → (!(decide ((r1.2.getD (0 + x10_1.toNat) zero_cell_Cell).Wide = 1) && (decide ((x10_1 + 1) = ((a0_n : Nat) : Int)) || (!(decide ((r1.2.getD (0 + ((x10_1 + 1)).toNat) zero_cell_Cell).Wide = 2)))))) = true))) <| pc ((h15 : ((decide ((r1.2.getD (0 + x10_1.toNat) zero_cell_Cell).Wide = 1) && (decide ((x10_1 + 1) = ((a0_n : Nat) : Int)) || (!(decide ((r1.2.getD (0 + ((x10_1 + 1)).toNat) zero_cell_Cell).Wide = 2))))) || (decide ((r1.2.getD (0 + x10_1.toNat) zero_cell_Cell).Wide = 2) && (decide (x10_1 = 0) || (!(decide ((r1.2.getD (0 + ((x10_1 - 1)).toNat) zero_cell_Cell).Wide = 1)))))) = true)) <| pc zlt1 <| pc h3 <| pc h16 <| pc h17 <| pc h18 <| allP_nil) (WM.again (k := (nav [.r, .r, .n] [.code (bodyOf Tryz.f103)]).tail) (hg1 _ _ h)) (by kernel_rfl)
    · obtain ⟨h19, h⟩ := of_chk h
      exact WM.cut mixed [R_ [o_], T_, R_ [o_, o_, o_, .op (.fresh 2 (svB 5 [.i .i32 0, .i .i64 0, .i .i64 0, .i .i64 0, .i .i64 0])), o_, o_], R_ [o_, o_, o_, o_, o_, o_, o_, o_, o_, o_, o_, o_, o_, o_, o_, o_, o_, o_, o_, o_, o_, o_, o_, o_, o_, o_, o_, o_, o_, o_, o_, o_, o_, o_, o_, o_, o_, o_], R_ [o_], F_, R_ [o_, o_]] [some 0, some 1] (pc ((h2 : decide (x10_1 < ((r1.1 : Nat) : Int)) = true)) <| pc h3 <| pc h4 <| pc h5 <| pc zlt1 <| pc zlt1 <| pc ((fun h => h : (decide ((r1.2.getD (0 + x10_1.toNat) zero_cell_Cell).Wide = 1) = true → decide ((r1.2.getD (0 + x10_1.toNat) zero_cell_Cell).Wide = 1) = true))) <| pc h6 <| pc ((fun h => h : (decide ((r1.2.getD (0 + x10_1.toNat) zero_cell_Cell).Wide = 1) = true → decide ((r1.2.getD (0 + x10_1.toNat) zero_cell_Cell).Wide = 1) = true))) <| pc ((fun h => h : (decide ((r1.2.getD (0 + x10_1.toNat) zero_cell_Cell).Wide = 1) = true → decide ((r1.2.getD (0 + x10_1.toNat) zero_cell_Cell).Wide = 1) = true))) <| pc ((fun h => h : (decide ((r1.2.getD (0 + x10_1.toNat) zero_cell_Cell).Wide = 1) = true → decide ((r1.2.getD (0 + x10_1.toNat) zero_cell_Cell).Wide = 1) = true))) <| pc ((fun h => h : (decide ((r1.2.getD (0 + x10_1.toNat) zero_cell_Cell).Wide = 1) = true → decide ((r1.2.getD (0 + x10_1.toNat) zero_cell_Cell).Wide = 1) = true))) <| pc ((fun h => h : ((decide ((r1.2.getD (0 + x10_1.toNat) zero_cell_Cell).Wide = 1) && (!(decide ((x10_1 + 1) = ((a0_n : Nat) : Int))))) = true → (decide ((r1.2.getD (0 + x10_1.toNat) zero_cell_Cell).Wide = 1) && (!(decide ((x10_1 + 1) = ((a0_n : Nat) : Int))))) = true))) <| pc h7 <| pc ((fun h => h : ((decide ((r1.2.getD (0 + x10_1.toNat) zero_cell_Cell).Wide = 1) && (!(decide ((x10_1 + 1) = ((a0_n : Nat) : Int))))) = true → (decide ((r1.2.getD (0 + x10_1.toNat) zero_cell_Cell).Wide = 1) && (!(decide ((x10_1 + 1) = ((a0_n : Nat) : Int))))) = true))) <| pc ((fun h => h : ((decide ((r1.2.getD (0 + x10_1.toNat) zero_cell_Cell).Wide = 1) && (!(decide ((x10_1 + 1) = ((a0_n : Nat) : Int))))) = true → (decide ((r1.2.getD (0 + x10_1.toNat) zero_cell_Cell).Wide = 1) && (!(decide ((x10_1 + 1) = ((a0_n : Nat) : Int))))) = true))) <| pc h8 <| pc h9 <| pc ((fun h => h : ((decide ((r1.2.getD (0 + x10_1.toNat) zero_cell_Cell).Wide = 1) && (!(decide ((x10_1 + 1) = ((a0_n : Nat) : Int))))) = true → (decide ((r1.2.getD (0 + x10_1.toNat) zero_cell_Cell).Wide = 1) && (!(decide ((x10_1 + 1) = ((a0_n : Nat) : Int))))) = true))) <| pc ((fun h => h : ((decide ((r1.2.getD (0 + x10_1.toNat) zero_cell_Cell).Wide = 1) && (!(decide ((x10_1 + 1) = ((a0_n : Nat) : Int))))) = true → (decide ((r1.2.getD (0 + x10_1.toNat) zero_cell_Cell).Wide = 1) && (!(decide ((x10_1 + 1) = ((a0_n : Nat) : Int))))) = true))) <| pc h10 <| pc ((fun h => h : ((decide ((r1.2.getD (0 + x10_1.toNat) zero_cell_Cell).Wide = 1) && (!(decide ((x10_1 + 1) = ((a0_n : Nat) : Int))))) = true → (decide ((r1.2.getD (0 + x10_1.toNat) zero_cell_Cell).Wide = 1) && (!(decide ((x10_1 + 1) = ((a0_n : Nat) : Int))))) = true))) <| pc ((fun h => h : (decide ((r1.2.getD (0 + x10_1.toNat) zero_cell_Cell).Wide = 1) = true → decide ((r1.2.getD (0 + x10_1.toNat) zero_cell_Cell).Wide = 1) = true))) <| pc ((fun k1 k2 => (and_t k1 (not_t k2)) : (decide ((r1.2.getD (0 + x10_1.toNat) zero_cell_Cell).Wide = 1) = true → (decide ((x10_1 + 1) = ((a0_n : Nat) : Int)) = false → (decide ((r1.2.getD (0 + x10_1.toNat) zero_cell_Cell).Wide = 1) && (!(decide ((x10_1 + 1) = ((a0_n : Nat) : Int))))) = true)))) <| pc ((fun k2 => k2 : (decide ((r1.2.getD (0 + x10_1.toNat) zero_cell_Cell).Wide = 1) = true → decide ((r1.2.getD (0 + x10_1.toNat) zero_cell_Cell).Wide = 1) = true))) <| pc ((fun h => h : ((!(decide ((r1.2.getD (0 + x10_1.toNat) zero_cell_Cell).Wide = 1) && (decide ((x10_1 + 1) = ((a0_n : Nat) : Int)) || (!(decide ((r1.2.getD (0 + ((x10_1 + 1)).toNat) zero_cell_Cell).Wide = 2)))))) = true → (!(decide ((r1.2.getD (0 + x10_1.toNat) zero_cell_Cell).Wide = 1) && (decide ((x10_1 + 1) = ((a0_n : Nat) : Int)) || (!(decide ((r1.2.getD (0 + ((x10_1 + 1)).toNat) zero_cell_Cell).Wide = 2)))))) = true))) <| pc ((fun _ => zlt1 : ((!(decide ((r1.2.getD (0 + x10_1.toNat) zero_cell_Cell).Wide = 1) && (decide ((x10_1 + 1) = ((a0_n : Nat) : Int)) || (!(decide ((r1.2.getD (0 + ((x10_1 + 1)).toNat) zero_cell_Cell).Wide = 2)))))) = true → 0 < 1))) <| pc ((fun h => h : ((!(decide ((r1.2.getD (0 + x10_1.toNat) zero_cell_Cell).Wide = 1) && (decide ((x10_1 + 1) = ((a0_n : Nat) : Int)) || (!(decide ((r1.2.getD (0 + ((x10_1 + 1)).toNat) zero_cell_Cell).Wide = 2)))))) = true → (!(decide ((r1.2.getD (0 + x10_1.toNat) zero_cell_Cell).Wide = 1) && (decide ((x10_1 + 1) = ((a0_n : Nat) : Int)) || (!(decide ((r1.2.getD (0 + ((x10_1 + 1)).toNat) zero_cell_Cell).Wide = 2)))))) = true))) <| pc ((fun h => h : ((!(decide ((r1.2.getD (0 + x10_1.toNat) zero_cell_Cell).Wide = 1) && (decide ((x10_1 + 1) = ((a0_n : Nat) : Int)) || (!(decide ((r1.2.getD (0 + ((x10_1 + 1)).toNat) zero_cell_Cell).Wide = 2)))))) = true → (!(decide ((r1.2.getD (0 + x10_1.toNat) zero_cell_Cell).Wide = 1) && (decide ((x10_1 + 1) = ((a0_n : Nat) : Int)) || (!(decide ((r1.2.getD (0 + ((x10_1 + 1)).toNat) zero_cell_Cell).Wide = 2)))))) = true))) <| pc ((fun h => h : (((!(decide ((r1.2.getD (0 + x10_1.toNat) zero_cell_Cell).Wide = 1) && (decide ((x10_1 + 1) = ((a0_n : Nat) : Int)) || (!(decide ((r1.2.getD (0 + ((x10_1 + 1)).toNat) zero_cell_Cell).Wide = 2)))))) && decide ((r1.2.getD (0 + x10_1.toNat) zero_cell_Cell).Wide = 2)) = true → ((!(decide ((r1.2.getD (0 + x10_1.toNat) zero_cell_Cell).Wide = 1) && (decide ((x10_1 + 1) = ((a0_n : Nat) : Int)) || (!(decide ((r1.2.getD (0 + ((x10_1 + 1)).toNat) zero_cell_Cell).Wide = 2)))))) && decide ((r1.2.getD (0 + x10_1.toNat) zero_cell_Cell).Wide = 2)) = true))) <| pc ((fun h => h : (((!(decide ((r1.2.getD (0 + x10_1.toNat) zero_cell_Cell).Wide = 1) && (decide ((x10_1 + 1) = ((a0_n : Nat) : Int)) || (!(decide ((r1.2.getD (0 + ((x10_1 + 1)).toNat) zero_cell_Cell).Wide = 2)))))) && decide ((r1.2.getD (0 + x10_1.toNat) zero_cell_Cell).Wide = 2)) = true → ((!(decide ((r1.2.getD (0 + x10_1.toNat) zero_cell_Cell).Wide = 1) && (decide ((x10_1 + 1) = ((a0_n : Nat) : Int)) || (!(decide ((r1.2.getD (0 + ((x10_1 + 1)).toNat) zero_cell_Cell).Wide = 2)))))) && decide ((r1.2.getD (0 + x10_1.toNat) zero_cell_Cell).Wide = 2)) = true))) <| pc ((fun h => h : ((((!(decide ((r1.2.getD (0 + x10_1.toNat) zero_cell_Cell).Wide = 1) && (decide ((x10_1 + 1) = ((a0_n : Nat) : Int)) || (!(decide ((r1.2.getD (0 + ((x10_1 + 1)).toNat) zero_cell_Cell).Wide = 2)))))) && decide ((r1.2.getD (0 + x10_1.toNat) zero_cell_Cell).Wide = 2)) && (!(decide (x10_1 = 0)))) = true → (((!(decide ((r1.2.getD (0 + x10_1.toNat) zero_cell_Cell).Wide = 1) && (decide ((x10_1 + 1) = ((a0_n : Nat) : Int)) || (!(decide ((r1.2.getD (0 + ((x10_1 + 1)).toNat) zero_cell_Cell).Wide = 2)))))) && decide ((r1.2.getD (0 + x10_1.toNat) zero_cell_Cell).Wide = 2)) && (!(decide (x10_1 = 0)))) = true))) <| pc h11 <| pc ((fun h => h : ((((!(decide ((r1.2.getD (0 + x10_1.toNat) zero_cell_Cell).Wide = 1) && (decide ((x10_1 + 1) = ((a0_n : Nat) : Int)) || (!(decide ((r1.2.getD (0 + ((x10_1 + 1)).toNat) zero_cell_Cell).Wide = 2)))))) && decide ((r1.2.getD (0 + x10_1.toNat) zero_cell_Cell).Wide = 2)) && (!(decide (x10_1 = 0)))) = true → (((!(decide ((r1.2.getD (0 + x10_1.toNat) zero_cell_Cell).Wide = 1) && (decide ((x10_1 + 1) = ((a0_n : Nat) : Int)) || (!(decide ((r1.2.getD (0 + ((x10_1 + 1)).toNat) zero_cell_Cell).Wide = 2)))))) && decide ((r1.2.getD (0 + x10_1.toNat) zero_cell_Cell).Wide = 2)) && (!(decide (x10_1 = 0)))) = true))) <| pc ((fun h => h : ((((!(decide ((r1.2.getD (0 + x10_1.toNat) zero_cell_Cell).Wide = 1) && (decide ((x10_1 + 1) = ((a0_n : Nat) : Int)) || (!(decide ((r1.2.getD (0 + ((x10_1 + 1)).toNat) zero_cell_Cell).Wide = 2)))))) && decide ((r1.2.getD (0 + x10_1.toNat) zero_cell_Cell).Wide = 2)) && (!(decide (x10_1 = 0)))) = true → (((!(decide ((r1.2.getD (0 + x10_1.toNat) zero_cell_Cell).Wide = 1) && (decide ((x10_1 + 1) = ((a0_n : Nat) : Int)) || (!(decide ((r1.2.getD (0 + ((x10_1 + 1)).toNat) zero_cell_Cell).Wide = 2)))))) && decide ((r1.2.getD (0 + x10_1.toNat) zero_cell_Cell).Wide = 2)) && (!(decide (x10_1 = 0)))) = true))) <| pc h12 <| pc h13 <| pc ((fun h => h : ((((!(decide ((r1.2.getD (0 + x10_1.toNat) zero_cell_Cell).Wide = 1) && (decide ((x10_1 + 1) = ((a0_n : Nat) : Int)) || (!(decide ((r1.2.getD (0 + ((x10_1 + 1)).toNat) zero_cell_Cell).Wide = 2)))))) && decide ((r1.2.getD (0 + x10_1.toNat) zero_cell_Cell).Wide = 2)) && (!(decide (x10_1 = 0)))) = true → (((!(decide ((r1.2.getD (0 + x10_1.toNat) zero_cell_Cell).Wide = 1) && (decide ((x10_1 + 1) = ((a0_n : Nat) : Int)) || (!(decide ((r1.2.getD (0 + ((x10_1 + 1)).toNat) zero_cell_Cell).Wide = 2)))))) && decide ((r1.2.getD (0 + x10_1.toNat) zero_cell_Cell).Wide = 2)) && (!(decide (x10_1 = 0)))) = true))) <| pc ((fun h => h : ((((!(decide ((r1.2.getD (0 + x10_1.toNat) zero_cell_Cell).Wide = 1) && (decide ((x10_1 + 1) = ((a0_n : Nat) : Int)) || (!(decide ((r1.2.getD (0 + ((x10_1 + 1)).toNat) zero_cell_Cell).Wide = 2)))))) && decide ((r1.2.getD (0 + x10_1.toNat) zero_cell_Cell).Wide = 2)) && (!(decide (x10_1 = 0)))) = true → (((!(decide ((r1.2.getD (0 + x10_1.toNat) zero_cell_Cell).Wide = 1) && (decide ((x10_1 + 1) = ((a0_n : Nat) : Int)) || (!(decide ((r1.2.getD (0 + ((x10_1 + 1)).toNat) zero_cell_Cell).Wide = 2)))))) && decide ((r1.2.getD (0 + x10_1.toNat) zero_cell_Cell).Wide = 2)) && (!(decide (x10_1 = 0)))) = true))) <| pc h14 <| pc ((fun h => h : ((((!(decide ((r1.2.getD (0 + x10_1.toNat) zero_cell_Cell).Wide = 1) && (decide ((x10_1 + 1) = ((a0_n : Nat) : Int)) || (!(decide ((r1.2.getD (0 + ((x10_1 + 1)).toNat) zero_cell_Cell).Wide = 2)))))) && decide ((r1.2.getD (0 + x10_1.toNat) zero_cell_Cell).Wide = 2)) && (!(decide (x10_1 = 0)))) = true → (((!(decide ((r1.2.getD (0 + x10_1.toNat) zero_cell_Cell).Wide = 1) && (decide ((x10_1 + 1) = ((a0_n : Nat) : Int)) || (!(decide ((r1.2.getD (0 + ((x10_1 + 1)).toNat) zero_cell_Cell).Wide = 2)))))) && decide ((r1.2.getD (0 + x10_1.toNat) zero_cell_Cell).Wide = 2)) && (!(decide (x10_1 = 0)))) = true))) <| pc ((fun h => h : (((!(decide ((r1.2.getD (0 + x10_1.toNat) zero_cell_Cell).Wide = 1) && (decide ((x10_1 + 1) = ((a0_n : Nat) : Int)) || (!(decide ((r1.2.getD (0 + ((x10_1 + 1)).toNat) zero_cell_Cell).Wide = 2)))))) && decide ((r1.2.getD (0 + x10_1.toNat) zero_cell_Cell).Wide = 2)) = true → ((!(decide ((r1.2.getD (0 + x10_1.toNat) zero_cell_Cell).Wide = 1) && (decide ((x10_1 + 1) = ((a0_n : Nat) : Int)) || (!(decide ((r1.2.getD (0 + ((x10_1 + 1)).toNat) zero_cell_Cell).Wide = 2)))))) && decide ((r1.2.getD (0 + x10_1.toNat) zero_cell_Cell).Wide = 2)) = true))) <| pc ((fun k1 k2 => (and_t k1 (not_t k2)) : (((!(decide ((r1.2.getD (0 + x10_1.toNat) zero_cell_Cell).Wide = 1) && (decide ((x10_1 + 1) = ((a0_n : Nat) : Int)) || (!(decide ((r1.2.getD (0 + ((x10_1 + 1)).toNat) zero_cell_Cell).Wide = 2)))))) && decide ((r1.2.getD (0 + x10_1.toNat) zero_cell_Cell).Wide = 2)) = true → (decide (x10_1 = 0) = false → (((!(decide ((r1.2.getD (0 + x10_1.toNat) zero_cell_Cell).Wide = 1) && (decide ((x10_1 + 1) = ((a0_n : Nat) : Int)) || (!(decide ((r1.2.getD (0 + ((x10_1 + 1)).toNat) zero_cell_Cell).Wide = 2)))))) && decide ((r1.2.getD (0 + x10_1.toNat) zero_cell_Cell).Wide = 2)) && (!(decide (x10_1 = 0)))) = true)))) <| pc ((fun h => h : ((!(decide ((r1.2.getD (0 + x10_1.toNat) zero_cell_Cell).Wide = 1) && (decide ((x10_1 + 1) = ((a0_n : Nat) : Int)) || (!(decide ((r1.2.getD (0 + ((x10_1 + 1)).toNat) zero_cell_Cell).Wide = 2)))))) = true → (!(decide ((r1.2.getD (0 + x10_1.toNat) zero_cell_Cell).Wide = 1) && (decide ((x10_1 + 1) = ((a0_n : Nat) : Int)) || (!(decide ((r1.2.getD (0 + ((x10_1 + 1)).toNat) zero_cell_Cell).Wide = 2)))))) = true))) <| pc ((fun k1 k2 => (and_t k1 k2) : ((!(decide ((r1.2.getD (0 + x10_1.toNat) zero_cell_Cell).Wide = 1) && (decide ((x10_1 + 1) = ((a0_n : Nat) : Int)) || (!(decide ((r1.2.getD (0 + ((x10_1 + 1)).toNat) zero_cell_Cell).Wide = 2)))))) = true → (decide ((r1.2.getD (0 + x10_1.toNat) zero_cell_Cell).Wide = 2) = true → ((!(decide ((r1.2.getD (0 + x10_1.toNat) zero_cell_Cell).Wide = 1) && (decide ((x10_1 + 1) = ((a0_n : Nat) : Int)) || (!(decide ((r1.2.getD (0 + ((x10_1 + 1)).toNat) zero_cell_Cell).Wide = 2)))))) && decide ((r1.2.getD (0 + x10_1.toNat) zero_cell_Cell).Wide = 2)) = true)))) <| pc ((fun k2 => (not_t k2) : ((decide ((r1.2.getD (0 + x10_1.toNat) zero_cell_Cell).Wide = 1) && (decide ((x10_1 + 1) = ((a0_n : Nat) : Int)) || (!(decide ((r1.2.getD (0 + ((x10_1 + 1)).toNat) zero_cell_Cell).Wide = 2))))) = false → (!(decide ((r1.2.getD (0 + x10_1.toNat) zero_cell_Cell).Wide = 1) && (decide ((x10_1 + 1) = ((a0_n : Nat) : Int)) || (!(decide ((r1.2.getD (0 + ((x10_1 + 1)).toNat) zero_cell_Cell).Wide = 2)))))) = true))) <| pc ((h15 : ((decide ((r1.2.getD (0 + x10_1.toNat) zero_cell_Cell).Wide = 1) && (decide ((x10_1 + 1) = ((a0_n : Nat) : Int)) || (!(decide ((r1.2.getD (0 + ((x10_1 + 1)).toNat) zero_cell_Cell).Wide = 2))))) || (decide ((r1.2.getD (0 + x10_1.toNat) zero_cell_Cell).Wide = 2) && (decide (x10_1 = 0) || (!(decide ((r1.2.getD (0 + ((x10_1 - 1)).toNat) zero_cell_Cell).Wide = 1)))))) = false)) <| pc h19 <| allP_nil) (WM.again (k := (nav [.r, .r, .n] [.code (bodyOf Tryz.f103)]).tail) (hg1 _ _ h)) (by kernel_rfl)
  · replace h := Option.some.inj h
    subst h
    exact WM.retE mixed (e_F103 a0_o a0_n a0 (a0_1)) [R_ [o_], F_] [some 0] (pc ((h2 : decide (x10_1 < ((r1.1 : Nat) : Int)) = false)) <| allP_nil) (by kernel_rfl) (by kernel_rfl)
set_option maxRecDepth 100000 in
set_option maxHeartbeats 4000000 in
theorem F103_p1_ok {cx : Cx} {f : Nat} {a0_o : Nat} {a0_n : Nat} {a0 : List cell_Cell} {r1 : Nat × List cell_Cell} {a0_1 : List cell_Cell} {x10_1 : Int} {j : Nat} {y : List cell_Cell} (h : F103_p1 f r1 a0_n a0_o j a0_1 x10_1 = some y) :
    WM Tryz.prog G0 60 1 Tryz.f103.results.toList (v_F103 a0_o a0_n a0 y) (x_F103 a0_o a0_n a0 y) cx (nav [.r, .r, .n] [.code (bodyOf Tryz.f103)]) [(0, ⟨none, .sl 0 a0_o a0_n⟩), (2, ⟨none, .sl 1 0 r1.1⟩), (8, ⟨none, .sl 1 0 r1.1⟩), (9, ⟨none, .i .i64 ((r1.1 : Nat) : Int)⟩), (10, ⟨none, .i .i64 x10_1⟩)] [some (blk_cell_Cell a0_1), some (blk_cell_Cell r1.2)] := by
  refine WM.loopN (X := List cell_Cell × Int) (y := y) (kb := fun I1 => (nav [.r, .r, .l I1] [.code (bodyOf Tryz.f103)])) (by intro I; kernel_rfl) (fun j x => F103_p1 f r1 a0_n a0_o j x.1 x.2) (fun x => [(0, ⟨none, .sl 0 a0_o a0_n⟩), (2, ⟨none, .sl 1 0 r1.1⟩), (8, ⟨none, .sl 1 0 r1.1⟩), (9, ⟨none, .i .i64 ((r1.1 : Nat) : Int)⟩), (10, ⟨none, .i .i64 x.2⟩)]) (fun x => [some (blk_cell_Cell x.1), some (blk_cell_Cell r1.2)]) ?_ (j := j) (x := (a0_1, x10_1)) h
  intro j x I1 h hI
  cases j with
  | zero => cases h
  | succ j => exact F103_p1_bok (fun x0 x1 => hI j (x0, x1) (Nat.lt_succ_self j)) h
set_option maxRecDepth 100000 in
set_option maxHeartbeats 4000000 in
theorem F103_ok {f : Nat} {a0_o : Nat} {a0_n : Nat} {a0 : List cell_Cell} {y : List cell_Cell} (h : F103 f a0_o a0_n a0 = some y) :
    Spec Tryz.prog G0 103 [.sl 0 a0_o a0_n] [some (blk_cell_Cell a0)] (v_F103 a0_o a0_n a0 y) (x_F103 a0_o a0_n a0 y) :=
  Spec.ofM (fn := Tryz.f103) (c := bodyOf Tryz.f103) (n := 60) (rs := Tryz.f103.results.toList) Tryz.func103 (by kernel_rfl) (by kernel_rfl) (by kernel_rfl) (by kernel_rfl) fun cx => by
  unfold F103 at h
  obtain ⟨r1, h1, h⟩ := of_bnd h
  exact WM.cut mixed [R_ [o_, c_ (mkCall Tryz.call47 (F47_ok h1) [0, 1] (by kernel_rfl) (by kernel_rfl)), o_], R_ [o_, o_, o_]] [some 0, some 1] (allP_nil) (F103_p1_ok h) (by kernel_rfl)

/-! ### F72: function 72 (*tickertape/grid.Grid).Shift -/
def F72_p1 (f : Nat) (a1 : Int) (a0_1 : grid_GridO) : Option (grid_GridO) :=
  bnd (F101 f a0_1 a1) fun r8 =>
  bnd (F103 f r8.1 r8.2 a0_1.l) fun r9 =>
  some (({ a0_1 with l := r9 } : grid_GridO))
def F72 (f : Nat) (a0 : grid_GridO) (a1 : Int) (a2 : Int) (a3 : Int) (a4 : cell_Attr) : Option (grid_GridO) :=
  bnd (F100 f a0 a1 a2) fun r1 =>
  ifb ((!(!r1))) (
    bnd (F88 f a4) fun r2 =>
    ifb ((!r2)) (
      some (a0)) (
      bnd (F101 f a0 a1) fun r3 =>
      chk (0 ≤ a2) <|
      chk (a2 ≤ ((r3.2 : Nat) : Int)) <|
      ifb (decide (a3 > 0)) (
        chk (0 ≤ (imin a3 (((r3.2 - a2.toNat) : Nat) : Int))) <|
        chk ((imin a3 (((r3.2 - a2.toNat) : Nat) : Int)) ≤ (((r3.2 - a2.toNat) : Nat) : Int)) <|
        chk ((((r3.1 + a2.toNat) + ((imin a3 (((r3.2 - a2.toNat) : Nat) : Int))).toNat) + ((r3.2 - a2.toNat) - ((imin a3 (((r3.2 - a2.toNat) : Nat) : Int))).toNat)) ≤ a0.l.length) <|
        chk (((r3.1 + a2.toNat) + (r3.2 - a2.toNat)) ≤ a0.l.length) <|
        bnd (F13 f a4) fun r4 =>
        bnd (F102 f ((r3.1 + a2.toNat) + 0) (((imin a3 (((r3.2 - a2.toNat) : Nat) : Int))).toNat - 0) (putAt a0.l ((r3.1 + a2.toNat) + ((imin a3 (((r3.2 - a2.toNat) : Nat) : Int))).toNat) ((((a0.l.drop (r3.1 + a2.toNat)).take (r3.2 - a2.toNat)).take (Nat.min ((((a0.l.drop (r3.1 + a2.toNat)).take (r3.2 - a2.toNat))).length) ((r3.2 - a2.toNat) - ((imin a3 (((r3.2 - a2.toNat) : Nat) : Int))).toNat))).map fun y => y)) r4) fun r5 =>
        F72_p1 f a1 ({ a0 with l := r5 } : grid_GridO)) (
        chk (inR (0 - (((r3.2 - a2.toNat) : Nat) : Int))) <|
        chk (inR (0 - (imax a3 (0 - (((r3.2 - a2.toNat) : Nat) : Int))))) <|
        chk (0 ≤ (0 - (imax a3 (0 - (((r3.2 - a2.toNat) : Nat) : Int))))) <|
        chk ((0 - (imax a3 (0 - (((r3.2 - a2.toNat) : Nat) : Int)))) ≤ (((r3.2 - a2.toNat) : Nat) : Int)) <|
        chk (((r3.1 + a2.toNat) + (r3.2 - a2.toNat)) ≤ a0.l.length) <|
        chk ((((r3.1 + a2.toNat) + ((0 - (imax a3 (0 - (((r3.2 - a2.toNat) : Nat) : Int))))).toNat) + ((r3.2 - a2.toNat) - ((0 - (imax a3 (0 - (((r3.2 - a2.toNat) : Nat) : Int))))).toNat)) ≤ a0.l.length) <|
        chk (inR ((((r3.2 - a2.toNat) : Nat) : Int) - (0 - (imax a3 (0 - (((r3.2 - a2.toNat) : Nat) : Int)))))) <|
        chk (0 ≤ ((((r3.2 - a2.toNat) : Nat) : Int) - (0 - (imax a3 (0 - (((r3.2 - a2.toNat) : Nat) : Int)))))) <|
        chk (((((r3.2 - a2.toNat) : Nat) : Int) - (0 - (imax a3 (0 - (((r3.2 - a2.toNat) : Nat) : Int))))) ≤ (((r3.2 - a2.toNat) : Nat) : Int)) <|
        bnd (F13 f a4) fun r6 =>
        bnd (F102 f ((r3.1 + a2.toNat) + (((((r3.2 - a2.toNat) : Nat) : Int) - (0 - (imax a3 (0 - (((r3.2 - a2.toNat) : Nat) : Int)))))).toNat) ((r3.2 - a2.toNat) - (((((r3.2 - a2.toNat) : Nat) : Int) - (0 - (imax a3 (0 - (((r3.2 - a2.toNat) : Nat) : Int)))))).toNat) (putAt a0.l (r3.1 + a2.toNat) ((((a0.l.drop ((r3.1 + a2.toNat) + ((0 - (imax a3 (0 - (((r3.2 - a2.toNat) : Nat) : Int))))).toNat)).take ((r3.2 - a2.toNat) - ((0 - (imax a3 (0 - (((r3.2 - a2.toNat) : Nat) : Int))))).toNat)).take (Nat.min ((((a0.l.drop ((r3.1 + a2.toNat) + ((0 - (imax a3 (0 - (((r3.2 - a2.toNat) : Nat) : Int))))).toNat)).take ((r3.2 - a2.toNat) - ((0 - (imax a3 (0 - (((r3.2 - a2.toNat) : Nat) : Int))))).toNat))).length) (r3.2 - a2.toNat))).map fun y => y)) r6) fun r7 =>
        F72_p1 f a1 ({ a0 with l := r7 } : grid_GridO)))) (
    some (a0))
def v_F72 (a0 : grid_GridO) (a1 : Int) (a2 : Int) (a3 : Int) (a4 : cell_Attr) (y : grid_GridO) : V :=
  .tup []
def e_F72 (a0 : grid_GridO) (a1 : Int) (a2 : Int) (a3 : Int) (a4 : cell_Attr) (y : grid_GridO) : Env :=
  []
def x_F72 (a0 : grid_GridO) (a1 : Int) (a2 : Int) (a3 : Int) (a4 : cell_Attr) (y : grid_GridO) : List (Option Blk) :=
  [some (B_grid_GridO 1 y), some (blk_cell_Cell y.l)]
set_option maxRecDepth 100000 in
set_option maxHeartbeats 4000000 in
theorem F72_p1_ok {cx : Cx} {f : Nat} {a0 : grid_GridO} {a1 : Int} {a2 : Int} {a3 : Int} {a4 : cell_Attr} {a0_1 : grid_GridO} {y : grid_GridO} (h : F72_p1 f a1 a0_1 = some y) :
    WM Tryz.prog G0 67 2 Tryz.f72.results.toList (v_F72 a0 a1 a2 a3 a4 y) (x_F72 a0 a1 a2 a3 a4 y) cx (nav [.r, .r, .f, .r, .r, .t, .r, .r, .r, .n] [.code (bodyOf Tryz.f72)]) [(0, ⟨none, .p 0 0 0⟩), (1, ⟨none, .i .i64 a1⟩)] [some (B_grid_GridO 1 a0_1), some (blk_cell_Cell a0_1.l)] := by
  unfold F72_p1 at h
  obtain ⟨r8, h26, h⟩ := of_bnd h
  obtain ⟨r9, h27, h⟩ := of_bnd h
  replace h := Option.some.inj h
  subst h
  exact WM.retE mixed (e_F72 a0 a1 a2 a3 a4 (({ a0_1 with l := r9 } : grid_GridO))) [R_ [o_, o_, c_ (mkCall Tryz.call101 (F101_ok h26) [0, 1] (by kernel_rfl) (by kernel_rfl)), c_ (mkCall Tryz.call103 (F103_ok h27) [1] (by kernel_rfl) (by kernel_rfl))]] [some 0, some 1] (allP_nil) (by kernel_rfl) (by kernel_rfl)
set_option maxRecDepth 100000 in
set_option maxHeartbeats 4000000 in
theorem F72_ok {f : Nat} {a0 : grid_GridO} {a1 : Int} {a2 : Int} {a3 : Int} {a4 : cell_Attr} {y : grid_GridO} (h : F72 f a0 a1 a2 a3 a4 = some y) :
    Spec Tryz.prog G0 72 [.p 0 0 0, .i .i64 a1, .i .i64 a2, .i .i64 a3, .agg [.i .i64 a4.Flags, .i .i64 a4.Fg, .i .i64 a4.Bg]] [some (B_grid_GridO 1 a0), some (blk_cell_Cell a0.l)] (v_F72 a0 a1 a2 a3 a4 y) (x_F72 a0 a1 a2 a3 a4 y) :=
  Spec.ofM (fn := Tryz.f72) (c := bodyOf Tryz.f72) (n := 67) (rs := Tryz.f72.results.toList) Tryz.func72 (by kernel_rfl) (by kernel_rfl) (by kernel_rfl) (by kernel_rfl) fun cx => by
  unfold F72 at h
  obtain ⟨r1, h1, h⟩ := of_bnd h
  rcases of_ifb h with ⟨h2, h⟩ | ⟨h2, h⟩
  · obtain ⟨r2, h3, h⟩ := of_bnd h
    rcases of_ifb h with ⟨h4, h⟩ | ⟨h4, h⟩
    · replace h := Option.some.inj h
      subst h
      exact WM.retE mixed (e_F72 a0 a1 a2 a3 a4 (a0)) [R_ [.op (.fresh 2 (svB 3 [.i .i64 a4.Flags, .i .i64 a4.Fg, .i .i64 a4.Bg]))], R_ [o_, o_, o_, c_ (mkCall Tryz.call100 (F100_ok h1) [0, 1] (by kernel_rfl) (by kernel_rfl)), o_, o_, o_, c_ (mkCall Tryz.call88 (F88_ok h3) [] (by kernel_rfl) (by kernel_rfl)), m_, .pk false], T_] [some 0, some 1] (pc ((fun _ => zlt1 : ((!(!r1)) = true → 0 < 1))) <| pc ((h2 : (!(!r1)) = true)) <| pc ((h2 : (!(!r1)) = true)) <| pc ((h2 : (!(!r1)) = true)) <| pc (((nt_of h2) : (!r1) = false)) <| pc ((h4 : (!r2) = true)) <| allP_nil) (by kernel_rfl) (by kernel_rfl)
    · obtain ⟨r3, h5, h⟩ := of_bnd h
      obtain ⟨h6, h⟩ := of_chk h
      obtain ⟨h7, h⟩ := of_chk h
      rcases of_ifb h with ⟨h8, h⟩ | ⟨h8, h⟩
      · obtain ⟨h9, h⟩ := of_chk h
        obtain ⟨h10, h⟩ := of_chk h
        obtain ⟨h11, h⟩ := of_chk h
        obtain ⟨h12, h⟩ := of_chk h
        obtain ⟨r4, h13, h⟩ := of_bnd h
        obtain ⟨r5, h14, h⟩ := of_bnd h
        exact WM.cut mixed [R_ [.op (.fresh 2 (svB 3 [.i .i64 a4.Flags, .i .i64 a4.Fg, .i .i64 a4.Bg]))], R_ [o_, o_, o_, c_ (mkCall Tryz.call100 (F100_ok h1) [0, 1] (by kernel_rfl) (by kernel_rfl)), o_, o_, o_, c_ (mkCall Tryz.call88 (F88_ok h3) [] (by kernel_rfl) (by kernel_rfl)), m_, .pk false], F_, R_ [o_, o_, c_ (mkCall Tryz.call101 (F101_ok h5) [0, 1] (by kernel_rfl) (by kernel_rfl)), o_, o_, o_], R_ [o_, o_], T_, R_ [o_, o_, o_, o_, o_], R_ [o_, o_, o_, o_, o_], R_ [o_, o_, o_, o_, c_ (mkCall Tryz.call13 (F13_ok h13) [3] (by kernel_rfl) (by kernel_rfl)), c_ (mkCall Tryz.call102 (F102_ok h14) [1] (by kernel_rfl) (by kernel_rfl))]] [some 0, some 1] (pc ((fun _ => zlt1 : ((!(!r1)) = true → 0 < 1))) <| pc ((h2 : (!(!r1)) = true)) <| pc ((h2 : (!(!r1)) = true)) <| pc ((h2 : (!(!r1)) = true)) <| pc (((nt_of h2) : (!r1) = false)) <| pc ((h4 : (!r2) = false)) <| pc h6 <| pc h7 <| pc ((h8 : decide (a3 > 0) = true)) <| pc h9 <| pc h10 <| pc h11 <| pc h12 <| pc h9 <| pc h10 <| pc zlt1 <| allP_nil) (F72_p1_ok h) (by kernel_rfl)
      · obtain ⟨h15, h⟩ := of_chk h
        obtain ⟨h16, h⟩ := of_chk h
        obtain ⟨h17, h⟩ := of_chk h
        obtain ⟨h18, h⟩ := of_chk h
        obtain ⟨h19, h⟩ := of_chk h
        obtain ⟨h20, h⟩ := of_chk h
        obtain ⟨h21, h⟩ := of_chk h
        obtain ⟨h22, h⟩ := of_chk h
        obtain ⟨h23, h⟩ := of_chk h
        obtain ⟨r6, h24, h⟩ := of_bnd h
        obtain ⟨r7, h25, h⟩ := of_bnd h
        exact WM.cut mixed [R_ [.op (.fresh 2 (svB 3 [.i .i64 a4.Flags, .i .i64 a4.Fg, .i .i64 a4.Bg]))], R_ [o_, o_, o_, c_ (mkCall Tryz.call100 (F100_ok h1) [0, 1] (by kernel_rfl) (by kernel_rfl)), o_, o_, o_, c_ (mkCall Tryz.call88 (F88_ok h3) [] (by kernel_rfl) (by kernel_rfl)), m_, .pk false], F_, R_ [o_, o_, c_ (mkCall Tryz.call101 (F101_ok h5) [0, 1] (by kernel_rfl) (by kernel_rfl)), o_, o_, o_], R_ [o_, o_], F_, R_ [o_, o_, o_, o_, o_, o_, o_], R_ [o_, o_, o_, o_, o_], R_ [o_, o_, o_, o_, o_, o_, o_, c_ (mkCall Tryz.call13 (F13_ok h24) [3] (by kernel_rfl) (by kernel_rfl)), c_ (mkCall Tryz.call102 (F102_ok h25) [1] (by kernel_rfl) (by kernel_rfl))]] [some 0, some 1] (pc ((fun _ => zlt1 : ((!(!r1)) = true → 0 < 1))) <| pc ((h2 : (!(!r1)) = true)) <| pc ((h2 : (!(!r1)) = true)) <| pc ((h2 : (!(!r1)) = true)) <| pc (((nt_of h2) : (!r1) = false)) <| pc ((h4 : (!r2) = false)) <| pc h6 <| pc h7 <| pc ((h8 : decide (a3 > 0) = false)) <| pc h15 <| pc h16 <| pc h17 <| pc h18 <| pc h19 <| pc h20 <| pc h21 <| pc h22 <| pc h23 <| pc zlt1 <| allP_nil) (F72_p1_ok h) (by kernel_rfl)
  · replace h := Option.some.inj h
    subst h
    exact WM.retE mixed (e_F72 a0 a1 a2 a3 a4 (a0)) [R_ [.op (.fresh 2 (svB 3 [.i .i64 a4.Flags, .i .i64 a4.Fg, .i .i64 a4.Bg]))], R_ [o_, o_, o_, c_ (mkCall Tryz.call100 (F100_ok h1) [0, 1] (by kernel_rfl) (by kernel_rfl)), o_, o_, o_, s_, s_, .pk true], T_] [some 0, some 1] (pc ((fun _ => zlt1 : ((!(!r1)) = true → 0 < 1))) <| pc ((h2 : (!(!r1)) = false)) <| pc ((h2 : (!(!r1)) = false)) <| pc (((nf_of h2) : (!r1) = true)) <| pc ((rfl : true = true)) <| allP_nil) (by kernel_rfl) (by kernel_rfl)

/-! ### F48: function 48 tickertape/cell.May -/
def F48_p2 (f : Nat) (a0 : cell_Cell) (x3_2 : Bool) : Option (Bool) :=
  ifb (x3_2) (
    bnd (F88 f a0.Attr) fun r2 =>
    some (r2)) (
    some (false))
def F48_p1 (f : Nat) (a0 : cell_Cell) (x6_1 : Bool) : Option (Bool) :=
  ifb (x6_1) (
    bnd (F70 f a0.Rune) fun r1 =>
    chk (inR (a0.Wide + 1)) <|
    F48_p2 f a0 (decide (r1 = (a0.Wide + 1)))) (
    ifb (decide (a0.Wide = 2)) (
      F48_p2 f a0 (decide (a0.Rune = 0))) (
      F48_p2 f a0 false))
def F48 (f : Nat) (a0 : cell_Cell) : Option (Bool) :=
  ifb (decide (a0.Wide = 0)) (
    F48_p1 f a0 (decide (a0.Wide = 0))) (
    F48_p1 f a0 (decide (a0.Wide = 1)))
def v_F48 (a0 : cell_Cell) (y : Bool) : V :=
  .b y
def e_F48 (a0 : cell_Cell) (y : Bool) : Env :=
  [(2, ⟨none, .b y⟩)]
def x_F48 (a0 : cell_Cell) (y : Bool) : List (Option Blk) :=
  []
set_option maxRecDepth 100000 in
set_option maxHeartbeats 4000000 in
theorem F48_p2_ok {cx : Cx} {f : Nat} {a0 : cell_Cell} {x3_2 : Bool} {y : Bool} (h : F48_p2 f a0 x3_2 = some y) :
    WM Tryz.prog G0 27 0 Tryz.f48.results.toList (v_F48 a0 y) (x_F48 a0 y) cx (nav [.r, .r, .r, .r, .t, .t, .r, .n] [.code (bodyOf Tryz.f48)]) [(1, ⟨none, .p 0 0 0⟩), (3, ⟨none, .b x3_2⟩)] [some (svB 5 [.i .i32 a0.Rune, .i .i64 a0.Attr.Flags, .i .i64 a0.Attr.Fg, .i .i64 a0.Attr.Bg, .i .i64 a0.Wide])] := by
  unfold F48_p2 at h
  rcases of_ifb h with ⟨h6, h⟩ | ⟨h6, h⟩
  · obtain ⟨r2, h7, h⟩ := of_bnd h
    replace h := Option.some.inj h
    subst h
    exact WM.retE mixed (e_F48 a0 (r2)) [R_ [o_, o_, o_, o_, c_ (mkCall Tryz.call88 (F88_ok h7) [] (by kernel_rfl) (by kernel_rfl)), .pk true, o_]] [] (pc ((fun h => h : (x3_2 = true → x3_2 = true))) <| pc ((fun _ => zlt1 : (x3_2 = true → 0 < 1))) <| pc ((h6 : x3_2 = true)) <| pc ((h6 : x3_2 = true)) <| pc ((h6 : x3_2 = true)) <| allP_nil) (by kernel_rfl) (by kernel_rfl)
  · replace h := Option.some.inj h
    subst h
    exact WM.retE mixed (e_F48 a0 (false)) [R_ [o_, o_, o_, o_, s_, .pk false, o_]] [] (pc ((fun h => h : (x3_2 = true → x3_2 = true))) <| pc ((fun _ => zlt1 : (x3_2 = true → 0 < 1))) <| pc ((h6 : x3_2 = false)) <| pc ((h6 : x3_2 = false)) <| allP_nil) (by kernel_rfl) (by kernel_rfl)
set_option maxRecDepth 100000 in
set_option maxHeartbeats 4000000 in
theorem F48_p1_ok {cx : Cx} {f : Nat} {a0 : cell_Cell} {x6_1 : Bool} {y : Bool} (h : F48_p1 f a0 x6_1 = some y) :
    WM Tryz.prog G0 27 0 Tryz.f48.results.toList (v_F48 a0 y) (x_F48 a0 y) cx (nav [.r, .r, .r, .r, .t, .n] [.code (bodyOf Tryz.f48)]) [(1, ⟨none, .p 0 0 0⟩), (3, ⟨none, .b false⟩), (5, ⟨none, .i .i64 a0.Wide⟩), (6, ⟨none, .b x6_1⟩)] [some (svB 5 [.i .i32 a0.Rune, .i .i64 a0.Attr.Flags, .i .i64 a0.Attr.Fg, .i .i64 a0.Attr.Bg, .i .i64 a0.Wide])] := by
  unfold F48_p1 at h
  rcases of_ifb h with ⟨h2, h⟩ | ⟨h2, h⟩
  · obtain ⟨r1, h3, h⟩ := of_bnd h
    obtain ⟨h4, h⟩ := of_chk h
    exact WM.cut mixed [T_, R_ [o_, o_, c_ (mkCall Tryz.call70 (F70_ok h3) [] (by kernel_rfl) (by kernel_rfl)), o_, o_, o_, o_, o_]] [some 0] (pc ((h2 : x6_1 = true)) <| pc zlt1 <| pc zlt1 <| pc h4 <| allP_nil) (F48_p2_ok h) (by kernel_rfl)
  · rcases of_ifb h with ⟨h5, h⟩ | ⟨h5, h⟩
    · exact WM.cut mixed [F_, R_ [o_, o_], T_, R_ [o_, o_, o_, o_]] [some 0] (pc ((h2 : x6_1 = false)) <| pc ((h5 : decide (a0.Wide = 2) = true)) <| pc zlt1 <| allP_nil) (F48_p2_ok h) (by kernel_rfl)
    · exact WM.cut mixed [F_, R_ [o_, o_], F_] [some 0] (pc ((h2 : x6_1 = false)) <| pc ((h5 : decide (a0.Wide = 2) = false)) <| allP_nil) (F48_p2_ok h) (by kernel_rfl)
set_option maxRecDepth 100000 in
set_option maxHeartbeats 4000000 in
theorem F48_ok {f : Nat} {a0 : cell_Cell} {y : Bool} (h : F48 f a0 = some y) :
    Spec Tryz.prog G0 48 [.agg [.i .i32 a0.Rune, .i .i64 a0.Attr.Flags, .i .i64 a0.Attr.Fg, .i .i64 a0.Attr.Bg, .i .i64 a0.Wide]] [] (v_F48 a0 y) (x_F48 a0 y) :=
  Spec.ofM (fn := Tryz.f48) (c := bodyOf Tryz.f48) (n := 27) (rs := Tryz.f48.results.toList) Tryz.func48 (by kernel_rfl) (by kernel_rfl) (by kernel_rfl) (by kernel_rfl) fun cx => by
  unfold F48 at h
  rcases of_ifb h with ⟨h1, h⟩ | ⟨h1, h⟩
  · exact WM.cut mixed [R_ [.op (.fresh 0 (svB 5 [.i .i32 a0.Rune, .i .i64 a0.Attr.Flags, .i .i64 a0.Attr.Fg, .i .i64 a0.Attr.Bg, .i .i64 a0.Wide])), o_], R_ [o_], R_ [o_, o_], R_ [o_, o_], T_] [some 0] (pc zlt1 <| pc ((h1 : decide (a0.Wide = 0) = true)) <| allP_nil) (F48_p1_ok h) (by kernel_rfl)
  · exact WM.cut mixed [R_ [.op (.fresh 0 (svB 5 [.i .i32 a0.Rune, .i .i64 a0.Attr.Flags, .i .i64 a0.Attr.Fg, .i .i64 a0.Attr.Bg, .i .i64 a0.Wide])), o_], R_ [o_], R_ [o_, o_], R_ [o_, o_], F_, R_ [o_, o_]] [some 0] (pc zlt1 <| pc ((h1 : decide (a0.Wide = 0) = false)) <| allP_nil) (F48_p1_ok h) (by kernel_rfl)

/-! ### F73: function 73 (*tickertape/grid.Grid).Put -/
def F73_p1 (f : Nat) (r3 : Nat × Nat) (a0_1 : grid_GridO) : Option (grid_GridO × Bool) :=
  bnd (F103 f r3.1 r3.2 a0_1.l) fun r5 =>
  some ((({ a0_1 with l := r5 } : grid_GridO), true))
def F73 (f : Nat) (a0 : grid_GridO) (a1 : Int) (a2 : Int) (a3 : cell_Cell) : Option (grid_GridO × Bool) :=
  bnd (F100 f a0 a1 a2) fun r1 =>
  ifb ((!(!r1))) (
    bnd (F48 f a3) fun r2 =>
    ifb (((!r2) || decide (a3.Wide = 2))) (
      some ((a0, false))) (
      bnd (F101 f a0 a1) fun r3 =>
      chk (0 ≤ a2) <|
      chk (a2 < ((r3.2 : Nat) : Int)) <|
      chk ((r3.1 + a2.toNat) < a0.l.length) <|
      ifb (decide (a3.Wide = 1)) (
        chk (inR (a2 + 1)) <|
        ifb (decide ((a2 + 1) = a0.cols)) (
          bnd (F13 f a3.Attr) fun r4 =>
          chk ((r3.1 + a2.toNat) < ((a0.l.set (r3.1 + a2.toNat) a3)).length) <|
          F73_p1 f r3 ({ a0 with l := ((a0.l.set (r3.1 + a2.toNat) a3).set (r3.1 + a2.toNat) r4) } : grid_GridO)) (
          chk (0 ≤ (a2 + 1)) <|
          chk ((a2 + 1) < ((r3.2 : Nat) : Int)) <|
          chk ((r3.1 + ((a2 + 1)).toNat) < ((a0.l.set (r3.1 + a2.toNat) a3)).length) <|
          F73_p1 f r3 ({ a0 with l := ((a0.l.set (r3.1 + a2.toNat) a3).set (r3.1 + ((a2 + 1)).toNat) (cell_Cell.mk 0 a3.Attr 2)) } : grid_GridO))) (
        F73_p1 f r3 ({ a0 with l := (a0.l.set (r3.1 + a2.toNat) a3) } : grid_GridO)))) (
    some ((a0, false)))
def v_F73 (a0 : grid_GridO) (a1 : Int) (a2 : Int) (a3 : cell_Cell) (y : grid_GridO × Bool) : V :=
  .b y.2
def e_F73 (a0 : grid_GridO) (a1 : Int) (a2 : Int) (a3 : cell_Cell) (y : grid_GridO × Bool) : Env :=
  [(8, ⟨none, .b y.2⟩)]
def x_F73 (a0 : grid_GridO) (a1 : Int) (a2 : Int) (a3 : cell_Cell) (y : grid_GridO × Bool) : List (Option Blk) :=
  [some (B_grid_GridO 1 y.1), some (blk_cell_Cell y.1.l)]
set_option maxRecDepth 100000 in
set_option maxHeartbeats 4000000 in
theorem F73_p1_ok {cx : Cx} {f : Nat} {a0 : grid_GridO} {a1 : Int} {a2 : Int} {a3 : cell_Cell} {r3 : Nat × Nat} {a0_1 : grid_GridO} {y : grid_GridO × Bool} (h : F73_p1 f r3 a0_1 = some y) :
    WM Tryz.prog G0 57 2 Tryz.f73.results.toList (v_F73 a0 a1 a2 a3 y) (x_F73 a0 a1 a2 a3 y) cx (nav [.r, .r, .f, .r, .r, .r, .t, .r, .t, .r, .n] [.code (bodyOf Tryz.f73)]) [(9, ⟨none, .sl 1 r3.1 r3.2⟩)] [some (B_grid_GridO 1 a0_1), some (blk_cell_Cell a0_1.l)] := by
  unfold F73_p1 at h
  obtain ⟨r5, h17, h⟩ := of_bnd h
  replace h := Option.some.inj h
  subst h
  exact WM.retE mixed (e_F73 a0 a1 a2 a3 ((({ a0_1 with l := r5 } : grid_GridO), true))) [R_ [o_, c_ (mkCall Tryz.call103 (F103_ok h17) [1] (by kernel_rfl) (by kernel_rfl))], R_ [o_]] [some 0, some 1] (allP_nil) (by kernel_rfl) (by kernel_rfl)
set_option maxRecDepth 100000 in
set_option maxHeartbeats 4000000 in
theorem F73_ok {f : Nat} {a0 : grid_GridO} {a1 : Int} {a2 : Int} {a3 : cell_Cell} {y : grid_GridO × Bool} (h : F73 f a0 a1 a2 a3 = some y) :
    Spec Tryz.prog G0 73 [.p 0 0 0, .i .i64 a1, .i .i64 a2, .agg [.i .i32 a3.Rune, .i .i64 a3.Attr.Flags, .i .i64 a3.Attr.Fg, .i .i64 a3.Attr.Bg, .i .i64 a3.Wide]] [some (B_grid_GridO 1 a0), some (blk_cell_Cell a0.l)] (v_F73 a0 a1 a2 a3 y) (x_F73 a0 a1 a2 a3 y) :=
  Spec.ofM (fn := Tryz.f73) (c := bodyOf Tryz.f73) (n := 57) (rs := Tryz.f73.results.toList) Tryz.func73 (by kernel_rfl) (by kernel_rfl) (by kernel_rfl) (by kernel_rfl) fun cx => by
  unfold F73 at h
  obtain ⟨r1, h1, h⟩ := of_bnd h
  rcases of_ifb h with ⟨h2, h⟩ | ⟨h2, h⟩
  · obtain ⟨r2, h3, h⟩ := of_bnd h
    rcases of_ifb h with ⟨h4, h⟩ | ⟨h4, h⟩
    · replace h := Option.some.inj h
      subst h
      exact WM.retE mixed (e_F73 a0 a1 a2 a3 ((a0, false))) [R_ [.op (.fresh 2 (svB 5 [.i .i32 a3.Rune, .i .i64 a3.Attr.Flags, .i .i64 a3.Attr.Fg, .i .i64 a3.Attr.Bg, .i .i64 a3.Wide])), o_], R_ [o_, o_, o_, c_ (mkCall Tryz.call100 (F100_ok h1) [0, 1] (by kernel_rfl) (by kernel_rfl)), o_, o_, o_, c_ (mkCall Tryz.call48 (F48_ok h3) [] (by kernel_rfl) (by kernel_rfl)), m_, .pk false, o_, o_, o_, o_, o_], T_, R_ [o_]] [some 0, some 1] (pc ((fun _ => zlt1 : ((!(!r1)) = true → 0 < 1))) <| pc ((h2 : (!(!r1)) = true)) <| pc ((h2 : (!(!r1)) = true)) <| pc ((h2 : (!(!r1)) = true)) <| pc (((nt_of h2) : (!r1) = false)) <| pc ((fun h => h : ((!(!r2)) = true → (!(!r2)) = true))) <| pc ((fun _ => zlt1 : ((!(!r2)) = true → 0 < 1))) <| pc ((fun h => h : ((!(!r2)) = true → (!(!r2)) = true))) <| pc ((fun k2 => (not_t k2) : ((!r2) = false → (!(!r2)) = true))) <| pc ((h4 : ((!r2) || decide (a3.Wide = 2)) = true)) <| allP_nil) (by kernel_rfl) (by kernel_rfl)
    · obtain ⟨r3, h5, h⟩ := of_bnd h
      obtain ⟨h6, h⟩ := of_chk h
      obtain ⟨h7, h⟩ := of_chk h
      obtain ⟨h8, h⟩ := of_chk h
      rcases of_ifb h with ⟨h9, h⟩ | ⟨h9, h⟩
      · obtain ⟨h10, h⟩ := of_chk h
        rcases of_ifb h with ⟨h11, h⟩ | ⟨h11, h⟩
        · obtain ⟨r4, h12, h⟩ := of_bnd h
          obtain ⟨h13, h⟩ := of_chk h
          exact WM.cut mixed [R_ [.op (.fresh 2 (svB 5 [.i .i32 a3.Rune, .i .i64 a3.Attr.Flags, .i .i64 a3.Attr.Fg, .i .i64 a3.Attr.Bg, .i .i64 a3.Wide])), o_], R_ [o_, o_, o_, c_ (mkCall Tryz.call100 (F100_ok h1) [0, 1] (by kernel_rfl) (by kernel_rfl)), o_, o_, o_, c_ (mkCall Tryz.call48 (F48_ok h3) [] (by kernel_rfl) (by kernel_rfl)), m_, .pk false, o_, o_, o_, o_, o_], F_, R_ [o_, o_, c_ (mkCall Tryz.call101 (F101_ok h5) [0, 1] (by kernel_rfl) (by kernel_rfl)), o_], R_ [o_, o_, o_, o_, o_], R_ [o_, o_, o_], T_, R_ [o_, o_, o_, o_, o_, o_, o_], T_, R_ [o_, o_, o_, o_, c_ (mkCall Tryz.call13 (F13_ok h12) [3] (by kernel_rfl) (by kernel_rfl)), o_, o_]] [some 0, some 1] (pc ((fun _ => zlt1 : ((!(!r1)) = true → 0 < 1))) <| pc ((h2 : (!(!r1)) = true)) <| pc ((h2 : (!(!r1)) = true)) <| pc ((h2 : (!(!r1)) = true)) <| pc (((nt_of h2) : (!r1) = false)) <| pc ((fun h => h : ((!(!r2)) = true → (!(!r2)) = true))) <| pc ((fun _ => zlt1 : ((!(!r2)) = true → 0 < 1))) <| pc ((fun h => h : ((!(!r2)) = true → (!(!r2)) = true))) <| pc ((fun k2 => (not_t k2) : ((!r2) = false → (!(!r2)) = true))) <| pc ((h4 : ((!r2) || decide (a3.Wide = 2)) = false)) <| pc zlt1 <| pc h6 <| pc h7 <| pc h8 <| pc zlt1 <| pc ((h9 : decide (a3.Wide = 1) = true)) <| pc h10 <| pc zlt1 <| pc ((h11 : decide ((a2 + 1) = a0.cols) = true)) <| pc zlt1 <| pc h6 <| pc h7 <| pc h13 <| allP_nil) (F73_p1_ok h) (by kernel_rfl)
        · obtain ⟨h14, h⟩ := of_chk h
          obtain ⟨h15, h⟩ := of_chk h
          obtain ⟨h16, h⟩ := of_chk h
          exact WM.cut mixed [R_ [.op (.fresh 2 (svB 5 [.i .i32 a3.Rune, .i .i64 a3.Attr.Flags, .i .i64 a3.Attr.Fg, .i .i64 a3.Attr.Bg, .i .i64 a3.Wide])), o_], R_ [o_, o_, o_, c_ (mkCall Tryz.call100 (F100_ok h1) [0, 1] (by kernel_rfl) (by kernel_rfl)), o_, o_, o_, c_ (mkCall Tryz.call48 (F48_ok h3) [] (by kernel_rfl) (by kernel_rfl)), m_, .pk false, o_, o_, o_, o_, o_], F_, R_ [o_, o_, c_ (mkCall Tryz.call101 (F101_ok h5) [0, 1] (by kernel_rfl) (by kernel_rfl)), o_], R_ [o_, o_, o_, o_, o_], R_ [o_, o_, o_], T_, R_ [o_, o_, o_, o_, o_, o_, o_], F_, R_ [o_, o_, o_, o_, o_, o_, o_, o_]] [some 0, some 1] (pc ((fun _ => zlt1 : ((!(!r1)) = true → 0 < 1))) <| pc ((h2 : (!(!r1)) = true)) <| pc ((h2 : (!(!r1)) = true)) <| pc ((h2 : (!(!r1)) = true)) <| pc (((nt_of h2) : (!r1) = false)) <| pc ((fun h => h : ((!(!r2)) = true → (!(!r2)) = true))) <| pc ((fun _ => zlt1 : ((!(!r2)) = true → 0 < 1))) <| pc ((fun h => h : ((!(!r2)) = true → (!(!r2)) = true))) <| pc ((fun k2 => (not_t k2) : ((!r2) = false → (!(!r2)) = true))) <| pc ((h4 : ((!r2) || decide (a3.Wide = 2)) = false)) <| pc zlt1 <| pc h6 <| pc h7 <| pc h8 <| pc zlt1 <| pc ((h9 : decide (a3.Wide = 1) = true)) <| pc h10 <| pc zlt1 <| pc ((h11 : decide ((a2 + 1) = a0.cols) = false)) <| pc h10 <| pc zlt1 <| pc h14 <| pc h15 <| pc h16 <| allP_nil) (F73_p1_ok h) (by kernel_rfl)
      · exact WM.cut mixed [R_ [.op (.fresh 2 (svB 5 [.i .i32 a3.Rune, .i .i64 a3.Attr.Flags, .i .i64 a3.Attr.Fg, .i .i64 a3.Attr.Bg, .i .i64 a3.Wide])), o_], R_ [o_, o_, o_, c_ (mkCall Tryz.call100 (F100_ok h1) [0, 1] (by kernel_rfl) (by kernel_rfl)), o_, o_, o_, c_ (mkCall Tryz.call48 (F48_ok h3) [] (by kernel_rfl) (by kernel_rfl)), m_, .pk false, o_, o_, o_, o_, o_], F_, R_ [o_, o_, c_ (mkCall Tryz.call101 (F101_ok h5) [0, 1] (by kernel_rfl) (by kernel_rfl)), o_], R_ [o_, o_, o_, o_, o_], R_ [o_, o_, o_], F_] [some 0, some 1] (pc ((fun _ => zlt1 : ((!(!r1)) = true → 0 < 1))) <| pc ((h2 : (!(!r1)) = true)) <| pc ((h2 : (!(!r1)) = true)) <| pc ((h2 : (!(!r1)) = true)) <| pc (((nt_of h2) : (!r1) = false)) <| pc ((fun h => h : ((!(!r2)) = true → (!(!r2)) = true))) <| pc ((fun _ => zlt1 : ((!(!r2)) = true → 0 < 1))) <| pc ((fun h => h : ((!(!r2)) = true → (!(!r2)) = true))) <| pc ((fun k2 => (not_t k2) : ((!r2) = false → (!(!r2)) = true))) <| pc ((h4 : ((!r2) || decide (a3.Wide = 2)) = false)) <| pc zlt1 <| pc h6 <| pc h7 <| pc h8 <| pc zlt1 <| pc ((h9 : decide (a3.Wide = 1) = false)) <| allP_nil) (F73_p1_ok h) (by kernel_rfl)
  · replace h := Option.some.inj h
    subst h
    exact WM.retE mixed (e_F73 a0 a1 a2 a3 ((a0, false))) [R_ [.op (.fresh 2 (svB 5 [.i .i32 a3.Rune, .i .i64 a3.Attr.Flags, .i .i64 a3.Attr.Fg, .i .i64 a3.Attr.Bg, .i .i64 a3.Wide])), o_], R_ [o_, o_, o_, c_ (mkCall Tryz.call100 (F100_ok h1) [0, 1] (by kernel_rfl) (by kernel_rfl)), o_, o_, o_, s_, s_, .pk true, o_, s_, s_, s_, .pk true], T_, R_ [o_]] [some 0, some 1] (pc ((fun _ => zlt1 : ((!(!r1)) = true → 0 < 1))) <| pc ((h2 : (!(!r1)) = false)) <| pc ((h2 : (!(!r1)) = false)) <| pc (((nf_of h2) : (!r1) = true)) <| pc ((rfl : false = false)) <| pc ((rfl : false = false)) <| pc ((rfl : false = false)) <| pc ((rfl : true = true)) <| pc ((rfl : true = true)) <| allP_nil) (by kernel_rfl) (by kernel_rfl)

/-! ### F42: function 42 (*tickertape/term.Term).prints -/
def F42_p3 (f : Nat) (r1 : Int) (a1 : Int) (a0_3 : term_TermO_2) : Option (term_TermO_2) :=
  bnd (F28 f a0_3) fun r9 =>
  sm r9 (fun r10 =>
    chk (inR (r1 - 1)) <|
    bnd (F73 f a0_3.grids_0 a0_3.kept.cursor.row a0_3.kept.cursor.col (cell_Cell.mk a1 a0_3.kept.pen (r1 - 1))) fun r12 =>
    chk (inR (a0_3.kept.cursor.col + (imin r1 a0_3.cols))) <|
    bnd (F74 f ({ a0_3 with grids_0 := r12.1 } : term_TermO_2) a0_3.kept.cursor.row (a0_3.kept.cursor.col + (imin r1 a0_3.cols))) fun r13 =>
    some (({ r13 with kept := ({ r13.kept with cursor := ({ r13.kept.cursor with pending := (decide ((a0_3.kept.cursor.col + (imin r1 a0_3.cols)) ≥ r13.cols) && (!r13.unwraps)) } : term_cursor) } : term_kept) } : term_TermO_2))) (fun r11 =>
    chk (inR (r1 - 1)) <|
    bnd (F73 f a0_3.grids_1 a0_3.kept.cursor.row a0_3.kept.cursor.col (cell_Cell.mk a1 a0_3.kept.pen (r1 - 1))) fun r14 =>
    chk (inR (a0_3.kept.cursor.col + (imin r1 a0_3.cols))) <|
    bnd (F74 f ({ a0_3 with grids_1 := r14.1 } : term_TermO_2) a0_3.kept.cursor.row (a0_3.kept.cursor.col + (imin r1 a0_3.cols))) fun r15 =>
    some (({ r15 with kept := ({ r15.kept with cursor := ({ r15.kept.cursor with pending := (decide ((a0_3.kept.cursor.col + (imin r1 a0_3.cols)) ≥ r15.cols) && (!r15.unwraps)) } : term_cursor) } : term_kept) } : term_TermO_2)))
def F42_p2 (f : Nat) (r1 : Int) (a1 : Int) (a0_2 : term_TermO_2) : Option (term_TermO_2) :=
  ifb (a0_2.insert) (
    bnd (F28 f a0_2) fun r4 =>
    sm r4 (fun r5 =>
      bnd (F72 f a0_2.grids_0 a0_2.kept.cursor.row a0_2.kept.cursor.col r1 a0_2.kept.pen) fun r7 =>
      F42_p3 f r1 a1 ({ a0_2 with grids_0 := r7 } : term_TermO_2)) (fun r6 =>
      bnd (F72 f a0_2.grids_1 a0_2.kept.cursor.row a0_2.kept.cursor.col r1 a0_2.kept.pen) fun r8 =>
      F42_p3 f r1 a1 ({ a0_2 with grids_1 := r8 } : term_TermO_2))) (
    F42_p3 f r1 a1 a0_2)
def F42_p1 (f : Nat) (r1 : Int) (a1 : Int) (a0_1 : term_TermO_2) : Option (term_TermO_2) :=
  chk (inR (a0_1.cols - 1)) <|
  ifb (((decide (r1 = 2) && decide (a0_1.kept.cursor.col = (a0_1.cols - 1))) && decide ((a0_1.cols - 1) > 0))) (
    ifb (a0_1.unwraps) (
      chk (inR (a0_1.kept.cursor.col - 1)) <|
      F42_p2 f r1 a1 ({ a0_1 with kept := ({ a0_1.kept with cursor := ({ a0_1.kept.cursor with col := (a0_1.kept.cursor.col - 1) } : term_cursor) } : term_kept) } : term_TermO_2)) (
      bnd (F71 f a0_1) fun r3 =>
      F42_p2 f r1 a1 r3)) (
    F42_p2 f r1 a1 a0_1)
def F42 (f : Nat) (a0 : term_TermO_2) (a1 : Int) : Option (term_TermO_2) :=
  bnd (F70 f a1) fun r1 =>
  ifb (decide (r1 = 0)) (
    some (a0)) (
    ifb ((a0.kept.cursor.pending && (!a0.unwraps))) (
      bnd (F71 f a0) fun r2 =>
      F42_p1 f r1 a1 r2) (
      F42_p1 f r1 a1 a0))
def v_F42 (a0 : term_TermO_2) (a1 : Int) (y : term_TermO_2) : V :=
  .tup []
def e_F42 (a0 : term_TermO_2) (a1 : Int) (y : term_TermO_2) : Env :=
  []
def x_F42 (a0 : term_TermO_2) (a1 : Int) (y : term_TermO_2) : List (Option Blk) :=
  [some (B_term_TermO_2 1 3 5 7 9 13 y), some (B_grid_GridO 2 y.grids_0), some (blk_cell_Cell y.grids_0.l), some (B_grid_GridO 4 y.grids_1), some (blk_cell_Cell y.grids_1.l), some (B_tabs_StopsO_1 6 y.stops), some (boolB y.stops.at_), some (B_utf_DecoderO 8 y.signs), some (intB .u8 y.signs.b), some (B_esc_ParserO 10 11 12 y.asks), some (intB .i64 y.asks.params), some (intB .i32 y.asks.text), some (blk_esc_Event y.asks.out), some (intB .u8 y.reply)]
set_option maxRecDepth 100000 in
set_option maxHeartbeats 4000000 in
theorem F42_p3_ok {cx : Cx} {f : Nat} {a0 : term_TermO_2} {a1 : Int} {r1 : Int} {a0_3 : term_TermO_2} {y : term_TermO_2} (h : F42_p3 f r1 a1 a0_3 = some y) :
    WM Tryz.prog G0 170 14 Tryz.f42.results.toList (v_F42 a0 a1 y) (x_F42 a0 a1 y) cx (nav [.r, .r, .f, .r, .t, .r, .r, .r, .t, .r, .t, .r, .r, .t, .r, .n] [.code (bodyOf Tryz.f42)]) [(0, ⟨none, .p 0 0 0⟩), (1, ⟨none, .i .i32 a1⟩), (4, ⟨none, .i .i64 r1⟩)] [some (B_term_TermO_2 1 3 5 7 9 13 a0_3), some (B_grid_GridO 2 a0_3.grids_0), some (blk_cell_Cell a0_3.grids_0.l), some (B_grid_GridO 4 a0_3.grids_1), some (blk_cell_Cell a0_3.grids_1.l), some (B_tabs_StopsO_1 6 a0_3.stops), some (boolB a0_3.stops.at_), some (B_utf_DecoderO 8 a0_3.signs), some (intB .u8 a0_3.signs.b), some (B_esc_ParserO 10 11 12 a0_3.asks), some (intB .i64 a0_3.asks.params), some (intB .i32 a0_3.asks.text), some (blk_esc_Event a0_3.asks.out), some (intB .u8 a0_3.reply)] := by
  unfold F42_p3 at h
  obtain ⟨r9, h14, h⟩ := of_bnd h
  rcases of_sm h with ⟨r10, rfl, h⟩ | ⟨r11, rfl, h⟩
  · obtain ⟨h15, h⟩ := of_chk h
    obtain ⟨r12, h16, h⟩ := of_bnd h
    obtain ⟨h17, h⟩ := of_chk h
    obtain ⟨r13, h18, h⟩ := of_bnd h
    replace h := Option.some.inj h
    subst h
    exact WM.retE mixed (e_F42 a0 a1 (({ r13 with kept := ({ r13.kept with cursor := ({ r13.kept.cursor with pending := (decide ((a0_3.kept.cursor.col + (imin r1 a0_3.cols)) ≥ r13.cols) && (!r13.unwraps)) } : term_cursor) } : term_kept) } : term_TermO_2))) [R_ [o_, c_ (mkCallT Tryz.call28 (F28_ok h14) [0, 1, 2, 3, 4, 5, 6, 7, 8, 9, 10, 11, 12, 13] [0, 1, 2, 3, 4, 5, 6, 7, 8, 9, 10, 11, 12, 13] (by kernel_rfl) (by kernel_rfl) (by kernel_rfl) (by kernel_rfl)), o_, o_, o_, o_, o_, o_, o_, o_, o_, o_, o_, o_, o_, o_, o_, o_, o_, o_, o_, o_, o_, o_, o_, o_, c_ (mkCall Tryz.call73 (F73_ok h16) [1, 2] (by kernel_rfl) (by kernel_rfl))], R_ [o_, o_, o_, o_, o_, o_, o_, o_, o_, o_, o_, o_, o_, o_, o_], R_ [o_, o_, o_, o_, o_, o_, o_, o_, o_, c_ (mkCall Tryz.call74 (F74_ok h18) [0, 1, 2, 3, 4, 5, 6, 7, 8, 9, 10, 11, 12, 13] (by kernel_rfl) (by kernel_rfl))], R_ [o_, o_, o_, o_, o_, o_, o_, o_, o_, o_, o_, o_, o_, o_, o_, o_, o_, o_, o_, o_, o_]] [some 0, some 1, some 2, some 3, some 4, some 5, some 6, some 7, some 8, some 9, some 10, some 11, some 12, some 13] (pc zlt1 <| pc zlt1 <| pc zlt1 <| pc h15 <| pc zlt1 <| pc zlt1 <| pc h17 <| pc zlt1 <| pc zlt1 <| pc ((fun h => h : (decide ((a0_3.kept.cursor.col + (imin r1 a0_3.cols)) ≥ r13.cols) = true → decide ((a0_3.kept.cursor.col + (imin r1 a0_3.cols)) ≥ r13.cols) = true))) <| pc ((fun h => h : (decide ((a0_3.kept.cursor.col + (imin r1 a0_3.cols)) ≥ r13.cols) = true → decide ((a0_3.kept.cursor.col + (imin r1 a0_3.cols)) ≥ r13.cols) = true))) <| pc ((fun h => h : (decide ((a0_3.kept.cursor.col + (imin r1 a0_3.cols)) ≥ r13.cols) = true → decide ((a0_3.kept.cursor.col + (imin r1 a0_3.cols)) ≥ r13.cols) = true))) <| pc ((fun h => h : (decide ((a0_3.kept.cursor.col + (imin r1 a0_3.cols)) ≥ r13.cols) = true → decide ((a0_3.kept.cursor.col + (imin r1 a0_3.cols)) ≥ r13.cols) = true))) <| pc ((fun _ => zlt1 : (decide ((a0_3.kept.cursor.col + (imin r1 a0_3.cols)) ≥ r13.cols) = true → 0 < 1))) <| pc ((fun h => h : (decide ((a0_3.kept.cursor.col + (imin r1 a0_3.cols)) ≥ r13.cols) = true → decide ((a0_3.kept.cursor.col + (imin r1 a0_3.cols)) ≥ r13.cols) = true))) <| pc ((fun k2 => k2 : (decide ((a0_3.kept.cursor.col + (imin r1 a0_3.cols)) ≥ r13.cols) = true → decide ((a0_3.kept.cursor.col + (imin r1 a0_3.cols)) ≥ r13.cols) = true))) <| pc zlt1 <| allP_nil) (by kernel_rfl) (by kernel_rfl)
  · obtain ⟨h19, h⟩ := of_chk h
    obtain ⟨r14, h20, h⟩ := of_bnd h
    obtain ⟨h21, h⟩ := of_chk h
    obtain ⟨r15, h22, h⟩ := of_bnd h
    replace h := Option.some.inj h
    subst h
    exact WM.retE mixed (e_F42 a0 a1 (({ r15 with kept := ({ r15.kept with cursor := ({ r15.kept.cursor with pending := (decide ((a0_3.kept.cursor.col + (imin r1 a0_3.cols)) ≥ r15.cols) && (!r15.unwraps)) } : term_cursor) } : term_kept) } : term_TermO_2))) [R_ [o_, c_ (mkCallT Tryz.call28 (F28_ok h14) [0, 1, 2, 3, 4, 5, 6, 7, 8, 9, 10, 11, 12, 13] [0, 1, 2, 3, 4, 5, 6, 7, 8, 9, 10, 11, 12, 13] (by kernel_rfl) (by kernel_rfl) (by kernel_rfl) (by kernel_rfl)), o_, o_, o_, o_, o_, o_, o_, o_, o_, o_, o_, o_, o_, o_, o_, o_, o_, o_, o_, o_, o_, o_, o_, o_, c_ (mkCall Tryz.call73 (F73_ok h20) [3, 4] (by kernel_rfl) (by kernel_rfl))], R_ [o_, o_, o_, o_, o_, o_, o_, o_, o_, o_, o_, o_, o_, o_, o_], R_ [o_, o_, o_, o_, o_, o_, o_, o_, o_, c_ (mkCall Tryz.call74 (F74_ok h22) [0, 1, 2, 3, 4, 5, 6, 7, 8, 9, 10, 11, 12, 13] (by kernel_rfl) (by kernel_rfl))], R_ [o_, o_, o_, o_, o_, o_, o_, o_, o_, o_, o_, o_, o_, o_, o_, o_, o_, o_, o_, o_, o_]] [some 0, some 1, some 2, some 3, some 4, some 5, some 6, some 7, some 8, some 9, some 10, some 11, some 12, some 13] (pc zlt1 <| pc zlt1 <| pc zlt1 <| pc h19 <| pc zlt1 <| pc zlt1 <| pc h21 <| pc zlt1 <| pc zlt1 <| pc ((fun h => h : (decide ((a0_3.kept.cursor.col + (imin r1 a0_3.cols)) ≥ r15.cols) = true → decide ((a0_3.kept.cursor.col + (imin r1 a0_3.cols)) ≥ r15.cols) = true))) <| pc ((fun h => h : (decide ((a0_3.kept.cursor.col + (imin r1 a0_3.cols)) ≥ r15.cols) = true → decide ((a0_3.kept.cursor.col + (imin r1 a0_3.cols)) ≥ r15.cols) = true))) <| pc ((fun h => h : (decide ((a0_3.kept.cursor.col + (imin r1 a0_3.cols)) ≥ r15.cols) = true → decide ((a0_3.kept.cursor.col + (imin r1 a0_3.cols)) ≥ r15.cols) = true))) <| pc ((fun h => h : (decide ((a0_3.kept.cursor.col + (imin r1 a0_3.cols)) ≥ r15.cols) = true → decide ((a0_3.kept.cursor.col + (imin r1 a0_3.cols)) ≥ r15.cols) = true))) <| pc ((fun _ => zlt1 : (decide ((a0_3.kept.cursor.col + (imin r1 a0_3.cols)) ≥ r15.cols) = true → 0 < 1))) <| pc ((fun h => h : (decide ((a0_3.kept.cursor.col + (imin r1 a0_3.cols)) ≥ r15.cols) = true → decide ((a0_3.kept.cursor.col + (imin r1 a0_3.cols)) ≥ r15.cols) = true))) <| pc ((fun k2 => k2 : (decide ((a0_3.kept.cursor.col + (imin r1 a0_3.cols)) ≥ r15.cols) = true → decide ((a0_3.kept.cursor.col + (imin r1 a0_3.cols)) ≥ r15.cols) = true))) <| pc zlt1 <| allP_nil) (by kernel_rfl) (by kernel_rfl)
set_option maxRecDepth 100000 in
set_option maxHeartbeats 4000000 in
theorem F42_p2_ok {cx : Cx} {f : Nat} {a0 : term_TermO_2} {a1 : Int} {r1 : Int} {a0_2 : term_TermO_2} {y : term_TermO_2} (h : F42_p2 f r1 a1 a0_2 = some y) :
    WM Tryz.prog G0 170 14 Tryz.f42.results.toList (v_F42 a0 a1 y) (x_F42 a0 a1 y) cx (nav [.r, .r, .f, .r, .t, .r, .r, .r, .t, .r, .t, .r, .n] [.code (bodyOf Tryz.f42)]) [(0, ⟨none, .p 0 0 0⟩), (1, ⟨none, .i .i32 a1⟩), (4, ⟨none, .i .i64 r1⟩)] [some (B_term_TermO_2 1 3 5 7 9 13 a0_2), some (B_grid_GridO 2 a0_2.grids_0), some (blk_cell_Cell a0_2.grids_0.l), some (B_grid_GridO 4 a0_2.grids_1), some (blk_cell_Cell a0_2.grids_1.l), some (B_tabs_StopsO_1 6 a0_2.stops), some (boolB a0_2.stops.at_), some (B_utf_DecoderO 8 a0_2.signs), some (intB .u8 a0_2.signs.b), some (B_esc_ParserO 10 11 12 a0_2.asks), some (intB .i64 a0_2.asks.params), some (intB .i32 a0_2.asks.text), some (blk_esc_Event a0_2.asks.out), some (intB .u8 a0_2.reply)] := by
  unfold F42_p2 at h
  rcases of_ifb h with ⟨h10, h⟩ | ⟨h10, h⟩
  · obtain ⟨r4, h11, h⟩ := of_bnd h
    rcases of_sm h with ⟨r5, rfl, h⟩ | ⟨r6, rfl, h⟩
    · obtain ⟨r7, h12, h⟩ := of_bnd h
      exact WM.cut mixed [R_ [o_, o_, o_, o_, o_], T_, R_ [o_, c_ (mkCallT Tryz.call28 (F28_ok h11) [0, 1, 2, 3, 4, 5, 6, 7, 8, 9, 10, 11, 12, 13] [0, 1, 2, 3, 4, 5, 6, 7, 8, 9, 10, 11, 12, 13] (by kernel_rfl) (by kernel_rfl) (by kernel_rfl) (by kernel_rfl)), o_, o_, o_, o_, o_, o_, o_, o_, o_, o_, o_, o_, o_, o_, o_, o_, o_, o_, o_, o_, o_, c_ (mkCall Tryz.call72 (F72_ok h12) [1, 2] (by kernel_rfl) (by kernel_rfl))]] [some 0, some 1, some 2, some 3, some 4, some 5, some 6, some 7, some 8, some 9, some 10, some 11, some 12, some 13] (pc zlt1 <| pc ((h10 : a0_2.insert = true)) <| pc zlt1 <| pc zlt1 <| pc zlt1 <| allP_nil) (F42_p3_ok h) (by kernel_rfl)
    · obtain ⟨r8, h13, h⟩ := of_bnd h
      exact WM.cut mixed [R_ [o_, o_, o_, o_, o_], T_, R_ [o_, c_ (mkCallT Tryz.call28 (F28_ok h11) [0, 1, 2, 3, 4, 5, 6, 7, 8, 9, 10, 11, 12, 13] [0, 1, 2, 3, 4, 5, 6, 7, 8, 9, 10, 11, 12, 13] (by kernel_rfl) (by kernel_rfl) (by kernel_rfl) (by kernel_rfl)), o_, o_, o_, o_, o_, o_, o_, o_, o_, o_, o_, o_, o_, o_, o_, o_, o_, o_, o_, o_, o_, c_ (mkCall Tryz.call72 (F72_ok h13) [3, 4] (by kernel_rfl) (by kernel_rfl))]] [some 0, some 1, some 2, some 3, some 4, some 5, some 6, some 7, some 8, some 9, some 10, some 11, some 12, some 13] (pc zlt1 <| pc ((h10 : a0_2.insert = true)) <| pc zlt1 <| pc zlt1 <| pc zlt1 <| allP_nil) (F42_p3_ok h) (by kernel_rfl)
  · exact WM.cut mixed [R_ [o_, o_, o_, o_, o_], F_] [some 0, some 1, some 2, some 3, some 4, some 5, some 6, some 7, some 8, some 9, some 10, some 11, some 12, some 13] (pc zlt1 <| pc ((h10 : a0_2.insert = false)) <| allP_nil) (F42_p3_ok h) (by kernel_rfl)
set_option maxRecDepth 100000 in
set_option maxHeartbeats 4000000 in
theorem F42_p1_ok {cx : Cx} {f : Nat} {a0 : term_TermO_2} {a1 : Int} {r1 : Int} {a0_1 : term_TermO_2} {y : term_TermO_2} (h : F42_p1 f r1 a1 a0_1 = some y) :
    WM Tryz.prog G0 170 14 Tryz.f42.results.toList (v_F42 a0 a1 y) (x_F42 a0 a1 y) cx (nav [.r, .r, .f, .r, .t, .r, .n] [.code (bodyOf Tryz.f42)]) [(0, ⟨none, .p 0 0 0⟩), (1, ⟨none, .i .i32 a1⟩), (4, ⟨none, .i .i64 r1⟩)] [some (B_term_TermO_2 1 3 5 7 9 13 a0_1), some (B_grid_GridO 2 a0_1.grids_0), some (blk_cell_Cell a0_1.grids_0.l), some (B_grid_GridO 4 a0_1.grids_1), some (blk_cell_Cell a0_1.grids_1.l), some (B_tabs_StopsO_1 6 a0_1.stops), some (boolB a0_1.stops.at_), some (B_utf_DecoderO 8 a0_1.signs), some (intB .u8 a0_1.signs.b), some (B_esc_ParserO 10 11 12 a0_1.asks), some (intB .i64 a0_1.asks.params), some (intB .i32 a0_1.asks.text), some (blk_esc_Event a0_1.asks.out), some (intB .u8 a0_1.reply)] := by
  unfold F42_p1 at h
  obtain ⟨h5, h⟩ := of_chk h
  rcases of_ifb h with ⟨h6, h⟩ | ⟨h6, h⟩
  · rcases of_ifb h with ⟨h7, h⟩ | ⟨h7, h⟩
    · obtain ⟨h8, h⟩ := of_chk h
      exact WM.cut mixed [R_ [o_, o_, o_, o_, o_, o_], R_ [o_, o_, o_, o_, o_, o_, o_, o_, o_, o_, o_, o_, o_, o_, o_, o_, o_], T_, R_ [o_, o_, o_, o_, o_], T_, R_ [o_, o_, o_, o_, o_, o_, o_, o_, o_, o_, o_, o_, o_, o_]] [some 0, some 1, some 2, some 3, some 4, some 5, some 6, some 7, some 8, some 9, some 10, some 11, some 12, some 13] (pc zlt1 <| pc h5 <| pc ((fun h => h : (decide (r1 = 2) = true → decide (r1 = 2) = true))) <| pc ((fun h => h : (decide (r1 = 2) = true → decide (r1 = 2) = true))) <| pc ((fun h => h : (decide (r1 = 2) = true → decide (r1 = 2) = true))) <| pc ((fun h => h : (decide (r1 = 2) = true → decide (r1 = 2) = true))) <| pc ((fun h => h : (decide (r1 = 2) = true → decide (r1 = 2) = true))) <| pc ((fun h => h : (decide (r1 = 2) = true → decide (r1 = 2) = true))) <| pc ((fun _ => zlt1 : (decide (r1 = 2) = true → 0 < 1))) <| pc ((fun h => h : (decide (r1 = 2) = true → decide (r1 = 2) = true))) <| pc ((fun h => h : (decide (r1 = 2) = true → decide (r1 = 2) = true))) <| pc ((fun k2 => k2 : (decide (r1 = 2) = true → decide (r1 = 2) = true))) <| pc ((fun h => h : ((decide (r1 = 2) && decide (a0_1.kept.cursor.col = (a0_1.cols - 1))) = true → (decide (r1 = 2) && decide (a0_1.kept.cursor.col = (a0_1.cols - 1))) = true))) <| pc ((fun k2 => k2 : ((decide (r1 = 2) && decide (a0_1.kept.cursor.col = (a0_1.cols - 1))) = true → (decide (r1 = 2) && decide (a0_1.kept.cursor.col = (a0_1.cols - 1))) = true))) <| pc ((h6 : ((decide (r1 = 2) && decide (a0_1.kept.cursor.col = (a0_1.cols - 1))) && decide ((a0_1.cols - 1) > 0)) = true)) <| pc zlt1 <| pc ((h7 : a0_1.unwraps = true)) <| pc zlt1 <| pc h8 <| pc zlt1 <| allP_nil) (F42_p2_ok h) (by kernel_rfl)
    · obtain ⟨r3, h9, h⟩ := of_bnd h
      exact WM.cut mixed [R_ [o_, o_, o_, o_, o_, o_], R_ [o_, o_, o_, o_, o_, o_, o_, o_, o_, o_, o_, o_, o_, o_, o_, o_, o_], T_, R_ [o_, o_, o_, o_, o_], F_, R_ [o_, c_ (mkCall Tryz.call71 (F71_ok h9) [0, 1, 2, 3, 4, 5, 6, 7, 8, 9, 10, 11, 12, 13] (by kernel_rfl) (by kernel_rfl))]] [some 0, some 1, some 2, some 3, some 4, some 5, some 6, some 7, some 8, some 9, some 10, some 11, some 12, some 13] (pc zlt1 <| pc h5 <| pc ((fun h => h : (decide (r1 = 2) = true → decide (r1 = 2) = true))) <| pc ((fun h => h : (decide (r1 = 2) = true → decide (r1 = 2) = true))) <| pc ((fun h => h : (decide (r1 = 2) = true → decide (r1 = 2) = true))) <| pc ((fun h => h : (decide (r1 = 2) = true → decide (r1 = 2) = true))) <| pc ((fun h => h : (decide (r1 = 2) = true → decide (r1 = 2) = true))) <| pc ((fun h => h : (decide (r1 = 2) = true → decide (r1 = 2) = true))) <| pc ((fun _ => zlt1 : (decide (r1 = 2) = true → 0 < 1))) <| pc ((fun h => h : (decide (r1 = 2) = true → decide (r1 = 2) = true))) <| pc ((fun h => h : (decide (r1 = 2) = true → decide (r1 = 2) = true))) <| pc ((fun k2 => k2 : (decide (r1 = 2) = true → decide (r1 = 2) = true))) <| pc ((fun h => h : ((decide (r1 = 2) && decide (a0_1.kept.cursor.col = (a0_1.cols - 1))) = true → (decide (r1 = 2) && decide (a0_1.kept.cursor.col = (a0_1.cols - 1))) = true))) <| pc ((fun k2 => k2 : ((decide (r1 = 2) && decide (a0_1.kept.cursor.col = (a0_1.cols - 1))) = true → (decide (r1 = 2) && decide (a0_1.kept.cursor.col = (a0_1.cols - 1))) = true))) <| pc ((h6 : ((decide (r1 = 2) && decide (a0_1.kept.cursor.col = (a0_1.cols - 1))) && decide ((a0_1.cols - 1) > 0)) = true)) <| pc zlt1 <| pc ((h7 : a0_1.unwraps = false)) <| allP_nil) (F42_p2_ok h) (by kernel_rfl)
  · exact WM.cut mixed [R_ [o_, o_, o_, o_, o_, o_], R_ [o_, o_, o_, o_, o_, o_, o_, o_, o_, o_, o_, o_, o_, o_, o_, o_, o_], F_] [some 0, some 1, some 2, some 3, some 4, some 5, some 6, some 7, some 8, some 9, some 10, some 11, some 12, some 13] (pc zlt1 <| pc h5 <| pc ((fun h => h : (decide (r1 = 2) = true → decide (r1 = 2) = true))) <| pc ((fun h => h : (decide (r1 = 2) = true → decide (r1 = 2) = true))) <| pc ((fun h => h : (decide (r1 = 2) = true → decide (r1 = 2) = true))) <| pc ((fun h => h : (decide (r1 = 2) = true → decide (r1 = 2) = true))) <| pc ((fun h => h : (decide (r1 = 2) = true → decide (r1 = 2) = true))) <| pc ((fun h => h : (decide (r1 = 2) = true → decide (r1 = 2) = true))) <| pc ((fun _ => zlt1 : (decide (r1 = 2) = true → 0 < 1))) <| pc ((fun h => h : (decide (r1 = 2) = true → decide (r1 = 2) = true))) <| pc ((fun h => h : (decide (r1 = 2) = true → decide (r1 = 2) = true))) <| pc ((fun k2 => k2 : (decide (r1 = 2) = true → decide (r1 = 2) = true))) <| pc ((fun h => h : ((decide (r1 = 2) && decide (a0_1.kept.cursor.col = (a0_1.cols - 1))) = true → (decide (r1 = 2) && decide (a0_1.kept.cursor.col = (a0_1.cols - 1))) = true))) <| pc ((fun k2 => k2 : ((decide (r1 = 2) && decide (a0_1.kept.cursor.col = (a0_1.cols - 1))) = true → (decide (r1 = 2) && decide (a0_1.kept.cursor.col = (a0_1.cols - 1))) = true))) <| pc ((h6 : ((decide (r1 = 2) && decide (a0_1.kept.cursor.col = (a0_1.cols - 1))) && decide ((a0_1.cols - 1) > 0)) = false)) <| allP_nil) (F42_p2_ok h) (by kernel_rfl)
set_option maxRecDepth 100000 in
set_option maxHeartbeats 4000000 in
theorem F42_ok {f : Nat} {a0 : term_TermO_2} {a1 : Int} {y : term_TermO_2} (h : F42 f a0 a1 = some y) :
    Spec Tryz.prog G0 42 [.p 0 0 0, .i .i32 a1] [some (B_term_TermO_2 1 3 5 7 9 13 a0), some (B_grid_GridO 2 a0.grids_0), some (blk_cell_Cell a0.grids_0.l), some (B_grid_GridO 4 a0.grids_1), some (blk_cell_Cell a0.grids_1.l), some (B_tabs_StopsO_1 6 a0.stops), some (boolB a0.stops.at_), some (B_utf_DecoderO 8 a0.signs), some (intB .u8 a0.signs.b), some (B_esc_ParserO 10 11 12 a0.asks), some (intB .i64 a0.asks.params), some (intB .i32 a0.asks.text), some (blk_esc_Event a0.asks.out), some (intB .u8 a0.reply)] (v_F42 a0 a1 y) (x_F42 a0 a1 y) :=
  Spec.ofM (fn := Tryz.f42) (c := bodyOf Tryz.f42) (n := 170) (rs := Tryz.f42.results.toList) Tryz.func42 (by kernel_rfl) (by kernel_rfl) (by kernel_rfl) (by kernel_rfl) fun cx => by
  unfold F42 at h
  obtain ⟨r1, h1, h⟩ := of_bnd h
  rcases of_ifb h with ⟨h2, h⟩ | ⟨h2, h⟩
  · replace h := Option.some.inj h
    subst h
    exact WM.retE mixed (e_F42 a0 a1 (a0)) [R_ [o_, c_ (mkCall Tryz.call70 (F70_ok h1) [] (by kernel_rfl) (by kernel_rfl)), o_], R_ [o_, o_], T_] [some 0, some 1, some 2, some 3, some 4, some 5, some 6, some 7, some 8, some 9, some 10, some 11, some 12, some 13] (pc ((h2 : decide (r1 = 0) = true)) <| allP_nil) (by kernel_rfl) (by kernel_rfl)
  · rcases of_ifb h with ⟨h3, h⟩ | ⟨h3, h⟩
    · obtain ⟨r2, h4, h⟩ := of_bnd h
      exact WM.cut mixed [R_ [o_, c_ (mkCall Tryz.call70 (F70_ok h1) [] (by kernel_rfl) (by kernel_rfl)), o_], R_ [o_, o_], F_, R_ [o_, o_, o_, o_, o_, o_, o_, o_, o_, o_, o_, o_, o_, o_, o_], T_, R_ [o_, c_ (mkCall Tryz.call71 (F71_ok h4) [0, 1, 2, 3, 4, 5, 6, 7, 8, 9, 10, 11, 12, 13] (by kernel_rfl) (by kernel_rfl))]] [some 0, some 1, some 2, some 3, some 4, some 5, some 6, some 7, some 8, some 9, some 10, some 11, some 12, some 13] (pc ((h2 : decide (r1 = 0) = false)) <| pc zlt1 <| pc ((fun h => h : (a0.kept.cursor.pending = true → a0.kept.cursor.pending = true))) <| pc ((fun h => h : (a0.kept.cursor.pending = true → a0.kept.cursor.pending = true))) <| pc ((fun h => h : (a0.kept.cursor.pending = true → a0.kept.cursor.pending = true))) <| pc ((fun h => h : (a0.kept.cursor.pending = true → a0.kept.cursor.pending = true))) <| pc ((fun _ => zlt1 : (a0.kept.cursor.pending = true → 0 < 1))) <| pc ((fun h => h : (a0.kept.cursor.pending = true → a0.kept.cursor.pending = true))) <| pc ((fun k2 => k2 : (a0.kept.cursor.pending = true → a0.kept.cursor.pending = true))) <| pc ((h3 : (a0.kept.cursor.pending && (!a0.unwraps)) = true)) <| allP_nil) (F42_p1_ok h) (by kernel_rfl)
    · exact WM.cut mixed [R_ [o_, c_ (mkCall Tryz.call70 (F70_ok h1) [] (by kernel_rfl) (by kernel_rfl)), o_], R_ [o_, o_], F_, R_ [o_, o_, o_, o_, o_, o_, o_, o_, o_, o_, o_, o_, o_, o_, o_], F_] [some 0, some 1, some 2, some 3, some 4, some 5, some 6, some 7, some 8, some 9, some 10, some 11, some 12, some 13] (pc ((h2 : decide (r1 = 0) = false)) <| pc zlt1 <| pc ((fun h => h : (a0.kept.cursor.pending = true → a0.kept.cursor.pending = true))) <| pc ((fun h => h : (a0.kept.cursor.pending = true → a0.kept.cursor.pending = true))) <| pc ((fun h => h : (a0.kept.cursor.pending = true → a0.kept.cursor.pending = true))) <| pc ((fun h => h : (a0.kept.cursor.pending = true → a0.kept.cursor.pending = true))) <| pc ((fun _ => zlt1 : (a0.kept.cursor.pending = true → 0 < 1))) <| pc ((fun h => h : (a0.kept.cursor.pending = true → a0.kept.cursor.pending = true))) <| pc ((fun k2 => k2 : (a0.kept.cursor.pending = true → a0.kept.cursor.pending = true))) <| pc ((h3 : (a0.kept.cursor.pending && (!a0.unwraps)) = false)) <| allP_nil) (F42_p1_ok h) (by kernel_rfl)

/-! ### F105: function 105 (*tickertape/tabs.Stops).goes -/
def F105_p1_b (f : Nat) (g1 : Int → Int → Option (Int)) (a4 : Int) (a3 : Int) (a0 : tabs_StopsO_1) (x1_1 : Int) (x2_1 : Int) : Option (Int) :=
  ifb (((!(decide (x1_1 = a4))) && decide (x2_1 > 0))) (
    chk (inR (x1_1 + a3)) <|
    chk (0 ≤ (x1_1 + a3)) <|
    chk ((x1_1 + a3) < ((a0.at_n : Nat) : Int)) <|
    chk ((0 + ((x1_1 + a3)).toNat) < a0.at_.length) <|
    ifb ((a0.at_.getD (0 + ((x1_1 + a3)).toNat) false)) (
      chk (inR (x2_1 - 1)) <|
      g1 (x1_1 + a3) (x2_1 - 1)) (
      g1 (x1_1 + a3) x2_1)) (
    some (x1_1))
def F105_p1 (f : Nat) (a4 : Int) (a3 : Int) (a0 : tabs_StopsO_1) : Nat → Int → Int → Option (Int)
  | 0, _, _ => none
  | j + 1, x1_1, x2_1 => F105_p1_b f (F105_p1 f a4 a3 a0 j) a4 a3 a0 x1_1 x2_1
def F105 (f : Nat) (a0 : tabs_StopsO_1) (a1 : Int) (a2 : Int) (a3 : Int) (a4 : Int) : Option (Int) :=
  chk (inR (((a0.at_n : Nat) : Int) - 1)) <|
  F105_p1 f a4 a3 a0 f (imin (imax a1 0) (((a0.at_n : Nat) : Int) - 1)) (imax a2 1)
def v_F105 (a0 : tabs_StopsO_1) (a1 : Int) (a2 : Int) (a3 : Int) (a4 : Int) (y : Int) : V :=
  .i .i64 y
def e_F105 (a0 : tabs_StopsO_1) (a1 : Int) (a2 : Int) (a3 : Int) (a4 : Int) (y : Int) : Env :=
  [(10, ⟨none, .i .i64 y⟩)]
def x_F105 (a0 : tabs_StopsO_1) (a1 : Int) (a2 : Int) (a3 : Int) (a4 : Int) (y : Int) : List (Option Blk) :=
  [some (B_tabs_StopsO_1 1 a0), some (boolB a0.at_)]
set_option maxRecDepth 100000 in
set_option maxHeartbeats 4000000 in
theorem F105_p1_bok {cx : Cx} {f : Nat} {I1 : Act → World → Prop} {g1 : Int → Int → Option (Int)} {a0 : tabs_StopsO_1} {a1 : Int} {a2 : Int} {a3 : Int} {a4 : Int} {x1_1 : Int} {x2_1 : Int} {y : Int} (hg1 : ∀ (x1_1 : Int) (x2_1 : Int), g1 x1_1 x2_1 = some y → ∀ a w, cx.In G0 44 2 [(0, ⟨none, .p 0 0 0⟩), (1, ⟨none, .i .i64 x1_1⟩), (2, ⟨none, .i .i64 x2_1⟩), (3, ⟨none, .i .i64 a3⟩), (4, ⟨none, .i .i64 a4⟩)] [some (B_tabs_StopsO_1 1 a0), some (boolB a0.at_)] a w → I1 a w) (h : F105_p1_b f g1 a4 a3 a0 x1_1 x2_1 = some y) :
    WM Tryz.prog G0 44 2 Tryz.f105.results.toList (v_F105 a0 a1 a2 a3 a4 y) (x_F105 a0 a1 a2 a3 a4 y) cx (nav [.r, .r, .r, .l I1] [.code (bodyOf Tryz.f105)]) [(0, ⟨none, .p 0 0 0⟩), (1, ⟨none, .i .i64 x1_1⟩), (2, ⟨none, .i .i64 x2_1⟩), (3, ⟨none, .i .i64 a3⟩), (4, ⟨none, .i .i64 a4⟩)] [some (B_tabs_StopsO_1 1 a0), some (boolB a0.at_)] := by
  unfold F105_p1_b at h
  rcases of_ifb h with ⟨h2, h⟩ | ⟨h2, h⟩
  · obtain ⟨h3, h⟩ := of_chk h
    obtain ⟨h4, h⟩ := of_chk h
    obtain ⟨h5, h⟩ := of_chk h
    obtain ⟨h6, h⟩ := of_chk h
    rcases of_ifb h with ⟨h7, h⟩ | ⟨h7, h⟩
    · obtain ⟨h8, h⟩ := of_chk h
      exact WM.cut mixed [R_ [o_, o_, o_, o_, o_, o_, o_], T_, R_ [o_, o_, o_, o_], R_ [o_, o_, o_, o_, o_, o_, o_], T_, R_ [o_, o_, o_]] [some 0, some 1] (pc ((fun h => h : ((!(decide (x1_1 = a4))) = true → (!(decide (x1_1 = a4))) = true))) <| pc ((fun k2 => k2 : ((!(decide (x1_1 = a4))) = true → (!(decide (x1_1 = a4))) = true))) <| pc ((h2 : ((!(decide (x1_1 = a4))) && decide (x2_1 > 0)) = true)) <| pc h3 <| pc zlt1 <| pc h4 <| pc h5 <| pc h6 <| pc ((h7 : (a0.at_.getD (0 + ((x1_1 + a3)).toNat) false) = true)) <| pc h8 <| allP_nil) (WM.again (k := (nav [.r, .r, .r, .n] [.code (bodyOf Tryz.f105)]).tail) (hg1 _ _ h)) (by kernel_rfl)
    · exact WM.cut mixed [R_ [o_, o_, o_, o_, o_, o_, o_], T_, R_ [o_, o_, o_, o_], R_ [o_, o_, o_, o_, o_, o_, o_], F_] [some 0, some 1] (pc ((fun h => h : ((!(decide (x1_1 = a4))) = true → (!(decide (x1_1 = a4))) = true))) <| pc ((fun k2 => k2 : ((!(decide (x1_1 = a4))) = true → (!(decide (x1_1 = a4))) = true))) <| pc ((h2 : ((!(decide (x1_1 = a4))) && decide (x2_1 > 0)) = true)) <| pc h3 <| pc zlt1 <| pc h4 <| pc h5 <| pc h6 <| pc ((h7 : (a0.at_.getD (0 + ((x1_1 + a3)).toNat) false) = false)) <| allP_nil) (WM.again (k := (nav [.r, .r, .r, .n] [.code (bodyOf Tryz.f105)]).tail) (hg1 _ _ h)) (by kernel_rfl)
  · replace h := Option.some.inj h
    subst h
    exact WM.retE mixed (e_F105 a0 a1 a2 a3 a4 (x1_1)) [R_ [o_, o_, o_, o_, o_, o_, o_], F_, R_ [o_, o_]] [some 0, some 1] (pc ((fun h => h : ((!(decide (x1_1 = a4))) = true → (!(decide (x1_1 = a4))) = true))) <| pc ((fun k2 => k2 : ((!(decide (x1_1 = a4))) = true → (!(decide (x1_1 = a4))) = true))) <| pc ((h2 : ((!(decide (x1_1 = a4))) && decide (x2_1 > 0)) = false)) <| allP_nil) (by kernel_rfl) (by kernel_rfl)
set_option maxRecDepth 100000 in
set_option maxHeartbeats 4000000 in
theorem F105_p1_ok {cx : Cx} {f : Nat} {a0 : tabs_StopsO_1} {a1 : Int} {a2 : Int} {a3 : Int} {a4 : Int} {x1_1 : Int} {x2_1 : Int} {j : Nat} {y : Int} (h : F105_p1 f a4 a3 a0 j x1_1 x2_1 = some y) :
    WM Tryz.prog G0 44 2 Tryz.f105.results.toList (v_F105 a0 a1 a2 a3 a4 y) (x_F105 a0 a1 a2 a3 a4 y) cx (nav [.r, .r, .r, .n] [.code (bodyOf Tryz.f105)]) [(0, ⟨none, .p 0 0 0⟩), (1, ⟨none, .i .i64 x1_1⟩), (2, ⟨none, .i .i64 x2_1⟩), (3, ⟨none, .i .i64 a3⟩), (4, ⟨none, .i .i64 a4⟩)] [some (B_tabs_StopsO_1 1 a0), some (boolB a0.at_)] := by
  refine WM.loopN (X := Int × Int) (y := y) (kb := fun I1 => (nav [.r, .r, .r, .l I1] [.code (bodyOf Tryz.f105)])) (by intro I; kernel_rfl) (fun j x => F105_p1 f a4 a3 a0 j x.1 x.2) (fun x => [(0, ⟨none, .p 0 0 0⟩), (1, ⟨none, .i .i64 x.1⟩), (2, ⟨none, .i .i64 x.2⟩), (3, ⟨none, .i .i64 a3⟩), (4, ⟨none, .i .i64 a4⟩)]) (fun x => [some (B_tabs_StopsO_1 1 a0), some (boolB a0.at_)]) ?_ (j := j) (x := (x1_1, x2_1)) h
  intro j x I1 h hI
  cases j with
  | zero => cases h
  | succ j => exact F105_p1_bok (fun x0 x1 => hI j (x0, x1) (Nat.lt_succ_self j)) h
set_option maxRecDepth 100000 in
set_option maxHeartbeats 4000000 in
theorem F105_ok {f : Nat} {a0 : tabs_StopsO_1} {a1 : Int} {a2 : Int} {a3 : Int} {a4 : Int} {y : Int} (h : F105 f a0 a1 a2 a3 a4 = some y) :
    Spec Tryz.prog G0 105 [.p 0 0 0, .i .i64 a1, .i .i64 a2, .i .i64 a3, .i .i64 a4] [some (B_tabs_StopsO_1 1 a0), some (boolB a0.at_)] (v_F105 a0 a1 a2 a3 a4 y) (x_F105 a0 a1 a2 a3 a4 y) :=
  Spec.ofM (fn := Tryz.f105) (c := bodyOf Tryz.f105) (n := 44) (rs := Tryz.f105.results.toList) Tryz.func105 (by kernel_rfl) (by kernel_rfl) (by kernel_rfl) (by kernel_rfl) fun cx => by
  unfold F105 at h
  obtain ⟨h1, h⟩ := of_chk h
  exact WM.cut mixed [R_ [o_], R_ [o_, o_, o_, o_, o_, o_, o_], R_ [o_, o_, o_, o_, o_, o_, o_, o_]] [some 0, some 1] (pc zlt1 <| pc h1 <| allP_nil) (F105_p1_ok h) (by kernel_rfl)

/-! ### F75: function 75 (*tickertape/tabs.Stops).Next -/
def F75 (f : Nat) (a0 : tabs_StopsO_1) (a1 : Int) (a2 : Int) : Option (Int) :=
  chk (inR (((a0.at_n : Nat) : Int) - 1)) <|
  bnd (F105 f a0 a1 a2 1 (((a0.at_n : Nat) : Int) - 1)) fun r1 =>
  some (r1)
def v_F75 (a0 : tabs_StopsO_1) (a1 : Int) (a2 : Int) (y : Int) : V :=
  .i .i64 y
def e_F75 (a0 : tabs_StopsO_1) (a1 : Int) (a2 : Int) (y : Int) : Env :=
  [(6, ⟨none, .i .i64 y⟩)]
def x_F75 (a0 : tabs_StopsO_1) (a1 : Int) (a2 : Int) (y : Int) : List (Option Blk) :=
  [some (B_tabs_StopsO_1 1 a0), some (boolB a0.at_)]
set_option maxRecDepth 100000 in
set_option maxHeartbeats 4000000 in
theorem F75_ok {f : Nat} {a0 : tabs_StopsO_1} {a1 : Int} {a2 : Int} {y : Int} (h : F75 f a0 a1 a2 = some y) :
    Spec Tryz.prog G0 75 [.p 0 0 0, .i .i64 a1, .i .i64 a2] [some (B_tabs_StopsO_1 1 a0), some (boolB a0.at_)] (v_F75 a0 a1 a2 y) (x_F75 a0 a1 a2 y) :=
  Spec.ofM (fn := Tryz.f75) (c := bodyOf Tryz.f75) (n := 17) (rs := Tryz.f75.results.toList) Tryz.func75 (by kernel_rfl) (by kernel_rfl) (by kernel_rfl) (by kernel_rfl) fun cx => by
  unfold F75 at h
  obtain ⟨h1, h⟩ := of_chk h
  obtain ⟨r1, h2, h⟩ := of_bnd h
  replace h := Option.some.inj h
  subst h
  exact WM.retE mixed (e_F75 a0 a1 a2 (r1)) [R_ [o_], R_ [o_, o_, o_, o_, o_, o_, o_, o_, o_, c_ (mkCall Tryz.call105 (F105_ok h2) [0, 1] (by kernel_rfl) (by kernel_rfl)), o_]] [some 0, some 1] (pc zlt1 <| pc h1 <| allP_nil) (by kernel_rfl) (by kernel_rfl)

/-! ### F43: function 43 (*tickertape/term.Term).execs -/
def F43_p1 (f : Nat) (a0 : term_TermO_2) (a1 : Int) (x57_1 : Bool) : Option (term_TermO_2) :=
  ifb (x57_1) (
    bnd (F76 f a0) fun r4 =>
    ifb (r4.newline) (
      bnd (F74 f r4 r4.kept.cursor.row 0) fun r5 =>
      some (r5)) (
      some (r4))) (
    ifb (decide (a1 = 13)) (
      bnd (F74 f a0 a0.kept.cursor.row 0) fun r6 =>
      some (r6)) (
      some (a0)))
def F43 (f : Nat) (a0 : term_TermO_2) (a1 : Int) : Option (term_TermO_2) :=
  ifb (decide (a1 = 7)) (
    chk (inR (a0.bells + 1)) <|
    some (({ a0 with bells := (a0.bells + 1) } : term_TermO_2))) (
    ifb (decide (a1 = 8)) (
      chk (inR (a0.kept.cursor.col - 1)) <|
      bnd (F74 f a0 a0.kept.cursor.row (a0.kept.cursor.col - 1)) fun r1 =>
      some (r1)) (
      ifb (decide (a1 = 9)) (
        bnd (F75 f a0.stops a0.kept.cursor.col 1) fun r2 =>
        bnd (F74 f a0 a0.kept.cursor.row r2) fun r3 =>
        some (r3)) (
        ifb (decide (a1 = 10)) (
          F43_p1 f a0 a1 (decide (a1 = 10))) (
          ifb (decide (a1 = 11)) (
            F43_p1 f a0 a1 (decide (a1 = 11))) (
            F43_p1 f a0 a1 (decide (a1 = 12)))))))
def v_F43 (a0 : term_TermO_2) (a1 : Int) (y : term_TermO_2) : V :=
  .tup []
def e_F43 (a0 : term_TermO_2) (a1 : Int) (y : term_TermO_2) : Env :=
  []
def x_F43 (a0 : term_TermO_2) (a1 : Int) (y : term_TermO_2) : List (Option Blk) :=
  [some (B_term_TermO_2 1 3 5 7 9 13 y), some (B_grid_GridO 2 y.grids_0), some (blk_cell_Cell y.grids_0.l), some (B_grid_GridO 4 y.grids_1), some (blk_cell_Cell y.grids_1.l), some (B_tabs_StopsO_1 6 y.stops), some (boolB y.stops.at_), some (B_utf_DecoderO 8 y.signs), some (intB .u8 y.signs.b), some (B_esc_ParserO 10 11 12 y.asks), some (intB .i64 y.asks.params), some (intB .i32 y.asks.text), some (blk_esc_Event y.asks.out), some (intB .u8 y.reply)]
set_option maxRecDepth 100000 in
set_option maxHeartbeats 4000000 in
theorem F43_p1_ok {cx : Cx} {f : Nat} {a0 : term_TermO_2} {a1 : Int} {x57_1 : Bool} {y : term_TermO_2} (h : F43_p1 f a0 a1 x57_1 = some y) :
    WM Tryz.prog G0 88 14 Tryz.f43.results.toList (v_F43 a0 a1 y) (x_F43 a0 a1 y) cx (nav [.r, .r, .f, .r, .f, .r, .f, .r, .t, .n] [.code (bodyOf Tryz.f43)]) [(0, ⟨none, .p 0 0 0⟩), (4, ⟨none, .i .i32 a1⟩), (57, ⟨none, .b x57_1⟩)] [some (B_term_TermO_2 1 3 5 7 9 13 a0), some (B_grid_GridO 2 a0.grids_0), some (blk_cell_Cell a0.grids_0.l), some (B_grid_GridO 4 a0.grids_1), some (blk_cell_Cell a0.grids_1.l), some (B_tabs_StopsO_1 6 a0.stops), some (boolB a0.stops.at_), some (B_utf_DecoderO 8 a0.signs), some (intB .u8 a0.signs.b), some (B_esc_ParserO 10 11 12 a0.asks), some (intB .i64 a0.asks.params), some (intB .i32 a0.asks.text), some (blk_esc_Event a0.asks.out), some (intB .u8 a0.reply)] := by
  unfold F43_p1 at h
  rcases of_ifb h with ⟨h11, h⟩ | ⟨h11, h⟩
  · obtain ⟨r4, h12, h⟩ := of_bnd h
    rcases of_ifb h with ⟨h13, h⟩ | ⟨h13, h⟩
    · obtain ⟨r5, h14, h⟩ := of_bnd h
      replace h := Option.some.inj h
      subst h
      exact WM.retE mixed (e_F43 a0 a1 (r5)) [T_, R_ [o_, c_ (mkCall Tryz.call76 (F76_ok h12) [0, 1, 2, 3, 4, 5, 6, 7, 8, 9, 10, 11, 12, 13] (by kernel_rfl) (by kernel_rfl))], R_ [o_, o_, o_, o_, o_], T_, R_ [o_, o_, o_, o_, o_, o_, o_, o_, c_ (mkCall Tryz.call74 (F74_ok h14) [0, 1, 2, 3, 4, 5, 6, 7, 8, 9, 10, 11, 12, 13] (by kernel_rfl) (by kernel_rfl))]] [some 0, some 1, some 2, some 3, some 4, some 5, some 6, some 7, some 8, some 9, some 10, some 11, some 12, some 13] (pc ((h11 : x57_1 = true)) <| pc zlt1 <| pc ((h13 : r4.newline = true)) <| pc zlt1 <| allP_nil) (by kernel_rfl) (by kernel_rfl)
    · replace h := Option.some.inj h
      subst h
      exact WM.retE mixed (e_F43 a0 a1 (r4)) [T_, R_ [o_, c_ (mkCall Tryz.call76 (F76_ok h12) [0, 1, 2, 3, 4, 5, 6, 7, 8, 9, 10, 11, 12, 13] (by kernel_rfl) (by kernel_rfl))], R_ [o_, o_, o_, o_, o_], F_] [some 0, some 1, some 2, some 3, some 4, some 5, some 6, some 7, some 8, some 9, some 10, some 11, some 12, some 13] (pc ((h11 : x57_1 = true)) <| pc zlt1 <| pc ((h13 : r4.newline = false)) <| allP_nil) (by kernel_rfl) (by kernel_rfl)
  · rcases of_ifb h with ⟨h15, h⟩ | ⟨h15, h⟩
    · obtain ⟨r6, h16, h⟩ := of_bnd h
      replace h := Option.some.inj h
      subst h
      exact WM.retE mixed (e_F43 a0 a1 (r6)) [F_, R_ [o_, o_], T_, R_ [o_, o_, o_, o_, o_, o_, o_, o_, c_ (mkCall Tryz.call74 (F74_ok h16) [0, 1, 2, 3, 4, 5, 6, 7, 8, 9, 10, 11, 12, 13] (by kernel_rfl) (by kernel_rfl))]] [some 0, some 1, some 2, some 3, some 4, some 5, some 6, some 7, some 8, some 9, some 10, some 11, some 12, some 13] (pc ((h11 : x57_1 = false)) <| pc ((h15 : decide (a1 = 13) = true)) <| pc zlt1 <| allP_nil) (by kernel_rfl) (by kernel_rfl)
    · replace h := Option.some.inj h
      subst h
      exact WM.retE mixed (e_F43 a0 a1 (a0)) [F_, R_ [o_, o_], F_] [some 0, some 1, some 2, some 3, some 4, some 5, some 6, some 7, some 8, some 9, some 10, some 11, some 12, some 13] (pc ((h11 : x57_1 = false)) <| pc ((h15 : decide (a1 = 13) = false)) <| allP_nil) (by kernel_rfl) (by kernel_rfl)
set_option maxRecDepth 100000 in
set_option maxHeartbeats 4000000 in
theorem F43_ok {f : Nat} {a0 : term_TermO_2} {a1 : Int} {y : term_TermO_2} (h : F43 f a0 a1 = some y) :
    Spec Tryz.prog G0 43 [.p 0 0 0, .i .i32 a1] [some (B_term_TermO_2 1 3 5 7 9 13 a0), some (B_grid_GridO 2 a0.grids_0), some (blk_cell_Cell a0.grids_0.l), some (B_grid_GridO 4 a0.grids_1), some (blk_cell_Cell a0.grids_1.l), some (B_tabs_StopsO_1 6 a0.stops), some (boolB a0.stops.at_), some (B_utf_DecoderO 8 a0.signs), some (intB .u8 a0.signs.b), some (B_esc_ParserO 10 11 12 a0.asks), some (intB .i64 a0.asks.params), some (intB .i32 a0.asks.text), some (blk_esc_Event a0.asks.out), some (intB .u8 a0.reply)] (v_F43 a0 a1 y) (x_F43 a0 a1 y) :=
  Spec.ofM (fn := Tryz.f43) (c := bodyOf Tryz.f43) (n := 88) (rs := Tryz.f43.results.toList) Tryz.func43 (by kernel_rfl) (by kernel_rfl) (by kernel_rfl) (by kernel_rfl) fun cx => by
  unfold F43 at h
  rcases of_ifb h with ⟨h1, h⟩ | ⟨h1, h⟩
  · obtain ⟨h2, h⟩ := of_chk h
    replace h := Option.some.inj h
    subst h
    exact WM.retE mixed (e_F43 a0 a1 (({ a0 with bells := (a0.bells + 1) } : term_TermO_2))) [R_ [o_], R_ [o_, o_], T_, R_ [o_, o_, o_, o_, o_, o_, o_, o_]] [some 0, some 1, some 2, some 3, some 4, some 5, some 6, some 7, some 8, some 9, some 10, some 11, some 12, some 13] (pc ((h1 : decide (a1 = 7) = true)) <| pc zlt1 <| pc h2 <| pc zlt1 <| allP_nil) (by kernel_rfl) (by kernel_rfl)
  · rcases of_ifb h with ⟨h3, h⟩ | ⟨h3, h⟩
    · obtain ⟨h4, h⟩ := of_chk h
      obtain ⟨r1, h5, h⟩ := of_bnd h
      replace h := Option.some.inj h
      subst h
      exact WM.retE mixed (e_F43 a0 a1 (r1)) [R_ [o_], R_ [o_, o_], F_, R_ [o_, o_], T_, R_ [o_, o_, o_, o_, o_, o_, o_, o_, o_, o_, o_, o_, o_, o_, o_, o_, c_ (mkCall Tryz.call74 (F74_ok h5) [0, 1, 2, 3, 4, 5, 6, 7, 8, 9, 10, 11, 12, 13] (by kernel_rfl) (by kernel_rfl))]] [some 0, some 1, some 2, some 3, some 4, some 5, some 6, some 7, some 8, some 9, some 10, some 11, some 12, some 13] (pc ((h1 : decide (a1 = 7) = false)) <| pc ((h3 : decide (a1 = 8) = true)) <| pc zlt1 <| pc zlt1 <| pc h4 <| allP_nil) (by kernel_rfl) (by kernel_rfl)
    · rcases of_ifb h with ⟨h6, h⟩ | ⟨h6, h⟩
      · obtain ⟨r2, h7, h⟩ := of_bnd h
        obtain ⟨r3, h8, h⟩ := of_bnd h
        replace h := Option.some.inj h
        subst h
        exact WM.retE mixed (e_F43 a0 a1 (r3)) [R_ [o_], R_ [o_, o_], F_, R_ [o_, o_], F_, R_ [o_, o_], T_, R_ [o_, o_, o_, o_, o_, o_, o_, o_, o_, o_, o_, o_, o_, o_, o_, o_, o_, o_, o_, o_, c_ (mkCallT Tryz.call75 (F75_ok h7) [5, 6] [5, 6] (by kernel_rfl) (by kernel_rfl) (by kernel_rfl) (by kernel_rfl)), c_ (mkCall Tryz.call74 (F74_ok h8) [0, 1, 2, 3, 4, 5, 6, 7, 8, 9, 10, 11, 12, 13] (by kernel_rfl) (by kernel_rfl))]] [some 0, some 1, some 2, some 3, some 4, some 5, some 6, some 7, some 8, some 9, some 10, some 11, some 12, some 13] (pc ((h1 : decide (a1 = 7) = false)) <| pc ((h3 : decide (a1 = 8) = false)) <| pc ((h6 : decide (a1 = 9) = true)) <| pc zlt1 <| pc zlt1 <| pc zlt1 <| allP_nil) (by kernel_rfl) (by kernel_rfl)
      · rcases of_ifb h with ⟨h9, h⟩ | ⟨h9, h⟩
        · exact WM.cut mixed [R_ [o_], R_ [o_, o_], F_, R_ [o_, o_], F_, R_ [o_, o_], F_, R_ [o_, o_], T_] [some 0, some 1, some 2, some 3, some 4, some 5, some 6, some 7, some 8, some 9, some 10, some 11, some 12, some 13] (pc ((h1 : decide (a1 = 7) = false)) <| pc ((h3 : decide (a1 = 8) = false)) <| pc ((h6 : decide (a1 = 9) = false)) <| pc ((h9 : decide (a1 = 10) = true)) <| allP_nil) (F43_p1_ok h) (by kernel_rfl)
        · rcases of_ifb h with ⟨h10, h⟩ | ⟨h10, h⟩
          · exact WM.cut mixed [R_ [o_], R_ [o_, o_], F_, R_ [o_, o_], F_, R_ [o_, o_], F_, R_ [o_, o_], F_, R_ [o_, o_], T_] [some 0, some 1, some 2, some 3, some 4, some 5, some 6, some 7, some 8, some 9, some 10, some 11, some 12, some 13] (pc ((h1 : decide (a1 = 7) = false)) <| pc ((h3 : decide (a1 = 8) = false)) <| pc ((h6 : decide (a1 = 9) = false)) <| pc ((h9 : decide (a1 = 10) = false)) <| pc ((h10 : decide (a1 = 11) = true)) <| allP_nil) (F43_p1_ok h) (by kernel_rfl)
          · exact WM.cut mixed [R_ [o_], R_ [o_, o_], F_, R_ [o_, o_], F_, R_ [o_, o_], F_, R_ [o_, o_], F_, R_ [o_, o_], F_, R_ [o_, o_]] [some 0, some 1, some 2, some 3, some 4, some 5, some 6, some 7, some 8, some 9, some 10, some 11, some 12, some 13] (pc ((h1 : decide (a1 = 7) = false)) <| pc ((h3 : decide (a1 = 8) = false)) <| pc ((h6 : decide (a1 = 9) = false)) <| pc ((h9 : decide (a1 = 10) = false)) <| pc ((h10 : decide (a1 = 11) = false)) <| allP_nil) (F43_p1_ok h) (by kernel_rfl)

/-! ### F102_1: function 102 tickertape/grid.fill -/
def F102_1_p1_b (f : Nat) (g1 : (List cell_Cell) → Int → Option (List cell_Cell)) (a0_n : Nat) (a1 : cell_Cell) (a0_1 : List cell_Cell) (x7_1 : Int) : Option (List cell_Cell) :=
  ifb (decide (x7_1 < ((a0_n : Nat) : Int))) (
    chk (0 ≤ x7_1) <|
    chk (x7_1 < ((a0_n : Nat) : Int)) <|
    chk ((0 + x7_1.toNat) < a0_1.length) <|
    chk (inR (x7_1 + 1)) <|
    g1 (a0_1.set (0 + x7_1.toNat) a1) (x7_1 + 1)) (
    some (a0_1))
def F102_1_p1 (f : Nat) (a0_n : Nat) (a1 : cell_Cell) : Nat → (List cell_Cell) → Int → Option (List cell_Cell)
  | 0, _, _ => none
  | j + 1, a0_1, x7_1 => F102_1_p1_b f (F102_1_p1 f a0_n a1 j) a0_n a1 a0_1 x7_1
def F102_1 (f : Nat) (a0_n : Nat) (a0 : List cell_Cell) (a1 : cell_Cell) : Option (List cell_Cell) :=
  F102_1_p1 f a0_n a1 f a0 0
def v_F102_1 (a0_n : Nat) (a0 : List cell_Cell) (a1 : cell_Cell) (y : List cell_Cell) : V :=
  .tup []
def e_F102_1 (a0_n : Nat) (a0 : List cell_Cell) (a1 : cell_Cell) (y : List cell_Cell) : Env :=
  []
def x_F102_1 (a0_n : Nat) (a0 : List cell_Cell) (a1 : cell_Cell) (y : List cell_Cell) : List (Option Blk) :=
  [some (blk_cell_Cell y)]
set_option maxRecDepth 100000 in
set_option maxHeartbeats 4000000 in
theorem F102_1_p1_bok {cx : Cx} {f : Nat} {I1 : Act → World → Prop} {g1 : (List cell_Cell) → Int → Option (List cell_Cell)} {a0_n : Nat} {a0 : List cell_Cell} {a1 : cell_Cell} {a0_1 : List cell_Cell} {x7_1 : Int} {y : List cell_Cell} (hg1 : ∀ (a0_1 : List cell_Cell) (x7_1 : Int), g1 a0_1 x7_1 = some y → ∀ a w, cx.In G0 15 1 [(0, ⟨none, .sl 0 0 a0_n⟩), (3, ⟨none, .p 1 0 0⟩), (6, ⟨none, .i .i64 ((a0_n : Nat) : Int)⟩), (7, ⟨none, .i .i64 x7_1⟩)] [some (blk_cell_Cell a0_1), some (svB 5 [.i .i32 a1.Rune, .i .i64 a1.Attr.Flags, .i .i64 a1.Attr.Fg, .i .i64 a1.Attr.Bg, .i .i64 a1.Wide])] a w → I1 a w) (h : F102_1_p1_b f g1 a0_n a1 a0_1 x7_1 = some y) :
    WM Tryz.prog G0 15 1 Tryz.f102.results.toList (v_F102_1 a0_n a0 a1 y) (x_F102_1 a0_n a0 a1 y) cx (nav [.r, .r, .l I1] [.code (bodyOf Tryz.f102)]) [(0, ⟨none, .sl 0 0 a0_n⟩), (3, ⟨none, .p 1 0 0⟩), (6, ⟨none, .i .i64 ((a0_n : Nat) : Int)⟩), (7, ⟨none, .i .i64 x7_1⟩)] [some (blk_cell_Cell a0_1), some (svB 5 [.i .i32 a1.Rune, .i .i64 a1.Attr.Flags, .i .i64 a1.Attr.Fg, .i .i64 a1.Attr.Bg, .i .i64 a1.Wide])] := by
  unfold F102_1_p1_b at h
  rcases of_ifb h with ⟨h1, h⟩ | ⟨h1, h⟩
  · obtain ⟨h2, h⟩ := of_chk h
    obtain ⟨h3, h⟩ := of_chk h
    obtain ⟨h4, h⟩ := of_chk h
    obtain ⟨h5, h⟩ := of_chk h
    exact WM.cut mixed [R_ [o_], T_, R_ [o_, o_], R_ [o_, o_, o_, o_, o_], R_ [o_, o_]] [some 0, some 1] (pc ((h1 : decide (x7_1 < ((a0_n : Nat) : Int)) = true)) <| pc zlt1 <| pc h2 <| pc h3 <| pc h4 <| pc h5 <| allP_nil) (WM.again (k := (nav [.r, .r, .n] [.code (bodyOf Tryz.f102)]).tail) (hg1 _ _ h)) (by kernel_rfl)
  · replace h := Option.some.inj h
    subst h
    exact WM.retE mixed (e_F102_1 a0_n a0 a1 (a0_1)) [R_ [o_], F_] [some 0] (pc ((h1 : decide (x7_1 < ((a0_n : Nat) : Int)) = false)) <| allP_nil) (by kernel_rfl) (by kernel_rfl)
set_option maxRecDepth 100000 in
set_option maxHeartbeats 4000000 in
theorem F102_1_p1_ok {cx : Cx} {f : Nat} {a0_n : Nat} {a0 : List cell_Cell} {a1 : cell_Cell} {a0_1 : List cell_Cell} {x7_1 : Int} {j : Nat} {y : List cell_Cell} (h : F102_1_p1 f a0_n a1 j a0_1 x7_1 = some y) :
    WM Tryz.prog G0 15 1 Tryz.f102.results.toList (v_F102_1 a0_n a0 a1 y) (x_F102_1 a0_n a0 a1 y) cx (nav [.r, .r, .n] [.code (bodyOf Tryz.f102)]) [(0, ⟨none, .sl 0 0 a0_n⟩), (3, ⟨none, .p 1 0 0⟩), (6, ⟨none, .i .i64 ((a0_n : Nat) : Int)⟩), (7, ⟨none, .i .i64 x7_1⟩)] [some (blk_cell_Cell a0_1), some (svB 5 [.i .i32 a1.Rune, .i .i64 a1.Attr.Flags, .i .i64 a1.Attr.Fg, .i .i64 a1.Attr.Bg, .i .i64 a1.Wide])] := by
  refine WM.loopN (X := List cell_Cell × Int) (y := y) (kb := fun I1 => (nav [.r, .r, .l I1] [.code (bodyOf Tryz.f102)])) (by intro I; kernel_rfl) (fun j x => F102_1_p1 f a0_n a1 j x.1 x.2) (fun x => [(0, ⟨none, .sl 0 0 a0_n⟩), (3, ⟨none, .p 1 0 0⟩), (6, ⟨none, .i .i64 ((a0_n : Nat) : Int)⟩), (7, ⟨none, .i .i64 x.2⟩)]) (fun x => [some (blk_cell_Cell x.1), some (svB 5 [.i .i32 a1.Rune, .i .i64 a1.Attr.Flags, .i .i64 a1.Attr.Fg, .i .i64 a1.Attr.Bg, .i .i64 a1.Wide])]) ?_ (j := j) (x := (a0_1, x7_1)) h
  intro j x I1 h hI
  cases j with
  | zero => cases h
  | succ j => exact F102_1_p1_bok (fun x0 x1 => hI j (x0, x1) (Nat.lt_succ_self j)) h
set_option maxRecDepth 100000 in
set_option maxHeartbeats 4000000 in
theorem F102_1_ok {f : Nat} {a0_n : Nat} {a0 : List cell_Cell} {a1 : cell_Cell} {y : List cell_Cell} (h : F102_1 f a0_n a0 a1 = some y) :
    Spec Tryz.prog G0 102 [.sl 0 0 a0_n, .agg [.i .i32 a1.Rune, .i .i64 a1.Attr.Flags, .i .i64 a1.Attr.Fg, .i .i64 a1.Attr.Bg, .i .i64 a1.Wide]] [some (blk_cell_Cell a0)] (v_F102_1 a0_n a0 a1 y) (x_F102_1 a0_n a0 a1 y) :=
  Spec.ofM (fn := Tryz.f102) (c := bodyOf Tryz.f102) (n := 15) (rs := Tryz.f102.results.toList) Tryz.func102 (by kernel_rfl) (by kernel_rfl) (by kernel_rfl) (by kernel_rfl) fun cx => by
  unfold F102_1 at h
  exact WM.cut mixed [R_ [.op (.fresh 1 (svB 5 [.i .i32 a1.Rune, .i .i64 a1.Attr.Flags, .i .i64 a1.Attr.Fg, .i .i64 a1.Attr.Bg, .i .i64 a1.Wide]))], R_ [o_, o_, o_]] [some 0, some 1] (allP_nil) (F102_1_p1_ok h) (by kernel_rfl)

/-! ### F77: function 77 (*tickertape/grid.Grid).Fill -/
def F77 (f : Nat) (a0 : grid_GridO) (a1 : cell_Cell) : Option (grid_GridO) :=
  bnd (F48 f a1) fun r1 =>
  ifb ((r1 && decide (a1.Wide = 0))) (
    bnd (F102_1 f a0.l_n a0.l a1) fun r2 =>
    some (({ a0 with l := r2 } : grid_GridO))) (
    some (a0))
def v_F77 (a0 : grid_GridO) (a1 : cell_Cell) (y : grid_GridO) : V :=
  .tup []
def e_F77 (a0 : grid_GridO) (a1 : cell_Cell) (y : grid_GridO) : Env :=
  []
def x_F77 (a0 : grid_GridO) (a1 : cell_Cell) (y : grid_GridO) : List (Option Blk) :=
  [some (B_grid_GridO 1 y), some (blk_cell_Cell y.l)]
set_option maxRecDepth 100000 in
set_option maxHeartbeats 4000000 in
theorem F77_ok {f : Nat} {a0 : grid_GridO} {a1 : cell_Cell} {y : grid_GridO} (h : F77 f a0 a1 = some y) :
    Spec Tryz.prog G0 77 [.p 0 0 0, .agg [.i .i32 a1.Rune, .i .i64 a1.Attr.Flags, .i .i64 a1.Attr.Fg, .i .i64 a1.Attr.Bg, .i .i64 a1.Wide]] [some (B_grid_GridO 1 a0), some (blk_cell_Cell a0.l)] (v_F77 a0 a1 y) (x_F77 a0 a1 y) :=
  Spec.ofM (fn := Tryz.f77) (c := bodyOf Tryz.f77) (n := 17) (rs := Tryz.f77.results.toList) Tryz.func77 (by kernel_rfl) (by kernel_rfl) (by kernel_rfl) (by kernel_rfl) fun cx => by
  unfold F77 at h
  obtain ⟨r1, h1, h⟩ := of_bnd h
  rcases of_ifb h with ⟨h2, h⟩ | ⟨h2, h⟩
  · obtain ⟨r2, h3, h⟩ := of_bnd h
    replace h := Option.some.inj h
    subst h
    exact WM.retE mixed (e_F77 a0 a1 (({ a0 with l := r2 } : grid_GridO))) [R_ [.op (.fresh 2 (svB 5 [.i .i32 a1.Rune, .i .i64 a1.Attr.Flags, .i .i64 a1.Attr.Fg, .i .i64 a1.Attr.Bg, .i .i64 a1.Wide]))], R_ [o_, c_ (mkCall Tryz.call48 (F48_ok h1) [] (by kernel_rfl) (by kernel_rfl)), o_, o_, o_, o_, o_], T_, R_ [o_, o_, o_, o_, o_, c_ (mkCall Tryz.call102 (F102_1_ok h3) [1] (by kernel_rfl) (by kernel_rfl))]] [some 0, some 1] (pc zlt1 <| pc ((fun h => h : (r1 = true → r1 = true))) <| pc ((fun _ => zlt1 : (r1 = true → 0 < 1))) <| pc ((fun h => h : (r1 = true → r1 = true))) <| pc ((fun k2 => k2 : (r1 = true → r1 = true))) <| pc ((h2 : (r1 && decide (a1.Wide = 0)) = true)) <| pc zlt1 <| pc zlt1 <| allP_nil) (by kernel_rfl) (by kernel_rfl)
  · replace h := Option.some.inj h
    subst h
    exact WM.retE mixed (e_F77 a0 a1 (a0)) [R_ [.op (.fresh 2 (svB 5 [.i .i32 a1.Rune, .i .i64 a1.Attr.Flags, .i .i64 a1.Attr.Fg, .i .i64 a1.Attr.Bg, .i .i64 a1.Wide]))], R_ [o_, c_ (mkCall Tryz.call48 (F48_ok h1) [] (by kernel_rfl) (by kernel_rfl)), o_, o_, o_, o_, o_], F_] [some 0, some 1] (pc zlt1 <| pc ((fun h => h : (r1 = true → r1 = true))) <| pc ((fun _ => zlt1 : (r1 = true → 0 < 1))) <| pc ((fun h => h : (r1 = true → r1 = true))) <| pc ((fun k2 => k2 : (r1 = true → r1 = true))) <| pc ((h2 : (r1 && decide (a1.Wide = 0)) = false)) <| allP_nil) (by kernel_rfl) (by kernel_rfl)

/-! ### F78: function 78 (*tickertape/term.Term).whole -/
def F78 (f : Nat) (a0 : term_TermO_2) : Option (term_TermO_2) :=
  chk (inR (a0.rows - 1)) <|
  some (({ a0 with top := 0, bottom := (a0.rows - 1) } : term_TermO_2))
def v_F78 (a0 : term_TermO_2) (y : term_TermO_2) : V :=
  .tup []
def e_F78 (a0 : term_TermO_2) (y : term_TermO_2) : Env :=
  []
def x_F78 (a0 : term_TermO_2) (y : term_TermO_2) : List (Option Blk) :=
  [some (B_term_TermO_2 1 3 5 7 9 13 y), some (B_grid_GridO 2 y.grids_0), some (blk_cell_Cell y.grids_0.l), some (B_grid_GridO 4 y.grids_1), some (blk_cell_Cell y.grids_1.l), some (B_tabs_StopsO_1 6 y.stops), some (boolB y.stops.at_), some (B_utf_DecoderO 8 y.signs), some (intB .u8 y.signs.b), some (B_esc_ParserO 10 11 12 y.asks), some (intB .i64 y.asks.params), some (intB .i32 y.asks.text), some (blk_esc_Event y.asks.out), some (intB .u8 y.reply)]
set_option maxRecDepth 100000 in
set_option maxHeartbeats 4000000 in
theorem F78_ok {f : Nat} {a0 : term_TermO_2} {y : term_TermO_2} (h : F78 f a0 = some y) :
    Spec Tryz.prog G0 78 [.p 0 0 0] [some (B_term_TermO_2 1 3 5 7 9 13 a0), some (B_grid_GridO 2 a0.grids_0), some (blk_cell_Cell a0.grids_0.l), some (B_grid_GridO 4 a0.grids_1), some (blk_cell_Cell a0.grids_1.l), some (B_tabs_StopsO_1 6 a0.stops), some (boolB a0.stops.at_), some (B_utf_DecoderO 8 a0.signs), some (intB .u8 a0.signs.b), some (B_esc_ParserO 10 11 12 a0.asks), some (intB .i64 a0.asks.params), some (intB .i32 a0.asks.text), some (blk_esc_Event a0.asks.out), some (intB .u8 a0.reply)] (v_F78 a0 y) (x_F78 a0 y) :=
  Spec.ofM (fn := Tryz.f78) (c := bodyOf Tryz.f78) (n := 15) (rs := Tryz.f78.results.toList) Tryz.func78 (by kernel_rfl) (by kernel_rfl) (by kernel_rfl) (by kernel_rfl) fun cx => by
  unfold F78 at h
  obtain ⟨h1, h⟩ := of_chk h
  replace h := Option.some.inj h
  subst h
  exact WM.retE mixed (e_F78 a0 (({ a0 with top := 0, bottom := (a0.rows - 1) } : term_TermO_2))) [R_ [o_, o_, o_, o_, o_, o_, o_, o_, o_, o_, o_, o_, o_, o_, o_]] [some 0, some 1, some 2, some 3, some 4, some 5, some 6, some 7, some 8, some 9, some 10, some 11, some 12, some 13] (pc zlt1 <| pc h1 <| pc zlt1 <| pc zlt1 <| allP_nil) (by kernel_rfl) (by kernel_rfl)

/-! ### F79: function 79 (*tickertape/term.Term).goes -/
def F79_p1 (f : Nat) (a0 : term_TermO_2) (a2 : Int) (x1_1 : Int) : Option (term_TermO_2) :=
  bnd (F74 f a0 x1_1 a2) fun r2 =>
  some (r2)
def F79 (f : Nat) (a0 : term_TermO_2) (a1 : Int) (a2 : Int) : Option (term_TermO_2) :=
  ifb (a0.kept.origin) (
    chk (inR (a1 + a0.top)) <|
    bnd (F104 f (a1 + a0.top) a0.top a0.bottom) fun r1 =>
    F79_p1 f a0 a2 r1) (
    F79_p1 f a0 a2 a1)
def v_F79 (a0 : term_TermO_2) (a1 : Int) (a2 : Int) (y : term_TermO_2) : V :=
  .tup []
def e_F79 (a0 : term_TermO_2) (a1 : Int) (a2 : Int) (y : term_TermO_2) : Env :=
  []
def x_F79 (a0 : term_TermO_2) (a1 : Int) (a2 : Int) (y : term_TermO_2) : List (Option Blk) :=
  [some (B_term_TermO_2 1 3 5 7 9 13 y), some (B_grid_GridO 2 y.grids_0), some (blk_cell_Cell y.grids_0.l), some (B_grid_GridO 4 y.grids_1), some (blk_cell_Cell y.grids_1.l), some (B_tabs_StopsO_1 6 y.stops), some (boolB y.stops.at_), some (B_utf_DecoderO 8 y.signs), some (intB .u8 y.signs.b), some (B_esc_ParserO 10 11 12 y.asks), some (intB .i64 y.asks.params), some (intB .i32 y.asks.text), some (blk_esc_Event y.asks.out), some (intB .u8 y.reply)]
set_option maxRecDepth 100000 in
set_option maxHeartbeats 4000000 in
theorem F79_p1_ok {cx : Cx} {f : Nat} {a0 : term_TermO_2} {a1 : Int} {a2 : Int} {x1_1 : Int} {y : term_TermO_2} (h : F79_p1 f a0 a2 x1_1 = some y) :
    WM Tryz.prog G0 34 14 Tryz.f79.results.toList (v_F79 a0 a1 a2 y) (x_F79 a0 a1 a2 y) cx (nav [.r, .t, .r, .n] [.code (bodyOf Tryz.f79)]) [(0, ⟨none, .p 0 0 0⟩), (1, ⟨none, .i .i64 x1_1⟩), (2, ⟨none, .i .i64 a2⟩)] [some (B_term_TermO_2 1 3 5 7 9 13 a0), some (B_grid_GridO 2 a0.grids_0), some (blk_cell_Cell a0.grids_0.l), some (B_grid_GridO 4 a0.grids_1), some (blk_cell_Cell a0.grids_1.l), some (B_tabs_StopsO_1 6 a0.stops), some (boolB a0.stops.at_), some (B_utf_DecoderO 8 a0.signs), some (intB .u8 a0.signs.b), some (B_esc_ParserO 10 11 12 a0.asks), some (intB .i64 a0.asks.params), some (intB .i32 a0.asks.text), some (blk_esc_Event a0.asks.out), some (intB .u8 a0.reply)] := by
  unfold F79_p1 at h
  obtain ⟨r2, h4, h⟩ := of_bnd h
  replace h := Option.some.inj h
  subst h
  exact WM.retE mixed (e_F79 a0 a1 a2 (r2)) [R_ [o_, o_, o_, c_ (mkCall Tryz.call74 (F74_ok h4) [0, 1, 2, 3, 4, 5, 6, 7, 8, 9, 10, 11, 12, 13] (by kernel_rfl) (by kernel_rfl))]] [some 0, some 1, some 2, some 3, some 4, some 5, some 6, some 7, some 8, some 9, some 10, some 11, some 12, some 13] (allP_nil) (by kernel_rfl) (by kernel_rfl)
set_option maxRecDepth 100000 in
set_option maxHeartbeats 4000000 in
theorem F79_ok {f : Nat} {a0 : term_TermO_2} {a1 : Int} {a2 : Int} {y : term_TermO_2} (h : F79 f a0 a1 a2 = some y) :
    Spec Tryz.prog G0 79 [.p 0 0 0, .i .i64 a1, .i .i64 a2] [some (B_term_TermO_2 1 3 5 7 9 13 a0), some (B_grid_GridO 2 a0.grids_0), some (blk_cell_Cell a0.grids_0.l), some (B_grid_GridO 4 a0.grids_1), some (blk_cell_Cell a0.grids_1.l), some (B_tabs_StopsO_1 6 a0.stops), some (boolB a0.stops.at_), some (B_utf_DecoderO 8 a0.signs), some (intB .u8 a0.signs.b), some (B_esc_ParserO 10 11 12 a0.asks), some (intB .i64 a0.asks.params), some (intB .i32 a0.asks.text), some (blk_esc_Event a0.asks.out), some (intB .u8 a0.reply)] (v_F79 a0 a1 a2 y) (x_F79 a0 a1 a2 y) :=
  Spec.ofM (fn := Tryz.f79) (c := bodyOf Tryz.f79) (n := 34) (rs := Tryz.f79.results.toList) Tryz.func79 (by kernel_rfl) (by kernel_rfl) (by kernel_rfl) (by kernel_rfl) fun cx => by
  unfold F79 at h
  rcases of_ifb h with ⟨h1, h⟩ | ⟨h1, h⟩
  · obtain ⟨h2, h⟩ := of_chk h
    obtain ⟨r1, h3, h⟩ := of_bnd h
    exact WM.cut mixed [R_ [o_, o_, o_, o_, o_, o_], T_, R_ [o_, o_, o_, o_, o_, o_, o_, o_, o_, o_, o_, o_, o_, o_, o_, o_, o_, c_ (mkCall Tryz.call104 (F104_ok h3) [] (by kernel_rfl) (by kernel_rfl)), o_]] [some 0, some 1, some 2, some 3, some 4, some 5, some 6, some 7, some 8, some 9, some 10, some 11, some 12, some 13] (pc zlt1 <| pc ((h1 : a0.kept.origin = true)) <| pc zlt1 <| pc h2 <| pc zlt1 <| pc zlt1 <| allP_nil) (F79_p1_ok h) (by kernel_rfl)
  · exact WM.cut mixed [R_ [o_, o_, o_, o_, o_, o_], F_] [some 0, some 1, some 2, some 3, some 4, some 5, some 6, some 7, some 8, some 9, some 10, some 11, some 12, some 13] (pc zlt1 <| pc ((h1 : a0.kept.origin = false)) <| allP_nil) (F79_p1_ok h) (by kernel_rfl)

/-! ### F80: function 80 (*tickertape/term.Term).back -/
def F80 (f : Nat) (a0 : term_TermO_2) : Option (term_TermO_2) :=
  ifb (decide (a0.kept.cursor.row = a0.top)) (
    bnd (F28 f a0) fun r1 =>
    sm r1 (fun r2 =>
      bnd (F106 f a0.grids_0 a0.top a0.bottom (-1) a0.kept.pen) fun r4 =>
      bnd (F74 f ({ a0 with grids_0 := r4 } : term_TermO_2) a0.kept.cursor.row a0.kept.cursor.col) fun r5 =>
      some (r5)) (fun r3 =>
      bnd (F106 f a0.grids_1 a0.top a0.bottom (-1) a0.kept.pen) fun r6 =>
      bnd (F74 f ({ a0 with grids_1 := r6 } : term_TermO_2) a0.kept.cursor.row a0.kept.cursor.col) fun r7 =>
      some (r7))) (
    chk (inR (a0.kept.cursor.row - 1)) <|
    bnd (F74 f a0 (a0.kept.cursor.row - 1) a0.kept.cursor.col) fun r8 =>
    some (r8))
def v_F80 (a0 : term_TermO_2) (y : term_TermO_2) : V :=
  .tup []
def e_F80 (a0 : term_TermO_2) (y : term_TermO_2) : Env :=
  []
def x_F80 (a0 : term_TermO_2) (y : term_TermO_2) : List (Option Blk) :=
  [some (B_term_TermO_2 1 3 5 7 9 13 y), some (B_grid_GridO 2 y.grids_0), some (blk_cell_Cell y.grids_0.l), some (B_grid_GridO 4 y.grids_1), some (blk_cell_Cell y.grids_1.l), some (B_tabs_StopsO_1 6 y.stops), some (boolB y.stops.at_), some (B_utf_DecoderO 8 y.signs), some (intB .u8 y.signs.b), some (B_esc_ParserO 10 11 12 y.asks), some (intB .i64 y.asks.params), some (intB .i32 y.asks.text), some (blk_esc_Event y.asks.out), some (intB .u8 y.reply)]
set_option maxRecDepth 100000 in
set_option maxHeartbeats 4000000 in
theorem F80_ok {f : Nat} {a0 : term_TermO_2} {y : term_TermO_2} (h : F80 f a0 = some y) :
    Spec Tryz.prog G0 80 [.p 0 0 0] [some (B_term_TermO_2 1 3 5 7 9 13 a0), some (B_grid_GridO 2 a0.grids_0), some (blk_cell_Cell a0.grids_0.l), some (B_grid_GridO 4 a0.grids_1), some (blk_cell_Cell a0.grids_1.l), some (B_tabs_StopsO_1 6 a0.stops), some (boolB a0.stops.at_), some (B_utf_DecoderO 8 a0.signs), some (intB .u8 a0.signs.b), some (B_esc_ParserO 10 11 12 a0.asks), some (intB .i64 a0.asks.params), some (intB .i32 a0.asks.text), some (blk_esc_Event a0.asks.out), some (intB .u8 a0.reply)] (v_F80 a0 y) (x_F80 a0 y) :=
  Spec.ofM (fn := Tryz.f80) (c := bodyOf Tryz.f80) (n := 67) (rs := Tryz.f80.results.toList) Tryz.func80 (by kernel_rfl) (by kernel_rfl) (by kernel_rfl) (by kernel_rfl) fun cx => by
  unfold F80 at h
  rcases of_ifb h with ⟨h1, h⟩ | ⟨h1, h⟩
  · obtain ⟨r1, h2, h⟩ := of_bnd h
    rcases of_sm h with ⟨r2, rfl, h⟩ | ⟨r3, rfl, h⟩
    · obtain ⟨r4, h3, h⟩ := of_bnd h
      obtain ⟨r5, h4, h⟩ := of_bnd h
      replace h := Option.some.inj h
      subst h
      exact WM.retE mixed (e_F80 a0 (r5)) [R_ [o_, o_, o_, o_, o_, o_, o_, o_, o_, o_, o_, o_, o_], T_, R_ [o_, c_ (mkCallT Tryz.call28 (F28_ok h2) [0, 1, 2, 3, 4, 5, 6, 7, 8, 9, 10, 11, 12, 13] [0, 1, 2, 3, 4, 5, 6, 7, 8, 9, 10, 11, 12, 13] (by kernel_rfl) (by kernel_rfl) (by kernel_rfl) (by kernel_rfl)), o_, o_, o_, o_, o_, o_, o_, o_, o_, o_, o_, o_, o_, o_, o_, o_, c_ (mkCall Tryz.call106 (F106_ok h3) [1, 2] (by kernel_rfl) (by kernel_rfl))], R_ [o_, o_, o_, o_, o_, o_, o_, o_, o_, o_, o_, o_, o_, o_, o_, c_ (mkCall Tryz.call74 (F74_ok h4) [0, 1, 2, 3, 4, 5, 6, 7, 8, 9, 10, 11, 12, 13] (by kernel_rfl) (by kernel_rfl))]] [some 0, some 1, some 2, some 3, some 4, some 5, some 6, some 7, some 8, some 9, some 10, some 11, some 12, some 13] (pc zlt1 <| pc zlt1 <| pc ((h1 : decide (a0.kept.cursor.row = a0.top) = true)) <| pc zlt1 <| pc zlt1 <| pc zlt1 <| pc zlt1 <| pc zlt1 <| allP_nil) (by kernel_rfl) (by kernel_rfl)
    · obtain ⟨r6, h5, h⟩ := of_bnd h
      obtain ⟨r7, h6, h⟩ := of_bnd h
      replace h := Option.some.inj h
      subst h
      exact WM.retE mixed (e_F80 a0 (r7)) [R_ [o_, o_, o_, o_, o_, o_, o_, o_, o_, o_, o_, o_, o_], T_, R_ [o_, c_ (mkCallT Tryz.call28 (F28_ok h2) [0, 1, 2, 3, 4, 5, 6, 7, 8, 9, 10, 11, 12, 13] [0, 1, 2, 3, 4, 5, 6, 7, 8, 9, 10, 11, 12, 13] (by kernel_rfl) (by kernel_rfl) (by kernel_rfl) (by kernel_rfl)), o_, o_, o_, o_, o_, o_, o_, o_, o_, o_, o_, o_, o_, o_, o_, o_, c_ (mkCall Tryz.call106 (F106_ok h5) [3, 4] (by kernel_rfl) (by kernel_rfl))], R_ [o_, o_, o_, o_, o_, o_, o_, o_, o_, o_, o_, o_, o_, o_, o_, c_ (mkCall Tryz.call74 (F74_ok h6) [0, 1, 2, 3, 4, 5, 6, 7, 8, 9, 10, 11, 12, 13] (by kernel_rfl) (by kernel_rfl))]] [some 0, some 1, some 2, some 3, some 4, some 5, some 6, some 7, some 8, some 9, some 10, some 11, some 12, some 13] (pc zlt1 <| pc zlt1 <| pc ((h1 : decide (a0.kept.cursor.row = a0.top) = true)) <| pc zlt1 <| pc zlt1 <| pc zlt1 <| pc zlt1 <| pc zlt1 <| allP_nil) (by kernel_rfl) (by kernel_rfl)
  · obtain ⟨h7, h⟩ := of_chk h
    obtain ⟨r8, h8, h⟩ := of_bnd h
    replace h := Option.some.inj h
    subst h
    exact WM.retE mixed (e_F80 a0 (r8)) [R_ [o_, o_, o_, o_, o_, o_, o_, o_, o_, o_, o_, o_, o_], F_, R_ [o_, o_, o_, o_, o_, o_, o_, o_, o_, o_, o_, o_, o_, o_, o_, o_, c_ (mkCall Tryz.call74 (F74_ok h8) [0, 1, 2, 3, 4, 5, 6, 7, 8, 9, 10, 11, 12, 13] (by kernel_rfl) (by kernel_rfl))]] [some 0, some 1, some 2, some 3, some 4, some 5, some 6, some 7, some 8, some 9, some 10, some 11, some 12, some 13] (pc zlt1 <| pc zlt1 <| pc ((h1 : decide (a0.kept.cursor.row = a0.top) = false)) <| pc zlt1 <| pc h7 <| pc zlt1 <| allP_nil) (by kernel_rfl) (by kernel_rfl)

/-! ### F107: function 107 (*tickertape/tabs.Stops).lays -/
def F107 (f : Nat) (a0 : tabs_StopsO_1) (a1 : Int) (a2 : Bool) : Option (tabs_StopsO_1 × Bool) :=
  ifb ((decide (a1 < 0) || decide (a1 ≥ ((a0.at_n : Nat) : Int)))) (
    some ((a0, false))) (
    chk (0 ≤ a1) <|
    chk (a1 < ((a0.at_n : Nat) : Int)) <|
    chk ((0 + a1.toNat) < a0.at_.length) <|
    some ((({ a0 with at_ := (a0.at_.set (0 + a1.toNat) a2) } : tabs_StopsO_1), true)))
def v_F107 (a0 : tabs_StopsO_1) (a1 : Int) (a2 : Bool) (y : tabs_StopsO_1 × Bool) : V :=
  .b y.2
def e_F107 (a0 : tabs_StopsO_1) (a1 : Int) (a2 : Bool) (y : tabs_StopsO_1 × Bool) : Env :=
  [(6, ⟨none, .b y.2⟩)]
def x_F107 (a0 : tabs_StopsO_1) (a1 : Int) (a2 : Bool) (y : tabs_StopsO_1 × Bool) : List (Option Blk) :=
  [some (B_tabs_StopsO_1 1 y.1), some (boolB y.1.at_)]
set_option maxRecDepth 100000 in
set_option maxHeartbeats 4000000 in
theorem F107_ok {f : Nat} {a0 : tabs_StopsO_1} {a1 : Int} {a2 : Bool} {y : tabs_StopsO_1 × Bool} (h : F107 f a0 a1 a2 = some y) :
    Spec Tryz.prog G0 107 [.p 0 0 0, .i .i64 a1, .b a2] [some (B_tabs_StopsO_1 1 a0), some (boolB a0.at_)] (v_F107 a0 a1 a2 y) (x_F107 a0 a1 a2 y) :=
  Spec.ofM (fn := Tryz.f107) (c := bodyOf Tryz.f107) (n := 25) (rs := Tryz.f107.results.toList) Tryz.func107 (by kernel_rfl) (by kernel_rfl) (by kernel_rfl) (by kernel_rfl) fun cx => by
  unfold F107 at h
  rcases of_ifb h with ⟨h1, h⟩ | ⟨h1, h⟩
  · replace h := Option.some.inj h
    subst h
    exact WM.retE mixed (e_F107 a0 a1 a2 ((a0, false))) [R_ [o_], R_ [o_, o_, o_, o_, o_, o_, o_, o_, o_, o_, o_], T_, R_ [o_]] [some 0, some 1] (pc ((fun h => h : ((!(decide (a1 < 0))) = true → (!(decide (a1 < 0))) = true))) <| pc ((fun h => h : ((!(decide (a1 < 0))) = true → (!(decide (a1 < 0))) = true))) <| pc ((fun h => h : ((!(decide (a1 < 0))) = true → (!(decide (a1 < 0))) = true))) <| pc ((fun _ => zlt1 : ((!(decide (a1 < 0))) = true → 0 < 1))) <| pc ((fun h => h : ((!(decide (a1 < 0))) = true → (!(decide (a1 < 0))) = true))) <| pc ((fun h => h : ((!(decide (a1 < 0))) = true → (!(decide (a1 < 0))) = true))) <| pc ((fun h => h : ((!(decide (a1 < 0))) = true → (!(decide (a1 < 0))) = true))) <| pc ((fun k2 => (not_t k2) : (decide (a1 < 0) = false → (!(decide (a1 < 0))) = true))) <| pc ((h1 : (decide (a1 < 0) || decide (a1 ≥ ((a0.at_n : Nat) : Int))) = true)) <| allP_nil) (by kernel_rfl) (by kernel_rfl)
  · obtain ⟨h2, h⟩ := of_chk h
    obtain ⟨h3, h⟩ := of_chk h
    obtain ⟨h4, h⟩ := of_chk h
    replace h := Option.some.inj h
    subst h
    exact WM.retE mixed (e_F107 a0 a1 a2 ((({ a0 with at_ := (a0.at_.set (0 + a1.toNat) a2) } : tabs_StopsO_1), true))) [R_ [o_], R_ [o_, o_, o_, o_, o_, o_, o_, o_, o_, o_, o_], F_, R_ [o_, o_, o_, o_, o_, o_, o_, o_], R_ [o_]] [some 0, some 1] (pc ((fun h => h : ((!(decide (a1 < 0))) = true → (!(decide (a1 < 0))) = true))) <| pc ((fun h => h : ((!(decide (a1 < 0))) = true → (!(decide (a1 < 0))) = true))) <| pc ((fun h => h : ((!(decide (a1 < 0))) = true → (!(decide (a1 < 0))) = true))) <| pc ((fun _ => zlt1 : ((!(decide (a1 < 0))) = true → 0 < 1))) <| pc ((fun h => h : ((!(decide (a1 < 0))) = true → (!(decide (a1 < 0))) = true))) <| pc ((fun h => h : ((!(decide (a1 < 0))) = true → (!(decide (a1 < 0))) = true))) <| pc ((fun h => h : ((!(decide (a1 < 0))) = true → (!(decide (a1 < 0))) = true))) <| pc ((fun k2 => (not_t k2) : (decide (a1 < 0) = false → (!(decide (a1 < 0))) = true))) <| pc ((h1 : (decide (a1 < 0) || decide (a1 ≥ ((a0.at_n : Nat) : Int))) = false)) <| pc zlt1 <| pc h2 <| pc h3 <| pc h4 <| allP_nil) (by kernel_rfl) (by kernel_rfl)

/-! ### F81: function 81 (*tickertape/tabs.Stops).Set -/
def F81 (f : Nat) (a0 : tabs_StopsO_1) (a1 : Int) : Option (tabs_StopsO_1 × Bool) :=
  bnd (F107 f a0 a1 true) fun r1 =>
  some ((r1.1, r1.2))
def v_F81 (a0 : tabs_StopsO_1) (a1 : Int) (y : tabs_StopsO_1 × Bool) : V :=
  .b y.2
def e_F81 (a0 : tabs_StopsO_1) (a1 : Int) (y : tabs_StopsO_1 × Bool) : Env :=
  [(4, ⟨none, .b y.2⟩)]
def x_F81 (a0 : tabs_StopsO_1) (a1 : Int) (y : tabs_StopsO_1 × Bool) : List (Option Blk) :=
  [some (B_tabs_StopsO_1 1 y.1), some (boolB y.1.at_)]
set_option maxRecDepth 100000 in
set_option maxHeartbeats 4000000 in
theorem F81_ok {f : Nat} {a0 : tabs_StopsO_1} {a1 : Int} {y : tabs_StopsO_1 × Bool} (h : F81 f a0 a1 = some y) :
    Spec Tryz.prog G0 81 [.p 0 0 0, .i .i64 a1] [some (B_tabs_StopsO_1 1 a0), some (boolB a0.at_)] (v_F81 a0 a1 y) (x_F81 a0 a1 y) :=
  Spec.ofM (fn := Tryz.f81) (c := bodyOf Tryz.f81) (n := 8) (rs := Tryz.f81.results.toList) Tryz.func81 (by kernel_rfl) (by kernel_rfl) (by kernel_rfl) (by kernel_rfl) fun cx => by
  unfold F81 at h
  obtain ⟨r1, h1, h⟩ := of_bnd h
  replace h := Option.some.inj h
  subst h
  exact WM.retE mixed (e_F81 a0 a1 ((r1.1, r1.2))) [R_ [o_], R_ [o_, o_, c_ (mkCall Tryz.call107 (F107_ok h1) [0, 1] (by kernel_rfl) (by kernel_rfl)), o_]] [some 0, some 1] (allP_nil) (by kernel_rfl) (by kernel_rfl)

/-! ### F82: function 82 (*tickertape/term.Term).restores -/
def F82 (f : Nat) (a0 : term_TermO_2) : Option (term_TermO_2) :=
  chk (inR (a0.rows - 1)) <|
  bnd (F104 f a0.saved.cursor.row 0 (a0.rows - 1)) fun r1 =>
  chk (inR (a0.cols - 1)) <|
  bnd (F104 f a0.saved.cursor.col 0 (a0.cols - 1)) fun r2 =>
  some (({ a0 with kept := ({ a0.saved with cursor := (term_cursor.mk r1 r2 a0.saved.cursor.pending) } : term_kept) } : term_TermO_2))
def v_F82 (a0 : term_TermO_2) (y : term_TermO_2) : V :=
  .tup []
def e_F82 (a0 : term_TermO_2) (y : term_TermO_2) : Env :=
  []
def x_F82 (a0 : term_TermO_2) (y : term_TermO_2) : List (Option Blk) :=
  [some (B_term_TermO_2 1 3 5 7 9 13 y), some (B_grid_GridO 2 y.grids_0), some (blk_cell_Cell y.grids_0.l), some (B_grid_GridO 4 y.grids_1), some (blk_cell_Cell y.grids_1.l), some (B_tabs_StopsO_1 6 y.stops), some (boolB y.stops.at_), some (B_utf_DecoderO 8 y.signs), some (intB .u8 y.signs.b), some (B_esc_ParserO 10 11 12 y.asks), some (intB .i64 y.asks.params), some (intB .i32 y.asks.text), some (blk_esc_Event y.asks.out), some (intB .u8 y.reply)]
set_option maxRecDepth 100000 in
set_option maxHeartbeats 4000000 in
theorem F82_ok {f : Nat} {a0 : term_TermO_2} {y : term_TermO_2} (h : F82 f a0 = some y) :
    Spec Tryz.prog G0 82 [.p 0 0 0] [some (B_term_TermO_2 1 3 5 7 9 13 a0), some (B_grid_GridO 2 a0.grids_0), some (blk_cell_Cell a0.grids_0.l), some (B_grid_GridO 4 a0.grids_1), some (blk_cell_Cell a0.grids_1.l), some (B_tabs_StopsO_1 6 a0.stops), some (boolB a0.stops.at_), some (B_utf_DecoderO 8 a0.signs), some (intB .u8 a0.signs.b), some (B_esc_ParserO 10 11 12 a0.asks), some (intB .i64 a0.asks.params), some (intB .i32 a0.asks.text), some (blk_esc_Event a0.asks.out), some (intB .u8 a0.reply)] (v_F82 a0 y) (x_F82 a0 y) :=
  Spec.ofM (fn := Tryz.f82) (c := bodyOf Tryz.f82) (n := 49) (rs := Tryz.f82.results.toList) Tryz.func82 (by kernel_rfl) (by kernel_rfl) (by kernel_rfl) (by kernel_rfl) fun cx => by
  unfold F82 at h
  obtain ⟨h1, h⟩ := of_chk h
  obtain ⟨r1, h2, h⟩ := of_bnd h
  obtain ⟨h3, h⟩ := of_chk h
  obtain ⟨r2, h4, h⟩ := of_bnd h
  replace h := Option.some.inj h
  subst h
  exact WM.retE mixed (e_F82 a0 (({ a0 with kept := ({ a0.saved with cursor := (term_cursor.mk r1 r2 a0.saved.cursor.pending) } : term_kept) } : term_TermO_2))) [R_ [o_, o_, o_, o_, o_, o_, o_, o_, o_, o_], R_ [o_, o_, o_, o_, o_, o_, o_, o_, o_, o_, o_, o_, o_, o_, c_ (mkCall Tryz.call104 (F104_ok h2) [] (by kernel_rfl) (by kernel_rfl)), o_, o_, o_, o_, o_, o_, o_, o_, o_, o_, o_, o_, c_ (mkCall Tryz.call104 (F104_ok h4) [] (by kernel_rfl) (by kernel_rfl)), o_, o_, o_, o_, o_, o_, o_, o_, o_, o_, o_, o_]] [some 0, some 1, some 2, some 3, some 4, some 5, some 6, some 7, some 8, some 9, some 10, some 11, some 12, some 13] (pc zlt1 <| pc zlt1 <| pc zlt1 <| pc zlt1 <| pc h1 <| pc zlt1 <| pc zlt1 <| pc h3 <| pc zlt1 <| pc zlt1 <| allP_nil) (by kernel_rfl) (by kernel_rfl)

/-! ### F24_1: function 24 (*tickertape/term.Term).reset -/
def F24_1 (f : Nat) (a0 : term_TermO_2) : Option (term_TermO_2) :=
  chk (inR (a0.rows - 1)) <|
  bnd (F38 f a0.rows a0.cols) fun r1 =>
  sm r1 (fun r2 =>
    none) (fun r3 =>
    bnd (F38 f a0.rows a0.cols) fun r4 =>
    sm r4 (fun r5 =>
      none) (fun r6 =>
      bnd (F39 f a0.cols) fun r7 =>
      sm r7 (fun r8 =>
        none) (fun r9 =>
        some ((term_TermO_2.mk (term_kept.mk (term_cursor.mk 0 0 false) (cell_Attr.mk 0 0 0) false) r3.1 r6.1 0 0 (a0.rows - 1) r9.1 false false false false [] (term_kept.mk (term_cursor.mk 0 0 false) (cell_Attr.mk 0 0 0) false) a0.rows a0.cols a0.signs a0.asks a0.reply_n a0.reply a0.bells)))))
def v_F24_1 (a0 : term_TermO_2) (y : term_TermO_2) : V :=
  .tup []
def e_F24_1 (a0 : term_TermO_2) (y : term_TermO_2) : Env :=
  []
def x_F24_1 (a0 : term_TermO_2) (y : term_TermO_2) : List (Option Blk) :=
  [some (B_term_TermO_2 14 16 18 7 9 13 y), none, none, none, none, none, none, some (B_utf_DecoderO 8 y.signs), some (intB .u8 y.signs.b), some (B_esc_ParserO 10 11 12 y.asks), some (intB .i64 y.asks.params), some (intB .i32 y.asks.text), some (blk_esc_Event y.asks.out), some (intB .u8 y.reply), some (B_grid_GridO 15 y.grids_0), some (blk_cell_Cell y.grids_0.l), some (B_grid_GridO 17 y.grids_1), some (blk_cell_Cell y.grids_1.l), some (B_tabs_StopsO_1 19 y.stops), some (boolB y.stops.at_)]
set_option maxRecDepth 100000 in
set_option maxHeartbeats 4000000 in
theorem F24_1_ok {f : Nat} {a0 : term_TermO_2} {y : term_TermO_2} (h : F24_1 f a0 = some y) :
    Spec Tryz.prog G0 24 [.p 0 0 0] [some (B_term_TermO_2 1 3 5 7 9 13 a0), some (B_grid_GridO 2 a0.grids_0), some (blk_cell_Cell a0.grids_0.l), some (B_grid_GridO 4 a0.grids_1), some (blk_cell_Cell a0.grids_1.l), some (B_tabs_StopsO_1 6 a0.stops), some (boolB a0.stops.at_), some (B_utf_DecoderO 8 a0.signs), some (intB .u8 a0.signs.b), some (B_esc_ParserO 10 11 12 a0.asks), some (intB .i64 a0.asks.params), some (intB .i32 a0.asks.text), some (blk_esc_Event a0.asks.out), some (intB .u8 a0.reply)] (v_F24_1 a0 y) (x_F24_1 a0 y) :=
  Spec.ofM (fn := Tryz.f24) (c := bodyOf Tryz.f24) (n := 46) (rs := Tryz.f24.results.toList) Tryz.func24 (by kernel_rfl) (by kernel_rfl) (by kernel_rfl) (by kernel_rfl) fun cx => by
  unfold F24_1 at h
  obtain ⟨h1, h⟩ := of_chk h
  obtain ⟨r1, h2, h⟩ := of_bnd h
  rcases of_sm h with ⟨r2, rfl, h⟩ | ⟨r3, rfl, h⟩
  · cases h
  · obtain ⟨r4, h3, h⟩ := of_bnd h
    rcases of_sm h with ⟨r5, rfl, h⟩ | ⟨r6, rfl, h⟩
    · cases h
    · obtain ⟨r7, h4, h⟩ := of_bnd h
      rcases of_sm h with ⟨r8, rfl, h⟩ | ⟨r9, rfl, h⟩
      · cases h
      · replace h := Option.some.inj h
        subst h
        exact WM.retE mixed (e_F24_1 a0 ((term_TermO_2.mk (term_kept.mk (term_cursor.mk 0 0 false) (cell_Attr.mk 0 0 0) false) r3.1 r6.1 0 0 (a0.rows - 1) r9.1 false false false false [] (term_kept.mk (term_cursor.mk 0 0 false) (cell_Attr.mk 0 0 0) false) a0.rows a0.cols a0.signs a0.asks a0.reply_n a0.reply a0.bells))) [R_ [o_, o_, o_, o_, o_, o_, o_, o_, o_, o_], R_ [o_], .un 64, R_ [o_], T_, R_ [o_, o_], R_ [o_, o_, o_, o_, o_, o_, o_, o_, o_, o_, c_ (mkCall Tryz.call38 (F38_ok h2) [14, 15] (by kernel_rfl) (by kernel_rfl)), o_, o_, o_, o_, o_, o_, o_, o_], R_ [o_, o_], R_ [o_], T_, R_ [o_, o_], R_ [o_, o_, o_, o_, o_, o_, o_, o_, o_, o_, c_ (mkCall Tryz.call38 (F38_ok h3) [16, 17] (by kernel_rfl) (by kernel_rfl)), o_, o_, o_, o_, o_, o_, o_, o_], R_ [o_, o_], R_ [o_], F_, R_ [o_, o_, o_, o_, o_, c_ (mkCall Tryz.call39 (F39_ok h4) [18, 19] (by kernel_rfl) (by kernel_rfl)), o_, o_, o_, o_, o_, o_, o_]] [some 0, some 1, some 2, some 3, some 4, some 5, some 6, some 7, some 8, some 9, some 10, some 11, some 12, some 13, some 14, some 15, some 16, some 17, some 18, some 19] (pc zlt1 <| pc h1 <| pc zlt1 <| pc ((rfl : true = true)) <| pc zlt1 <| pc zlt1 <| pc ((by decide : (0 : Int) ≤ 0)) <| pc ((by decide : (0 : Int) < 2)) <| pc zlt1 <| pc ((by decide : inR 1)) <| pc ((rfl : true = true)) <| pc zlt1 <| pc zlt1 <| pc ((by decide : (0 : Int) ≤ 1)) <| pc ((by decide : (1 : Int) < 2)) <| pc zlt1 <| pc ((by decide : inR 2)) <| pc ((rfl : false = false)) <| pc zlt1 <| pc zlt1 <| allP_nil) (by kernel_rfl) (by kernel_rfl)

/-! ### F44: function 44 (*tickertape/term.Term).escapes -/
def F44_p1 (f : Nat) (a1 : esc_Event) (a0_1 : term_TermO_2) : Option (term_TermO_2) :=
  ifb ((!(decide (a1.Inter = 0)))) (
    some (a0_1)) (
    ifb (decide (a1.Final = 68)) (
      bnd (F76 f a0_1) fun r10 =>
      some (r10)) (
      ifb (decide (a1.Final = 69)) (
        bnd (F71 f a0_1) fun r11 =>
        some (r11)) (
        ifb (decide (a1.Final = 77)) (
          bnd (F80 f a0_1) fun r12 =>
          some (r12)) (
          ifb (decide (a1.Final = 72)) (
            bnd (F81 f a0_1.stops a0_1.kept.cursor.col) fun r13 =>
            some (({ a0_1 with stops := r13.1 } : term_TermO_2))) (
            ifb (decide (a1.Final = 55)) (
              some (({ a0_1 with saved := a0_1.kept } : term_TermO_2))) (
              ifb (decide (a1.Final = 56)) (
                bnd (F82 f a0_1) fun r14 =>
                some (r14)) (
                ifb (decide (a1.Final = 99)) (
                  bnd (F24_1 f a0_1) fun r15 =>
                  some (r15)) (
                  some (a0_1)))))))))
def F44 (f : Nat) (a0 : term_TermO_2) (a1 : esc_Event) : Option (term_TermO_2) :=
  ifb ((decide (a1.Inter = 35) && decide (a1.Final = 56))) (
    bnd (F28 f a0) fun r1 =>
    sm r1 (fun r2 =>
      bnd (F77 f a0.grids_0 (cell_Cell.mk 69 (cell_Attr.mk 0 0 0) 0)) fun r4 =>
      bnd (F78 f ({ a0 with grids_0 := r4 } : term_TermO_2)) fun r5 =>
      bnd (F79 f r5 0 0) fun r6 =>
      F44_p1 f a1 r6) (fun r3 =>
      bnd (F77 f a0.grids_1 (cell_Cell.mk 69 (cell_Attr.mk 0 0 0) 0)) fun r7 =>
      bnd (F78 f ({ a0 with grids_1 := r7 } : term_TermO_2)) fun r8 =>
      bnd (F79 f r8 0 0) fun r9 =>
      F44_p1 f a1 r9)) (
    F44_p1 f a1 a0)
def v_F44 (a0 : term_TermO_2) (a1 : esc_Event) (y : term_TermO_2) : V :=
  .tup []
def e_F44 (a0 : term_TermO_2) (a1 : esc_Event) (y : term_TermO_2) : Env :=
  []
def x_F44 (a0 : term_TermO_2) (a1 : esc_Event) (y : term_TermO_2) : List (Option Blk) :=
  [some (B_term_TermO_2 14 16 18 7 9 13 y), none, none, none, none, none, none, some (B_utf_DecoderO 8 y.signs), some (intB .u8 y.signs.b), some (B_esc_ParserO 10 11 12 y.asks), some (intB .i64 y.asks.params), some (intB .i32 y.asks.text), some (blk_esc_Event y.asks.out), some (intB .u8 y.reply), some (B_grid_GridO 15 y.grids_0), some (blk_cell_Cell y.grids_0.l), some (B_grid_GridO 17 y.grids_1), some (blk_cell_Cell y.grids_1.l), some (B_tabs_StopsO_1 19 y.stops), some (boolB y.stops.at_)]
set_option maxRecDepth 100000 in
set_option maxHeartbeats 4000000 in
theorem F44_p1_ok {cx : Cx} {f : Nat} {a0 : term_TermO_2} {a1 : esc_Event} {a0_1 : term_TermO_2} {y : term_TermO_2} (h : F44_p1 f a1 a0_1 = some y) :
    WM Tryz.prog G0 71 14 Tryz.f44.results.toList (v_F44 a0 a1 y) (x_F44 a0 a1 y) cx (nav [.r, .r, .t, .r, .r, .r, .n] [.code (bodyOf Tryz.f44)]) [(0, ⟨none, .p 0 0 0⟩), (3, ⟨none, .p 14 0 0⟩)] [some (B_term_TermO_2 1 3 5 7 9 13 a0_1), some (B_grid_GridO 2 a0_1.grids_0), some (blk_cell_Cell a0_1.grids_0.l), some (B_grid_GridO 4 a0_1.grids_1), some (blk_cell_Cell a0_1.grids_1.l), some (B_tabs_StopsO_1 6 a0_1.stops), some (boolB a0_1.stops.at_), some (B_utf_DecoderO 8 a0_1.signs), some (intB .u8 a0_1.signs.b), some (B_esc_ParserO 10 11 12 a0_1.asks), some (intB .i64 a0_1.asks.params), some (intB .i32 a0_1.asks.text), some (blk_esc_Event a0_1.asks.out), some (intB .u8 a0_1.reply), some (blk_esc_Event [a1])] := by
  unfold F44_p1 at h
  rcases of_ifb h with ⟨h9, h⟩ | ⟨h9, h⟩
  · replace h := Option.some.inj h
    subst h
    exact WM.retE mixed (e_F44 a0 a1 (a0_1)) [R_ [o_, o_, o_], T_] [some 0, some 1, some 2, some 3, some 4, some 5, some 6, some 7, some 8, some 9, some 10, some 11, some 12, some 13, some 1, some 2, some 3, some 4, some 5, some 6] (pc zlt1 <| pc ((h9 : (!(decide (a1.Inter = 0))) = true)) <| allP_nil) (by kernel_rfl) (by kernel_rfl)
  · rcases of_ifb h with ⟨h10, h⟩ | ⟨h10, h⟩
    · obtain ⟨r10, h11, h⟩ := of_bnd h
      replace h := Option.some.inj h
      subst h
      exact WM.retE mixed (e_F44 a0 a1 (r10)) [R_ [o_, o_, o_], F_, R_ [o_, o_], R_ [o_, o_], T_, R_ [o_, c_ (mkCall Tryz.call76 (F76_ok h11) [0, 1, 2, 3, 4, 5, 6, 7, 8, 9, 10, 11, 12, 13] (by kernel_rfl) (by kernel_rfl))]] [some 0, some 1, some 2, some 3, some 4, some 5, some 6, some 7, some 8, some 9, some 10, some 11, some 12, some 13, some 1, some 2, some 3, some 4, some 5, some 6] (pc zlt1 <| pc ((h9 : (!(decide (a1.Inter = 0))) = false)) <| pc zlt1 <| pc ((h10 : decide (a1.Final = 68) = true)) <| allP_nil) (by kernel_rfl) (by kernel_rfl)
    · rcases of_ifb h with ⟨h12, h⟩ | ⟨h12, h⟩
      · obtain ⟨r11, h13, h⟩ := of_bnd h
        replace h := Option.some.inj h
        subst h
        exact WM.retE mixed (e_F44 a0 a1 (r11)) [R_ [o_, o_, o_], F_, R_ [o_, o_], R_ [o_, o_], F_, R_ [o_, o_], T_, R_ [o_, c_ (mkCall Tryz.call71 (F71_ok h13) [0, 1, 2, 3, 4, 5, 6, 7, 8, 9, 10, 11, 12, 13] (by kernel_rfl) (by kernel_rfl))]] [some 0, some 1, some 2, some 3, some 4, some 5, some 6, some 7, some 8, some 9, some 10, some 11, some 12, some 13, some 1, some 2, some 3, some 4, some 5, some 6] (pc zlt1 <| pc ((h9 : (!(decide (a1.Inter = 0))) = false)) <| pc zlt1 <| pc ((h10 : decide (a1.Final = 68) = false)) <| pc ((h12 : decide (a1.Final = 69) = true)) <| allP_nil) (by kernel_rfl) (by kernel_rfl)
      · rcases of_ifb h with ⟨h14, h⟩ | ⟨h14, h⟩
        · obtain ⟨r12, h15, h⟩ := of_bnd h
          replace h := Option.some.inj h
          subst h
          exact WM.retE mixed (e_F44 a0 a1 (r12)) [R_ [o_, o_, o_], F_, R_ [o_, o_], R_ [o_, o_], F_, R_ [o_, o_], F_, R_ [o_, o_], T_, R_ [o_, c_ (mkCall Tryz.call80 (F80_ok h15) [0, 1, 2, 3, 4, 5, 6, 7, 8, 9, 10, 11, 12, 13] (by kernel_rfl) (by kernel_rfl))]] [some 0, some 1, some 2, some 3, some 4, some 5, some 6, some 7, some 8, some 9, some 10, some 11, some 12, some 13, some 1, some 2, some 3, some 4, some 5, some 6] (pc zlt1 <| pc ((h9 : (!(decide (a1.Inter = 0))) = false)) <| pc zlt1 <| pc ((h10 : decide (a1.Final = 68) = false)) <| pc ((h12 : decide (a1.Final = 69) = false)) <| pc ((h14 : decide (a1.Final = 77) = true)) <| allP_nil) (by kernel_rfl) (by kernel_rfl)
        · rcases of_ifb h with ⟨h16, h⟩ | ⟨h16, h⟩
          · obtain ⟨r13, h17, h⟩ := of_bnd h
            replace h := Option.some.inj h
            subst h
            exact WM.retE mixed (e_F44 a0 a1 (({ a0_1 with stops := r13.1 } : term_TermO_2))) [R_ [o_, o_, o_], F_, R_ [o_, o_], R_ [o_, o_], F_, R_ [o_, o_], F_, R_ [o_, o_], F_, R_ [o_, o_], T_, R_ [o_, o_, o_, o_, o_, o_, o_, o_, o_, o_, o_, o_, c_ (mkCall Tryz.call81 (F81_ok h17) [5, 6] (by kernel_rfl) (by kernel_rfl))]] [some 0, some 1, some 2, some 3, some 4, some 5, some 6, some 7, some 8, some 9, some 10, some 11, some 12, some 13, some 1, some 2, some 3, some 4, some 5, some 6] (pc zlt1 <| pc ((h9 : (!(decide (a1.Inter = 0))) = false)) <| pc zlt1 <| pc ((h10 : decide (a1.Final = 68) = false)) <| pc ((h12 : decide (a1.Final = 69) = false)) <| pc ((h14 : decide (a1.Final = 77) = false)) <| pc ((h16 : decide (a1.Final = 72) = true)) <| pc zlt1 <| pc zlt1 <| allP_nil) (by kernel_rfl) (by kernel_rfl)
          · rcases of_ifb h with ⟨h18, h⟩ | ⟨h18, h⟩
            · replace h := Option.some.inj h
              subst h
              exact WM.retE mixed (e_F44 a0 a1 (({ a0_1 with saved := a0_1.kept } : term_TermO_2))) [R_ [o_, o_, o_], F_, R_ [o_, o_], R_ [o_, o_], F_, R_ [o_, o_], F_, R_ [o_, o_], F_, R_ [o_, o_], F_, R_ [o_, o_], T_, R_ [o_, o_, o_, o_, o_, o_, o_, o_, o_, o_]] [some 0, some 1, some 2, some 3, some 4, some 5, some 6, some 7, some 8, some 9, some 10, some 11, some 12, some 13, some 1, some 2, some 3, some 4, some 5, some 6] (pc zlt1 <| pc ((h9 : (!(decide (a1.Inter = 0))) = false)) <| pc zlt1 <| pc ((h10 : decide (a1.Final = 68) = false)) <| pc ((h12 : decide (a1.Final = 69) = false)) <| pc ((h14 : decide (a1.Final = 77) = false)) <| pc ((h16 : decide (a1.Final = 72) = false)) <| pc ((h18 : decide (a1.Final = 55) = true)) <| pc zlt1 <| pc zlt1 <| allP_nil) (by kernel_rfl) (by kernel_rfl)
            · rcases of_ifb h with ⟨h19, h⟩ | ⟨h19, h⟩
              · obtain ⟨r14, h20, h⟩ := of_bnd h
                replace h := Option.some.inj h
                subst h
                exact WM.retE mixed (e_F44 a0 a1 (r14)) [R_ [o_, o_, o_], F_, R_ [o_, o_], R_ [o_, o_], F_, R_ [o_, o_], F_, R_ [o_, o_], F_, R_ [o_, o_], F_, R_ [o_, o_], F_, R_ [o_, o_], T_, R_ [o_, c_ (mkCall Tryz.call82 (F82_ok h20) [0, 1, 2, 3, 4, 5, 6, 7, 8, 9, 10, 11, 12, 13] (by kernel_rfl) (by kernel_rfl))]] [some 0, some 1, some 2, some 3, some 4, some 5, some 6, some 7, some 8, some 9, some 10, some 11, some 12, some 13, some 1, some 2, some 3, some 4, some 5, some 6] (pc zlt1 <| pc ((h9 : (!(decide (a1.Inter = 0))) = false)) <| pc zlt1 <| pc ((h10 : decide (a1.Final = 68) = false)) <| pc ((h12 : decide (a1.Final = 69) = false)) <| pc ((h14 : decide (a1.Final = 77) = false)) <| pc ((h16 : decide (a1.Final = 72) = false)) <| pc ((h18 : decide (a1.Final = 55) = false)) <| pc ((h19 : decide (a1.Final = 56) = true)) <| allP_nil) (by kernel_rfl) (by kernel_rfl)
              · rcases of_ifb h with ⟨h21, h⟩ | ⟨h21, h⟩
                · obtain ⟨r15, h22, h⟩ := of_bnd h
                  replace h := Option.some.inj h
                  subst h
                  exact WM.retE mixed (e_F44 a0 a1 (r15)) [R_ [o_, o_, o_], F_, R_ [o_, o_], R_ [o_, o_], F_, R_ [o_, o_], F_, R_ [o_, o_], F_, R_ [o_, o_], F_, R_ [o_, o_], F_, R_ [o_, o_], F_, R_ [o_, o_], T_, R_ [o_, c_ (mkCall Tryz.call24 (F24_1_ok h22) [0, 1, 2, 3, 4, 5, 6, 7, 8, 9, 10, 11, 12, 13, 15, 16, 17, 18, 19, 20] (by kernel_rfl) (by kernel_rfl))]] [some 0, some 1, some 2, some 3, some 4, some 5, some 6, some 7, some 8, some 9, some 10, some 11, some 12, some 13, some 15, some 16, some 17, some 18, some 19, some 20] (pc zlt1 <| pc ((h9 : (!(decide (a1.Inter = 0))) = false)) <| pc zlt1 <| pc ((h10 : decide (a1.Final = 68) = false)) <| pc ((h12 : decide (a1.Final = 69) = false)) <| pc ((h14 : decide (a1.Final = 77) = false)) <| pc ((h16 : decide (a1.Final = 72) = false)) <| pc ((h18 : decide (a1.Final = 55) = false)) <| pc ((h19 : decide (a1.Final = 56) = false)) <| pc ((h21 : decide (a1.Final = 99) = true)) <| allP_nil) (by kernel_rfl) (by kernel_rfl)
                · replace h := Option.some.inj h
                  subst h
                  exact WM.retE mixed (e_F44 a0 a1 (a0_1)) [R_ [o_, o_, o_], F_, R_ [o_, o_], R_ [o_, o_], F_, R_ [o_, o_], F_, R_ [o_, o_], F_, R_ [o_, o_], F_, R_ [o_, o_], F_, R_ [o_, o_], F_, R_ [o_, o_], F_] [some 0, some 1, some 2, some 3, some 4, some 5, some 6, some 7, some 8, some 9, some 10, some 11, some 12, some 13, some 1, some 2, some 3, some 4, some 5, some 6] (pc zlt1 <| pc ((h9 : (!(decide (a1.Inter = 0))) = false)) <| pc zlt1 <| pc ((h10 : decide (a1.Final = 68) = false)) <| pc ((h12 : decide (a1.Final = 69) = false)) <| pc ((h14 : decide (a1.Final = 77) = false)) <| pc ((h16 : decide (a1.Final = 72) = false)) <| pc ((h18 : decide (a1.Final = 55) = false)) <| pc ((h19 : decide (a1.Final = 56) = false)) <| pc ((h21 : decide (a1.Final = 99) = false)) <| allP_nil) (by kernel_rfl) (by kernel_rfl)
set_option maxRecDepth 100000 in
set_option maxHeartbeats 4000000 in
theorem F44_ok {f : Nat} {a0 : term_TermO_2} {a1 : esc_Event} {y : term_TermO_2} (h : F44 f a0 a1 = some y) :
    Spec Tryz.prog G0 44 [.p 0 0 0, .agg [.i .i64 a1.Kind, .i .i32 a1.Rune, .ro Int 1 (fun n => [.i .i64 n]) 0 a1.Params, .i .i32 a1.Private, .i .i32 a1.Inter, .i .i32 a1.Final, .s a1.Text]] [some (B_term_TermO_2 1 3 5 7 9 13 a0), some (B_grid_GridO 2 a0.grids_0), some (blk_cell_Cell a0.grids_0.l), some (B_grid_GridO 4 a0.grids_1), some (blk_cell_Cell a0.grids_1.l), some (B_tabs_StopsO_1 6 a0.stops), some (boolB a0.stops.at_), some (B_utf_DecoderO 8 a0.signs), some (intB .u8 a0.signs.b), some (B_esc_ParserO 10 11 12 a0.asks), some (intB .i64 a0.asks.params), some (intB .i32 a0.asks.text), some (blk_esc_Event a0.asks.out), some (intB .u8 a0.reply)] (v_F44 a0 a1 y) (x_F44 a0 a1 y) :=
  Spec.ofM (fn := Tryz.f44) (c := bodyOf Tryz.f44) (n := 71) (rs := Tryz.f44.results.toList) Tryz.func44 (by kernel_rfl) (by kernel_rfl) (by kernel_rfl) (by kernel_rfl) fun cx => by
  unfold F44 at h
  rcases of_ifb h with ⟨h1, h⟩ | ⟨h1, h⟩
  · obtain ⟨r1, h2, h⟩ := of_bnd h
    rcases of_sm h with ⟨r2, rfl, h⟩ | ⟨r3, rfl, h⟩
    · obtain ⟨r4, h3, h⟩ := of_bnd h
      obtain ⟨r5, h4, h⟩ := of_bnd h
      obtain ⟨r6, h5, h⟩ := of_bnd h
      exact WM.cut mixed [R_ [.op (.fresh 14 ((⟨esc_Event, 7, enc_esc_Event, (fun _ => a1), zero_esc_Event, [a1]⟩ : Blk)))], R_ [o_, o_, o_, o_, o_, o_, o_, o_], T_, R_ [o_, c_ (mkCall Tryz.call28 (F28_ok h2) [0, 1, 2, 3, 4, 5, 6, 7, 8, 9, 10, 11, 12, 13] (by kernel_rfl) (by kernel_rfl)), o_, c_ (mkCall Tryz.call77 (F77_ok h3) [1, 2] (by kernel_rfl) (by kernel_rfl))], R_ [o_, c_ (mkCall Tryz.call78 (F78_ok h4) [0, 1, 2, 3, 4, 5, 6, 7, 8, 9, 10, 11, 12, 13] (by kernel_rfl) (by kernel_rfl))], R_ [o_, c_ (mkCall Tryz.call79 (F79_ok h5) [0, 1, 2, 3, 4, 5, 6, 7, 8, 9, 10, 11, 12, 13] (by kernel_rfl) (by kernel_rfl))]] [some 0, some 1, some 2, some 3, some 4, some 5, some 6, some 7, some 8, some 9, some 10, some 11, some 12, some 13, some 14] (pc zlt1 <| pc ((fun h => h : (decide (a1.Inter = 35) = true → decide (a1.Inter = 35) = true))) <| pc ((fun _ => zlt1 : (decide (a1.Inter = 35) = true → 0 < 1))) <| pc ((fun h => h : (decide (a1.Inter = 35) = true → decide (a1.Inter = 35) = true))) <| pc ((fun k2 => k2 : (decide (a1.Inter = 35) = true → decide (a1.Inter = 35) = true))) <| pc ((h1 : (decide (a1.Inter = 35) && decide (a1.Final = 56)) = true)) <| allP_nil) (F44_p1_ok h) (by kernel_rfl)
    · obtain ⟨r7, h6, h⟩ := of_bnd h
      obtain ⟨r8, h7, h⟩ := of_bnd h
      obtain ⟨r9, h8, h⟩ := of_bnd h
      exact WM.cut mixed [R_ [.op (.fresh 14 ((⟨esc_Event, 7, enc_esc_Event, (fun _ => a1), zero_esc_Event, [a1]⟩ : Blk)))], R_ [o_, o_, o_, o_, o_, o_, o_, o_], T_, R_ [o_, c_ (mkCall Tryz.call28 (F28_ok h2) [0, 1, 2, 3, 4, 5, 6, 7, 8, 9, 10, 11, 12, 13] (by kernel_rfl) (by kernel_rfl)), o_, c_ (mkCall Tryz.call77 (F77_ok h6) [3, 4] (by kernel_rfl) (by kernel_rfl))], R_ [o_, c_ (mkCall Tryz.call78 (F78_ok h7) [0, 1, 2, 3, 4, 5, 6, 7, 8, 9, 10, 11, 12, 13] (by kernel_rfl) (by kernel_rfl))], R_ [o_, c_ (mkCall Tryz.call79 (F79_ok h8) [0, 1, 2, 3, 4, 5, 6, 7, 8, 9, 10, 11, 12, 13] (by kernel_rfl) (by kernel_rfl))]] [some 0, some 1, some 2, some 3, some 4, some 5, some 6, some 7, some 8, some 9, some 10, some 11, some 12, some 13, some 14] (pc zlt1 <| pc ((fun h => h : (decide (a1.Inter = 35) = true → decide (a1.Inter = 35) = true))) <| pc ((fun _ => zlt1 : (decide (a1.Inter = 35) = true → 0 < 1))) <| pc ((fun h => h : (decide (a1.Inter = 35) = true → decide (a1.Inter = 35) = true))) <| pc ((fun k2 => k2 : (decide (a1.Inter = 35) = true → decide (a1.Inter = 35) = true))) <| pc ((h1 : (decide (a1.Inter = 35) && decide (a1.Final = 56)) = true)) <| allP_nil) (F44_p1_ok h) (by kernel_rfl)
  · exact WM.cut mixed [R_ [.op (.fresh 14 ((⟨esc_Event, 7, enc_esc_Event, (fun _ => a1), zero_esc_Event, [a1]⟩ : Blk)))], R_ [o_, o_, o_, o_, o_, o_, o_, o_], F_] [some 0, some 1, some 2, some 3, some 4, some 5, some 6, some 7, some 8, some 9, some 10, some 11, some 12, some 13, some 14] (pc zlt1 <| pc ((fun h => h : (decide (a1.Inter = 35) = true → decide (a1.Inter = 35) = true))) <| pc ((fun _ => zlt1 : (decide (a1.Inter = 35) = true → 0 < 1))) <| pc ((fun h => h : (decide (a1.Inter = 35) = true → decide (a1.Inter = 35) = true))) <| pc ((fun k2 => k2 : (decide (a1.Inter = 35) = true → decide (a1.Inter = 35) = true))) <| pc ((h1 : (decide (a1.Inter = 35) && decide (a1.Final = 56)) = false)) <| allP_nil) (F44_p1_ok h) (by kernel_rfl)

/-! ### F84: function 84 tickertape/term.param -/
def F84 (f : Nat) (a0 : esc_Event) (a1 : Int) (a2 : Int) : Option (Int) :=
  chk (((!(decide (a1 ≥ ((a0.Params.length : Nat) : Int)))) = true → 0 ≤ a1)) <|
  chk (((!(decide (a1 ≥ ((a0.Params.length : Nat) : Int)))) = true → a1 < ((a0.Params.length : Nat) : Int))) <|
  chk (((!(decide (a1 ≥ ((a0.Params.length : Nat) : Int)))) = true → a1.toNat < a0.Params.length)) <|
  ifb ((decide (a1 ≥ ((a0.Params.length : Nat) : Int)) || decide ((a0.Params.getD a1.toNat 0) < 1))) (
    some (a2)) (
    chk (0 ≤ a1) <|
    chk (a1 < ((a0.Params.length : Nat) : Int)) <|
    chk (a1.toNat < a0.Params.length) <|
    some ((a0.Params.getD a1.toNat 0)))
def v_F84 (a0 : esc_Event) (a1 : Int) (a2 : Int) (y : Int) : V :=
  .i .i64 y
def e_F84 (a0 : esc_Event) (a1 : Int) (a2 : Int) (y : Int) : Env :=
  [(6, ⟨none, .i .i64 y⟩)]
def x_F84 (a0 : esc_Event) (a1 : Int) (a2 : Int) (y : Int) : List (Option Blk) :=
  []
set_option maxRecDepth 100000 in
set_option maxHeartbeats 4000000 in
theorem F84_ok {f : Nat} {a0 : esc_Event} {a1 : Int} {a2 : Int} {y : Int} (h : F84 f a0 a1 a2 = some y) :
    Spec Tryz.prog G0 84 [.agg [.i .i64 a0.Kind, .i .i32 a0.Rune, .ro Int 1 (fun n => [.i .i64 n]) 0 a0.Params, .i .i32 a0.Private, .i .i32 a0.Inter, .i .i32 a0.Final, .s a0.Text], .i .i64 a1, .i .i64 a2] [] (v_F84 a0 a1 a2 y) (x_F84 a0 a1 a2 y) :=
  Spec.ofM (fn := Tryz.f84) (c := bodyOf Tryz.f84) (n := 26) (rs := Tryz.f84.results.toList) Tryz.func84 (by kernel_rfl) (by kernel_rfl) (by kernel_rfl) (by kernel_rfl) fun cx => by
  unfold F84 at h
  obtain ⟨h1, h⟩ := of_chk h
  obtain ⟨h2, h⟩ := of_chk h
  obtain ⟨h3, h⟩ := of_chk h
  rcases of_ifb h with ⟨h4, h⟩ | ⟨h4, h⟩
  · replace h := Option.some.inj h
    subst h
    exact WM.retE mixed (e_F84 a0 a1 a2 (a2)) [R_ [.op (.fresh 0 ((⟨esc_Event, 7, enc_esc_Event, (fun _ => a0), zero_esc_Event, [a0]⟩ : Blk))), o_], R_ [o_, o_, o_, o_, o_, o_, o_, o_, o_, o_, o_, o_, o_], T_, R_ [o_, o_]] [] (pc zlt1 <| pc ((fun h => h : ((!(decide (a1 ≥ ((a0.Params.length : Nat) : Int)))) = true → (!(decide (a1 ≥ ((a0.Params.length : Nat) : Int)))) = true))) <| pc ((fun _ => zlt1 : ((!(decide (a1 ≥ ((a0.Params.length : Nat) : Int)))) = true → 0 < 1))) <| pc ((fun h => h : ((!(decide (a1 ≥ ((a0.Params.length : Nat) : Int)))) = true → (!(decide (a1 ≥ ((a0.Params.length : Nat) : Int)))) = true))) <| pc ((fun h => h : ((!(decide (a1 ≥ ((a0.Params.length : Nat) : Int)))) = true → (!(decide (a1 ≥ ((a0.Params.length : Nat) : Int)))) = true))) <| pc h1 <| pc h2 <| pc ((fun h => h : ((!(decide (a1 ≥ ((a0.Params.length : Nat) : Int)))) = true → (!(decide (a1 ≥ ((a0.Params.length : Nat) : Int)))) = true))) <| pc h3 <| pc ((fun h => h : ((!(decide (a1 ≥ ((a0.Params.length : Nat) : Int)))) = true → (!(decide (a1 ≥ ((a0.Params.length : Nat) : Int)))) = true))) <| pc ((fun k2 => (not_t k2) : (decide (a1 ≥ ((a0.Params.length : Nat) : Int)) = false → (!(decide (a1 ≥ ((a0.Params.length : Nat) : Int)))) = true))) <| pc ((h4 : (decide (a1 ≥ ((a0.Params.length : Nat) : Int)) || decide ((a0.Params.getD a1.toNat 0) < 1)) = true)) <| allP_nil) (by kernel_rfl) (by kernel_rfl)
  · obtain ⟨h5, h⟩ := of_chk h
    obtain ⟨h6, h⟩ := of_chk h
    obtain ⟨h7, h⟩ := of_chk h
    replace h := Option.some.inj h
    subst h
    exact WM.retE mixed (e_F84 a0 a1 a2 ((a0.Params.getD a1.toNat 0))) [R_ [.op (.fresh 0 ((⟨esc_Event, 7, enc_esc_Event, (fun _ => a0), zero_esc_Event, [a0]⟩ : Blk))), o_], R_ [o_, o_, o_, o_, o_, o_, o_, o_, o_, o_, o_, o_, o_], F_, R_ [o_, o_, o_, o_, o_, o_]] [] (pc zlt1 <| pc ((fun h => h : ((!(decide (a1 ≥ ((a0.Params.length : Nat) : Int)))) = true → (!(decide (a1 ≥ ((a0.Params.length : Nat) : Int)))) = true))) <| pc ((fun _ => zlt1 : ((!(decide (a1 ≥ ((a0.Params.length : Nat) : Int)))) = true → 0 < 1))) <| pc ((fun h => h : ((!(decide (a1 ≥ ((a0.Params.length : Nat) : Int)))) = true → (!(decide (a1 ≥ ((a0.Params.length : Nat) : Int)))) = true))) <| pc ((fun h => h : ((!(decide (a1 ≥ ((a0.Params.length : Nat) : Int)))) = true → (!(decide (a1 ≥ ((a0.Params.length : Nat) : Int)))) = true))) <| pc h1 <| pc h2 <| pc ((fun h => h : ((!(decide (a1 ≥ ((a0.Params.length : Nat) : Int)))) = true → (!(decide (a1 ≥ ((a0.Params.length : Nat) : Int)))) = true))) <| pc h3 <| pc ((fun h => h : ((!(decide (a1 ≥ ((a0.Params.length : Nat) : Int)))) = true → (!(decide (a1 ≥ ((a0.Params.length : Nat) : Int)))) = true))) <| pc ((fun k2 => (not_t k2) : (decide (a1 ≥ ((a0.Params.length : Nat) : Int)) = false → (!(decide (a1 ≥ ((a0.Params.length : Nat) : Int)))) = true))) <| pc ((h4 : (decide (a1 ≥ ((a0.Params.length : Nat) : Int)) || decide ((a0.Params.getD a1.toNat 0) < 1)) = false)) <| pc zlt1 <| pc h5 <| pc h6 <| pc h7 <| allP_nil) (by kernel_rfl) (by kernel_rfl)

/-! ### F109: function 109 (*tickertape/term.Term).up -/
def F109_p1 (f : Nat) (a0 : term_TermO_2) (a1 : Int) (x4_1 : Int) : Option (term_TermO_2) :=
  chk (inR (a0.kept.cursor.row - a1)) <|
  bnd (F74 f a0 (imax (a0.kept.cursor.row - a1) x4_1) a0.kept.cursor.col) fun r1 =>
  some (r1)
def F109 (f : Nat) (a0 : term_TermO_2) (a1 : Int) : Option (term_TermO_2) :=
  ifb ((decide (a0.kept.cursor.row ≥ a0.top) && decide (a0.kept.cursor.row ≤ a0.bottom))) (
    F109_p1 f a0 a1 a0.top) (
    F109_p1 f a0 a1 0)
def v_F109 (a0 : term_TermO_2) (a1 : Int) (y : term_TermO_2) : V :=
  .tup []
def e_F109 (a0 : term_TermO_2) (a1 : Int) (y : term_TermO_2) : Env :=
  []
def x_F109 (a0 : term_TermO_2) (a1 : Int) (y : term_TermO_2) : List (Option Blk) :=
  [some (B_term_TermO_2 1 3 5 7 9 13 y), some (B_grid_GridO 2 y.grids_0), some (blk_cell_Cell y.grids_0.l), some (B_grid_GridO 4 y.grids_1), some (blk_cell_Cell y.grids_1.l), some (B_tabs_StopsO_1 6 y.stops), some (boolB y.stops.at_), some (B_utf_DecoderO 8 y.signs), some (intB .u8 y.signs.b), some (B_esc_ParserO 10 11 12 y.asks), some (intB .i64 y.asks.params), some (intB .i32 y.asks.text), some (blk_esc_Event y.asks.out), some (intB .u8 y.reply)]
set_option maxRecDepth 100000 in
set_option maxHeartbeats 4000000 in
theorem F109_p1_ok {cx : Cx} {f : Nat} {a0 : term_TermO_2} {a1 : Int} {x4_1 : Int} {y : term_TermO_2} (h : F109_p1 f a0 a1 x4_1 = some y) :
    WM Tryz.prog G0 58 14 Tryz.f109.results.toList (v_F109 a0 a1 y) (x_F109 a0 a1 y) cx (nav [.r, .r, .t, .r, .n] [.code (bodyOf Tryz.f109)]) [(0, ⟨none, .p 0 0 0⟩), (1, ⟨none, .i .i64 a1⟩), (4, ⟨none, .i .i64 x4_1⟩)] [some (B_term_TermO_2 1 3 5 7 9 13 a0), some (B_grid_GridO 2 a0.grids_0), some (blk_cell_Cell a0.grids_0.l), some (B_grid_GridO 4 a0.grids_1), some (blk_cell_Cell a0.grids_1.l), some (B_tabs_StopsO_1 6 a0.stops), some (boolB a0.stops.at_), some (B_utf_DecoderO 8 a0.signs), some (intB .u8 a0.signs.b), some (B_esc_ParserO 10 11 12 a0.asks), some (intB .i64 a0.asks.params), some (intB .i32 a0.asks.text), some (blk_esc_Event a0.asks.out), some (intB .u8 a0.reply)] := by
  unfold F109_p1 at h
  obtain ⟨h2, h⟩ := of_chk h
  obtain ⟨r1, h3, h⟩ := of_bnd h
  replace h := Option.some.inj h
  subst h
  exact WM.retE mixed (e_F109 a0 a1 (r1)) [R_ [o_, o_, o_, o_, o_, o_, o_, o_, o_, o_, o_, o_, o_, o_, o_, o_, o_, o_, o_, c_ (mkCall Tryz.call74 (F74_ok h3) [0, 1, 2, 3, 4, 5, 6, 7, 8, 9, 10, 11, 12, 13] (by kernel_rfl) (by kernel_rfl))]] [some 0, some 1, some 2, some 3, some 4, some 5, some 6, some 7, some 8, some 9, some 10, some 11, some 12, some 13] (pc zlt1 <| pc h2 <| pc zlt1 <| allP_nil) (by kernel_rfl) (by kernel_rfl)
set_option maxRecDepth 100000 in
set_option maxHeartbeats 4000000 in
theorem F109_ok {f : Nat} {a0 : term_TermO_2} {a1 : Int} {y : term_TermO_2} (h : F109 f a0 a1 = some y) :
    Spec Tryz.prog G0 109 [.p 0 0 0, .i .i64 a1] [some (B_term_TermO_2 1 3 5 7 9 13 a0), some (B_grid_GridO 2 a0.grids_0), some (blk_cell_Cell a0.grids_0.l), some (B_grid_GridO 4 a0.grids_1), some (blk_cell_Cell a0.grids_1.l), some (B_tabs_StopsO_1 6 a0.stops), some (boolB a0.stops.at_), some (B_utf_DecoderO 8 a0.signs), some (intB .u8 a0.signs.b), some (B_esc_ParserO 10 11 12 a0.asks), some (intB .i64 a0.asks.params), some (intB .i32 a0.asks.text), some (blk_esc_Event a0.asks.out), some (intB .u8 a0.reply)] (v_F109 a0 a1 y) (x_F109 a0 a1 y) :=
  Spec.ofM (fn := Tryz.f109) (c := bodyOf Tryz.f109) (n := 58) (rs := Tryz.f109.results.toList) Tryz.func109 (by kernel_rfl) (by kernel_rfl) (by kernel_rfl) (by kernel_rfl) fun cx => by
  unfold F109 at h
  rcases of_ifb h with ⟨h1, h⟩ | ⟨h1, h⟩
  · exact WM.cut mixed [R_ [o_], R_ [o_, o_, o_, o_, o_, o_, o_, o_, o_, o_, o_, o_, o_, o_, o_, o_, o_, o_, o_, o_, o_, o_, o_, o_, o_, o_, o_, o_], T_, R_ [o_, o_, o_, o_, o_, o_]] [some 0, some 1, some 2, some 3, some 4, some 5, some 6, some 7, some 8, some 9, some 10, some 11, some 12, some 13] (pc zlt1 <| pc zlt1 <| pc ((fun h => h : (decide (a0.kept.cursor.row ≥ a0.top) = true → decide (a0.kept.cursor.row ≥ a0.top) = true))) <| pc ((fun h => h : (decide (a0.kept.cursor.row ≥ a0.top) = true → decide (a0.kept.cursor.row ≥ a0.top) = true))) <| pc ((fun h => h : (decide (a0.kept.cursor.row ≥ a0.top) = true → decide (a0.kept.cursor.row ≥ a0.top) = true))) <| pc ((fun h => h : (decide (a0.kept.cursor.row ≥ a0.top) = true → decide (a0.kept.cursor.row ≥ a0.top) = true))) <| pc ((fun h => h : (decide (a0.kept.cursor.row ≥ a0.top) = true → decide (a0.kept.cursor.row ≥ a0.top) = true))) <| pc ((fun h => h : (decide (a0.kept.cursor.row ≥ a0.top) = true → decide (a0.kept.cursor.row ≥ a0.top) = true))) <| pc ((fun _ => zlt1 : (decide (a0.kept.cursor.row ≥ a0.top) = true → 0 < 1))) <| pc ((fun h => h : (decide (a0.kept.cursor.row ≥ a0.top) = true → decide (a0.kept.cursor.row ≥ a0.top) = true))) <| pc ((fun h => h : (decide (a0.kept.cursor.row ≥ a0.top) = true → decide (a0.kept.cursor.row ≥ a0.top) = true))) <| pc ((fun h => h : (decide (a0.kept.cursor.row ≥ a0.top) = true → decide (a0.kept.cursor.row ≥ a0.top) = true))) <| pc ((fun h => h : (decide (a0.kept.cursor.row ≥ a0.top) = true → decide (a0.kept.cursor.row ≥ a0.top) = true))) <| pc ((fun _ => zlt1 : (decide (a0.kept.cursor.row ≥ a0.top) = true → 0 < 1))) <| pc ((fun h => h : (decide (a0.kept.cursor.row ≥ a0.top) = true → decide (a0.kept.cursor.row ≥ a0.top) = true))) <| pc ((fun h => h : (decide (a0.kept.cursor.row ≥ a0.top) = true → decide (a0.kept.cursor.row ≥ a0.top) = true))) <| pc ((fun k2 => k2 : (decide (a0.kept.cursor.row ≥ a0.top) = true → decide (a0.kept.cursor.row ≥ a0.top) = true))) <| pc ((h1 : (decide (a0.kept.cursor.row ≥ a0.top) && decide (a0.kept.cursor.row ≤ a0.bottom)) = true)) <| pc zlt1 <| allP_nil) (F109_p1_ok h) (by kernel_rfl)
  · exact WM.cut mixed [R_ [o_], R_ [o_, o_, o_, o_, o_, o_, o_, o_, o_, o_, o_, o_, o_, o_, o_, o_, o_, o_, o_, o_, o_, o_, o_, o_, o_, o_, o_, o_], F_] [some 0, some 1, some 2, some 3, some 4, some 5, some 6, some 7, some 8, some 9, some 10, some 11, some 12, some 13] (pc zlt1 <| pc zlt1 <| pc ((fun h => h : (decide (a0.kept.cursor.row ≥ a0.top) = true → decide (a0.kept.cursor.row ≥ a0.top) = true))) <| pc ((fun h => h : (decide (a0.kept.cursor.row ≥ a0.top) = true → decide (a0.kept.cursor.row ≥ a0.top) = true))) <| pc ((fun h => h : (decide (a0.kept.cursor.row ≥ a0.top) = true → decide (a0.kept.cursor.row ≥ a0.top) = true))) <| pc ((fun h => h : (decide (a0.kept.cursor.row ≥ a0.top) = true → decide (a0.kept.cursor.row ≥ a0.top) = true))) <| pc ((fun h => h : (decide (a0.kept.cursor.row ≥ a0.top) = true → decide (a0.kept.cursor.row ≥ a0.top) = true))) <| pc ((fun h => h : (decide (a0.kept.cursor.row ≥ a0.top) = true → decide (a0.kept.cursor.row ≥ a0.top) = true))) <| pc ((fun _ => zlt1 : (decide (a0.kept.cursor.row ≥ a0.top) = true → 0 < 1))) <| pc ((fun h => h : (decide (a0.kept.cursor.row ≥ a0.top) = true → decide (a0.kept.cursor.row ≥ a0.top) = true))) <| pc ((fun h => h : (decide (a0.kept.cursor.row ≥ a0.top) = true → decide (a0.kept.cursor.row ≥ a0.top) = true))) <| pc ((fun h => h : (decide (a0.kept.cursor.row ≥ a0.top) = true → decide (a0.kept.cursor.row ≥ a0.top) = true))) <| pc ((fun h => h : (decide (a0.kept.cursor.row ≥ a0.top) = true → decide (a0.kept.cursor.row ≥ a0.top) = true))) <| pc ((fun _ => zlt1 : (decide (a0.kept.cursor.row ≥ a0.top) = true → 0 < 1))) <| pc ((fun h => h : (decide (a0.kept.cursor.row ≥ a0.top) = true → decide (a0.kept.cursor.row ≥ a0.top) = true))) <| pc ((fun h => h : (decide (a0.kept.cursor.row ≥ a0.top) = true → decide (a0.kept.cursor.row ≥ a0.top) = true))) <| pc ((fun k2 => k2 : (decide (a0.kept.cursor.row ≥ a0.top) = true → decide (a0.kept.cursor.row ≥ a0.top) = true))) <| pc ((h1 : (decide (a0.kept.cursor.row ≥ a0.top) && decide (a0.kept.cursor.row ≤ a0.bottom)) = false)) <| allP_nil) (F109_p1_ok h) (by kernel_rfl)

/-! ### F110: function 110 (*tickertape/term.Term).down -/
def F110_p1 (f : Nat) (a0 : term_TermO_2) (a1 : Int) (x4_1 : Int) : Option (term_TermO_2) :=
  chk (inR (a0.kept.cursor.row + a1)) <|
  bnd (F74 f a0 (imin (a0.kept.cursor.row + a1) x4_1) a0.kept.cursor.col) fun r1 =>
  some (r1)
def F110 (f : Nat) (a0 : term_TermO_2) (a1 : Int) : Option (term_TermO_2) :=
  chk (inR (a0.rows - 1)) <|
  ifb ((decide (a0.kept.cursor.row ≥ a0.top) && decide (a0.kept.cursor.row ≤ a0.bottom))) (
    F110_p1 f a0 a1 a0.bottom) (
    F110_p1 f a0 a1 (a0.rows - 1))
def v_F110 (a0 : term_TermO_2) (a1 : Int) (y : term_TermO_2) : V :=
  .tup []
def e_F110 (a0 : term_TermO_2) (a1 : Int) (y : term_TermO_2) : Env :=
  []
def x_F110 (a0 : term_TermO_2) (a1 : Int) (y : term_TermO_2) : List (Option Blk) :=
  [some (B_term_TermO_2 1 3 5 7 9 13 y), some (B_grid_GridO 2 y.grids_0), some (blk_cell_Cell y.grids_0.l), some (B_grid_GridO 4 y.grids_1), some (blk_cell_Cell y.grids_1.l), some (B_tabs_StopsO_1 6 y.stops), some (boolB y.stops.at_), some (B_utf_DecoderO 8 y.signs), some (intB .u8 y.signs.b), some (B_esc_ParserO 10 11 12 y.asks), some (intB .i64 y.asks.params), some (intB .i32 y.asks.text), some (blk_esc_Event y.asks.out), some (intB .u8 y.reply)]
set_option maxRecDepth 100000 in
set_option maxHeartbeats 4000000 in
theorem F110_p1_ok {cx : Cx} {f : Nat} {a0 : term_TermO_2} {a1 : Int} {x4_1 : Int} {y : term_TermO_2} (h : F110_p1 f a0 a1 x4_1 = some y) :
    WM Tryz.prog G0 63 14 Tryz.f110.results.toList (v_F110 a0 a1 y) (x_F110 a0 a1 y) cx (nav [.r, .r, .t, .r, .n] [.code (bodyOf Tryz.f110)]) [(0, ⟨none, .p 0 0 0⟩), (1, ⟨none, .i .i64 a1⟩), (4, ⟨none, .i .i64 x4_1⟩)] [some (B_term_TermO_2 1 3 5 7 9 13 a0), some (B_grid_GridO 2 a0.grids_0), some (blk_cell_Cell a0.grids_0.l), some (B_grid_GridO 4 a0.grids_1), some (blk_cell_Cell a0.grids_1.l), some (B_tabs_StopsO_1 6 a0.stops), some (boolB a0.stops.at_), some (B_utf_DecoderO 8 a0.signs), some (intB .u8 a0.signs.b), some (B_esc_ParserO 10 11 12 a0.asks), some (intB .i64 a0.asks.params), some (intB .i32 a0.asks.text), some (blk_esc_Event a0.asks.out), some (intB .u8 a0.reply)] := by
  unfold F110_p1 at h
  obtain ⟨h3, h⟩ := of_chk h
  obtain ⟨r1, h4, h⟩ := of_bnd h
  replace h := Option.some.inj h
  subst h
  exact WM.retE mixed (e_F110 a0 a1 (r1)) [R_ [o_, o_, o_, o_, o_, o_, o_, o_, o_, o_, o_, o_, o_, o_, o_, o_, o_, o_, o_, c_ (mkCall Tryz.call74 (F74_ok h4) [0, 1, 2, 3, 4, 5, 6, 7, 8, 9, 10, 11, 12, 13] (by kernel_rfl) (by kernel_rfl))]] [some 0, some 1, some 2, some 3, some 4, some 5, some 6, some 7, some 8, some 9, some 10, some 11, some 12, some 13] (pc zlt1 <| pc h3 <| pc zlt1 <| allP_nil) (by kernel_rfl) (by kernel_rfl)
set_option maxRecDepth 100000 in
set_option maxHeartbeats 4000000 in
theorem F110_ok {f : Nat} {a0 : term_TermO_2} {a1 : Int} {y : term_TermO_2} (h : F110 f a0 a1 = some y) :
    Spec Tryz.prog G0 110 [.p 0 0 0, .i .i64 a1] [some (B_term_TermO_2 1 3 5 7 9 13 a0), some (B_grid_GridO 2 a0.grids_0), some (blk_cell_Cell a0.grids_0.l), some (B_grid_GridO 4 a0.grids_1), some (blk_cell_Cell a0.grids_1.l), some (B_tabs_StopsO_1 6 a0.stops), some (boolB a0.stops.at_), some (B_utf_DecoderO 8 a0.signs), some (intB .u8 a0.signs.b), some (B_esc_ParserO 10 11 12 a0.asks), some (intB .i64 a0.asks.params), some (intB .i32 a0.asks.text), some (blk_esc_Event a0.asks.out), some (intB .u8 a0.reply)] (v_F110 a0 a1 y) (x_F110 a0 a1 y) :=
  Spec.ofM (fn := Tryz.f110) (c := bodyOf Tryz.f110) (n := 63) (rs := Tryz.f110.results.toList) Tryz.func110 (by kernel_rfl) (by kernel_rfl) (by kernel_rfl) (by kernel_rfl) fun cx => by
  unfold F110 at h
  obtain ⟨h1, h⟩ := of_chk h
  rcases of_ifb h with ⟨h2, h⟩ | ⟨h2, h⟩
  · exact WM.cut mixed [R_ [o_, o_, o_, o_, o_, o_], R_ [o_, o_, o_, o_, o_, o_, o_, o_, o_, o_, o_, o_, o_, o_, o_, o_, o_, o_, o_, o_, o_, o_, o_, o_, o_, o_, o_, o_], T_, R_ [o_, o_, o_, o_, o_, o_]] [some 0, some 1, some 2, some 3, some 4, some 5, some 6, some 7, some 8, some 9, some 10, some 11, some 12, some 13] (pc zlt1 <| pc h1 <| pc zlt1 <| pc zlt1 <| pc ((fun h => h : (decide (a0.kept.cursor.row ≥ a0.top) = true → decide (a0.kept.cursor.row ≥ a0.top) = true))) <| pc ((fun h => h : (decide (a0.kept.cursor.row ≥ a0.top) = true → decide (a0.kept.cursor.row ≥ a0.top) = true))) <| pc ((fun h => h : (decide (a0.kept.cursor.row ≥ a0.top) = true → decide (a0.kept.cursor.row ≥ a0.top) = true))) <| pc ((fun h => h : (decide (a0.kept.cursor.row ≥ a0.top) = true → decide (a0.kept.cursor.row ≥ a0.top) = true))) <| pc ((fun h => h : (decide (a0.kept.cursor.row ≥ a0.top) = true → decide (a0.kept.cursor.row ≥ a0.top) = true))) <| pc ((fun h => h : (decide (a0.kept.cursor.row ≥ a0.top) = true → decide (a0.kept.cursor.row ≥ a0.top) = true))) <| pc ((fun _ => zlt1 : (decide (a0.kept.cursor.row ≥ a0.top) = true → 0 < 1))) <| pc ((fun h => h : (decide (a0.kept.cursor.row ≥ a0.top) = true → decide (a0.kept.cursor.row ≥ a0.top) = true))) <| pc ((fun h => h : (decide (a0.kept.cursor.row ≥ a0.top) = true → decide (a0.kept.cursor.row ≥ a0.top) = true))) <| pc ((fun h => h : (decide (a0.kept.cursor.row ≥ a0.top) = true → decide (a0.kept.cursor.row ≥ a0.top) = true))) <| pc ((fun h => h : (decide (a0.kept.cursor.row ≥ a0.top) = true → decide (a0.kept.cursor.row ≥ a0.top) = true))) <| pc ((fun _ => zlt1 : (decide (a0.kept.cursor.row ≥ a0.top) = true → 0 < 1))) <| pc ((fun h => h : (decide (a0.kept.cursor.row ≥ a0.top) = true → decide (a0.kept.cursor.row ≥ a0.top) = true))) <| pc ((fun h => h : (decide (a0.kept.cursor.row ≥ a0.top) = true → decide (a0.kept.cursor.row ≥ a0.top) = true))) <| pc ((fun k2 => k2 : (decide (a0.kept.cursor.row ≥ a0.top) = true → decide (a0.kept.cursor.row ≥ a0.top) = true))) <| pc ((h2 : (decide (a0.kept.cursor.row ≥ a0.top) && decide (a0.kept.cursor.row ≤ a0.bottom)) = true)) <| pc zlt1 <| allP_nil) (F110_p1_ok h) (by kernel_rfl)
  · exact WM.cut mixed [R_ [o_, o_, o_, o_, o_, o_], R_ [o_, o_, o_, o_, o_, o_, o_, o_, o_, o_, o_, o_, o_, o_, o_, o_, o_, o_, o_, o_, o_, o_, o_, o_, o_, o_, o_, o_], F_] [some 0, some 1, some 2, some 3, some 4, some 5, some 6, some 7, some 8, some 9, some 10, some 11, some 12, some 13] (pc zlt1 <| pc h1 <| pc zlt1 <| pc zlt1 <| pc ((fun h => h : (decide (a0.kept.cursor.row ≥ a0.top) = true → decide (a0.kept.cursor.row ≥ a0.top) = true))) <| pc ((fun h => h : (decide (a0.kept.cursor.row ≥ a0.top) = true → decide (a0.kept.cursor.row ≥ a0.top) = true))) <| pc ((fun h => h : (decide (a0.kept.cursor.row ≥ a0.top) = true → decide (a0.kept.cursor.row ≥ a0.top) = true))) <| pc ((fun h => h : (decide (a0.kept.cursor.row ≥ a0.top) = true → decide (a0.kept.cursor.row ≥ a0.top) = true))) <| pc ((fun h => h : (decide (a0.kept.cursor.row ≥ a0.top) = true → decide (a0.kept.cursor.row ≥ a0.top) = true))) <| pc ((fun h => h : (decide (a0.kept.cursor.row ≥ a0.top) = true → decide (a0.kept.cursor.row ≥ a0.top) = true))) <| pc ((fun _ => zlt1 : (decide (a0.kept.cursor.row ≥ a0.top) = true → 0 < 1))) <| pc ((fun h => h : (decide (a0.kept.cursor.row ≥ a0.top) = true → decide (a0.kept.cursor.row ≥ a0.top) = true))) <| pc ((fun h => h : (decide (a0.kept.cursor.row ≥ a0.top) = true → decide (a0.kept.cursor.row ≥ a0.top) = true))) <| pc ((fun h => h : (decide (a0.kept.cursor.row ≥ a0.top) = true → decide (a0.kept.cursor.row ≥ a0.top) = true))) <| pc ((fun h => h : (decide (a0.kept.cursor.row ≥ a0.top) = true → decide (a0.kept.cursor.row ≥ a0.top) = true))) <| pc ((fun _ => zlt1 : (decide (a0.kept.cursor.row ≥ a0.top) = true → 0 < 1))) <| pc ((fun h => h : (decide (a0.kept.cursor.row ≥ a0.top) = true → decide (a0.kept.cursor.row ≥ a0.top) = true))) <| pc ((fun h => h : (decide (a0.kept.cursor.row ≥ a0.top) = true → decide (a0.kept.cursor.row ≥ a0.top) = true))) <| pc ((fun k2 => k2 : (decide (a0.kept.cursor.row ≥ a0.top) = true → decide (a0.kept.cursor.row ≥ a0.top) = true))) <| pc ((h2 : (decide (a0.kept.cursor.row ≥ a0.top) && decide (a0.kept.cursor.row ≤ a0.bottom)) = false)) <| allP_nil) (F110_p1_ok h) (by kernel_rfl)

/-! ### F111: function 111 (*tickertape/tabs.Stops).Prev -/
def F111 (f : Nat) (a0 : tabs_StopsO_1) (a1 : Int) (a2 : Int) : Option (Int) :=
  bnd (F105 f a0 a1 a2 (-1) 0) fun r1 =>
  some (r1)
def v_F111 (a0 : tabs_StopsO_1) (a1 : Int) (a2 : Int) (y : Int) : V :=
  .i .i64 y
def e_F111 (a0 : tabs_StopsO_1) (a1 : Int) (a2 : Int) (y : Int) : Env :=
  [(6, ⟨none, .i .i64 y⟩)]
def x_F111 (a0 : tabs_StopsO_1) (a1 : Int) (a2 : Int) (y : Int) : List (Option Blk) :=
  [some (B_tabs_StopsO_1 1 a0), some (boolB a0.at_)]
set_option maxRecDepth 100000 in
set_option maxHeartbeats 4000000 in
theorem F111_ok {f : Nat} {a0 : tabs_StopsO_1} {a1 : Int} {a2 : Int} {y : Int} (h : F111 f a0 a1 a2 = some y) :
    Spec Tryz.prog G0 111 [.p 0 0 0, .i .i64 a1, .i .i64 a2] [some (B_tabs_StopsO_1 1 a0), some (boolB a0.at_)] (v_F111 a0 a1 a2 y) (x_F111 a0 a1 a2 y) :=
  Spec.ofM (fn := Tryz.f111) (c := bodyOf Tryz.f111) (n := 11) (rs := Tryz.f111.results.toList) Tryz.func111 (by kernel_rfl) (by kernel_rfl) (by kernel_rfl) (by kernel_rfl) fun cx => by
  unfold F111 at h
  obtain ⟨r1, h1, h⟩ := of_bnd h
  replace h := Option.some.inj h
  subst h
  exact WM.retE mixed (e_F111 a0 a1 a2 (r1)) [R_ [o_], R_ [o_, o_, o_, c_ (mkCall Tryz.call105 (F105_ok h1) [0, 1] (by kernel_rfl) (by kernel_rfl)), o_]] [some 0, some 1] (allP_nil) (by kernel_rfl) (by kernel_rfl)

/-! ### F85: function 85 (*tickertape/term.Term).moves -/
def F85_p6 (f : Nat) (a1 : esc_Event) (a0_6 : term_TermO_2) : Option (term_TermO_2 × Bool) :=
  ifb ((decide (a1.Final = 69) || decide (a1.Final = 70))) (
    bnd (F74 f a0_6 a0_6.kept.cursor.row 0) fun r13 =>
    some ((r13, true))) (
    some ((a0_6, true)))
def F85_p5 (f : Nat) (a2 : Int) (a1 : esc_Event) (a0 : term_TermO_2) (x90_5 : Bool) : Option (term_TermO_2 × Bool) :=
  ifb (x90_5) (
    chk (inR (a2 - 1)) <|
    bnd (F84 f a1 1 1) fun r7 =>
    chk (inR (r7 - 1)) <|
    bnd (F79 f a0 (a2 - 1) (r7 - 1)) fun r8 =>
    F85_p6 f a1 r8) (
    ifb (decide (a1.Final = 73)) (
      bnd (F75 f a0.stops a0.kept.cursor.col a2) fun r9 =>
      bnd (F74 f a0 a0.kept.cursor.row r9) fun r10 =>
      F85_p6 f a1 r10) (
      ifb (decide (a1.Final = 90)) (
        bnd (F111 f a0.stops a0.kept.cursor.col a2) fun r11 =>
        bnd (F74 f a0 a0.kept.cursor.row r11) fun r12 =>
        F85_p6 f a1 r12) (
        some ((a0, false)))))
def F85_p4 (f : Nat) (a2 : Int) (a0 : term_TermO_2) (a1 : esc_Event) (x63_4 : Bool) : Option (term_TermO_2 × Bool) :=
  ifb (x63_4) (
    chk (inR (a2 - 1)) <|
    bnd (F74 f a0 a0.kept.cursor.row (a2 - 1)) fun r5 =>
    F85_p6 f a1 r5) (
    ifb (decide (a1.Final = 100)) (
      chk (inR (a2 - 1)) <|
      bnd (F79 f a0 (a2 - 1) a0.kept.cursor.col) fun r6 =>
      F85_p6 f a1 r6) (
      ifb (decide (a1.Final = 72)) (
        F85_p5 f a2 a1 a0 (decide (a1.Final = 72))) (
        F85_p5 f a2 a1 a0 (decide (a1.Final = 102)))))
def F85_p3 (f : Nat) (a0 : term_TermO_2) (a2 : Int) (a1 : esc_Event) (x22_3 : Bool) : Option (term_TermO_2 × Bool) :=
  ifb (x22_3) (
    chk (inR (a0.kept.cursor.col + a2)) <|
    bnd (F74 f a0 a0.kept.cursor.row (a0.kept.cursor.col + a2)) fun r3 =>
    F85_p6 f a1 r3) (
    ifb (decide (a1.Final = 68)) (
      chk (inR (a0.kept.cursor.col - a2)) <|
      bnd (F74 f a0 a0.kept.cursor.row (a0.kept.cursor.col - a2)) fun r4 =>
      F85_p6 f a1 r4) (
      ifb (decide (a1.Final = 71)) (
        F85_p4 f a2 a0 a1 (decide (a1.Final = 71))) (
        F85_p4 f a2 a0 a1 (decide (a1.Final = 96)))))
def F85_p2 (f : Nat) (a0 : term_TermO_2) (a2 : Int) (a1 : esc_Event) (x15_2 : Bool) : Option (term_TermO_2 × Bool) :=
  ifb (x15_2) (
    bnd (F110 f a0 a2) fun r2 =>
    F85_p6 f a1 r2) (
    ifb (decide (a1.Final = 67)) (
      F85_p3 f a0 a2 a1 (decide (a1.Final = 67))) (
      F85_p3 f a0 a2 a1 (decide (a1.Final = 97))))
def F85_p1 (f : Nat) (a0 : term_TermO_2) (a2 : Int) (a1 : esc_Event) (x9_1 : Bool) : Option (term_TermO_2 × Bool) :=
  ifb (x9_1) (
    bnd (F109 f a0 a2) fun r1 =>
    F85_p6 f a1 r1) (
    ifb (decide (a1.Final = 66)) (
      F85_p2 f a0 a2 a1 (decide (a1.Final = 66))) (
      ifb (decide (a1.Final = 101)) (
        F85_p2 f a0 a2 a1 (decide (a1.Final = 101))) (
        F85_p2 f a0 a2 a1 (decide (a1.Final = 69)))))
def F85 (f : Nat) (a0 : term_TermO_2) (a1 : esc_Event) (a2 : Int) : Option (term_TermO_2 × Bool) :=
  ifb (decide (a1.Final = 65)) (
    F85_p1 f a0 a2 a1 (decide (a1.Final = 65))) (
    F85_p1 f a0 a2 a1 (decide (a1.Final = 70)))
def v_F85 (a0 : term_TermO_2) (a1 : esc_Event) (a2 : Int) (y : term_TermO_2 × Bool) : V :=
  .b y.2
def e_F85 (a0 : term_TermO_2) (a1 : esc_Event) (a2 : Int) (y : term_TermO_2 × Bool) : Env :=
  [(6, ⟨none, .b y.2⟩)]
def x_F85 (a0 : term_TermO_2) (a1 : esc_Event) (a2 : Int) (y : term_TermO_2 × Bool) : List (Option Blk) :=
  [some (B_term_TermO_2 1 3 5 7 9 13 y.1), some (B_grid_GridO 2 y.1.grids_0), some (blk_cell_Cell y.1.grids_0.l), some (B_grid_GridO 4 y.1.grids_1), some (blk_cell_Cell y.1.grids_1.l), some (B_tabs_StopsO_1 6 y.1.stops), some (boolB y.1.stops.at_), some (B_utf_DecoderO 8 y.1.signs), some (intB .u8 y.1.signs.b), some (B_esc_ParserO 10 11 12 y.1.asks), some (intB .i64 y.1.asks.params), some (intB .i32 y.1.asks.text), some (blk_esc_Event y.1.asks.out), some (intB .u8 y.1.reply)]
set_option maxRecDepth 100000 in
set_option maxHeartbeats 4000000 in
theorem F85_p6_ok {cx : Cx} {f : Nat} {a0 : term_TermO_2} {a1 : esc_Event} {a2 : Int} {a0_6 : term_TermO_2} {y : term_TermO_2 × Bool} (h : F85_p6 f a1 a0_6 = some y) :
    WM Tryz.prog G0 167 14 Tryz.f85.results.toList (v_F85 a0 a1 a2 y) (x_F85 a0 a1 a2 y) cx (nav [.r, .r, .r, .t, .t, .r, .n] [.code (bodyOf Tryz.f85)]) [(0, ⟨none, .p 0 0 0⟩), (4, ⟨none, .p 14 0 0⟩)] [some (B_term_TermO_2 1 3 5 7 9 13 a0_6), some (B_grid_GridO 2 a0_6.grids_0), some (blk_cell_Cell a0_6.grids_0.l), some (B_grid_GridO 4 a0_6.grids_1), some (blk_cell_Cell a0_6.grids_1.l), some (B_tabs_StopsO_1 6 a0_6.stops), some (boolB a0_6.stops.at_), some (B_utf_DecoderO 8 a0_6.signs), some (intB .u8 a0_6.signs.b), some (B_esc_ParserO 10 11 12 a0_6.asks), some (intB .i64 a0_6.asks.params), some (intB .i32 a0_6.asks.text), some (blk_esc_Event a0_6.asks.out), some (intB .u8 a0_6.reply), some (blk_esc_Event [a1])] := by
  unfold F85_p6 at h
  rcases of_ifb h with ⟨h34, h⟩ | ⟨h34, h⟩
  · obtain ⟨r13, h35, h⟩ := of_bnd h
    replace h := Option.some.inj h
    subst h
    exact WM.retE mixed (e_F85 a0 a1 a2 ((r13, true))) [R_ [o_, o_, o_, o_, o_, o_, o_, o_], T_, R_ [o_, o_, o_, o_, o_, o_, o_, o_, c_ (mkCall Tryz.call74 (F74_ok h35) [0, 1, 2, 3, 4, 5, 6, 7, 8, 9, 10, 11, 12, 13] (by kernel_rfl) (by kernel_rfl))], R_ [o_]] [some 0, some 1, some 2, some 3, some 4, some 5, some 6, some 7, some 8, some 9, some 10, some 11, some 12, some 13] (pc zlt1 <| pc ((fun h => h : ((!(decide (a1.Final = 69))) = true → (!(decide (a1.Final = 69))) = true))) <| pc ((fun _ => zlt1 : ((!(decide (a1.Final = 69))) = true → 0 < 1))) <| pc ((fun h => h : ((!(decide (a1.Final = 69))) = true → (!(decide (a1.Final = 69))) = true))) <| pc ((fun k2 => (not_t k2) : (decide (a1.Final = 69) = false → (!(decide (a1.Final = 69))) = true))) <| pc ((h34 : (decide (a1.Final = 69) || decide (a1.Final = 70)) = true)) <| pc zlt1 <| allP_nil) (by kernel_rfl) (by kernel_rfl)
  · replace h := Option.some.inj h
    subst h
    exact WM.retE mixed (e_F85 a0 a1 a2 ((a0_6, true))) [R_ [o_, o_, o_, o_, o_, o_, o_, o_], F_, R_ [o_]] [some 0, some 1, some 2, some 3, some 4, some 5, some 6, some 7, some 8, some 9, some 10, some 11, some 12, some 13] (pc zlt1 <| pc ((fun h => h : ((!(decide (a1.Final = 69))) = true → (!(decide (a1.Final = 69))) = true))) <| pc ((fun _ => zlt1 : ((!(decide (a1.Final = 69))) = true → 0 < 1))) <| pc ((fun h => h : ((!(decide (a1.Final = 69))) = true → (!(decide (a1.Final = 69))) = true))) <| pc ((fun k2 => (not_t k2) : (decide (a1.Final = 69) = false → (!(decide (a1.Final = 69))) = true))) <| pc ((h34 : (decide (a1.Final = 69) || decide (a1.Final = 70)) = false)) <| allP_nil) (by kernel_rfl) (by kernel_rfl)
set_option maxRecDepth 100000 in
set_option maxHeartbeats 4000000 in
theorem F85_p5_ok {cx : Cx} {f : Nat} {a0 : term_TermO_2} {a1 : esc_Event} {a2 : Int} {x90_5 : Bool} {y : term_TermO_2 × Bool} (h : F85_p5 f a2 a1 a0 x90_5 = some y) :
    WM Tryz.prog G0 167 14 Tryz.f85.results.toList (v_F85 a0 a1 a2 y) (x_F85 a0 a1 a2 y) cx (nav [.r, .r, .r, .t, .f, .r, .t, .f, .r, .t, .f, .r, .f, .r, .t, .f, .r, .f, .r, .t, .n] [.code (bodyOf Tryz.f85)]) [(0, ⟨none, .p 0 0 0⟩), (2, ⟨none, .i .i64 a2⟩), (4, ⟨none, .p 14 0 0⟩), (8, ⟨none, .i .i32 a1.Final⟩), (90, ⟨none, .b x90_5⟩)] [some (B_term_TermO_2 1 3 5 7 9 13 a0), some (B_grid_GridO 2 a0.grids_0), some (blk_cell_Cell a0.grids_0.l), some (B_grid_GridO 4 a0.grids_1), some (blk_cell_Cell a0.grids_1.l), some (B_tabs_StopsO_1 6 a0.stops), some (boolB a0.stops.at_), some (B_utf_DecoderO 8 a0.signs), some (intB .u8 a0.signs.b), some (B_esc_ParserO 10 11 12 a0.asks), some (intB .i64 a0.asks.params), some (intB .i32 a0.asks.text), some (blk_esc_Event a0.asks.out), some (intB .u8 a0.reply), some (blk_esc_Event [a1])] := by
  unfold F85_p5 at h
  rcases of_ifb h with ⟨h23, h⟩ | ⟨h23, h⟩
  · obtain ⟨h24, h⟩ := of_chk h
    obtain ⟨r7, h25, h⟩ := of_bnd h
    obtain ⟨h26, h⟩ := of_chk h
    obtain ⟨r8, h27, h⟩ := of_bnd h
    exact WM.cut mixed [T_, R_ [o_, o_, o_, o_, c_ (mkCall Tryz.call84 (F84_ok h25) [] (by kernel_rfl) (by kernel_rfl)), o_, c_ (mkCall Tryz.call79 (F79_ok h27) [0, 1, 2, 3, 4, 5, 6, 7, 8, 9, 10, 11, 12, 13] (by kernel_rfl) (by kernel_rfl))]] [some 0, some 1, some 2, some 3, some 4, some 5, some 6, some 7, some 8, some 9, some 10, some 11, some 12, some 13, some 14] (pc ((h23 : x90_5 = true)) <| pc h24 <| pc zlt1 <| pc h26 <| allP_nil) (F85_p6_ok h) (by kernel_rfl)
  · rcases of_ifb h with ⟨h28, h⟩ | ⟨h28, h⟩
    · obtain ⟨r9, h29, h⟩ := of_bnd h
      obtain ⟨r10, h30, h⟩ := of_bnd h
      exact WM.cut mixed [F_, R_ [o_, o_], T_, R_ [o_, o_, o_, o_, o_, o_, o_, o_, o_, o_, o_, o_, o_, o_, o_, o_, o_, o_, o_, o_, o_, c_ (mkCallT Tryz.call75 (F75_ok h29) [5, 6] [5, 6] (by kernel_rfl) (by kernel_rfl) (by kernel_rfl) (by kernel_rfl)), c_ (mkCall Tryz.call74 (F74_ok h30) [0, 1, 2, 3, 4, 5, 6, 7, 8, 9, 10, 11, 12, 13] (by kernel_rfl) (by kernel_rfl))]] [some 0, some 1, some 2, some 3, some 4, some 5, some 6, some 7, some 8, some 9, some 10, some 11, some 12, some 13, some 14] (pc ((h23 : x90_5 = false)) <| pc ((h28 : decide (a1.Final = 73) = true)) <| pc zlt1 <| pc zlt1 <| pc zlt1 <| allP_nil) (F85_p6_ok h) (by kernel_rfl)
    · rcases of_ifb h with ⟨h31, h⟩ | ⟨h31, h⟩
      · obtain ⟨r11, h32, h⟩ := of_bnd h
        obtain ⟨r12, h33, h⟩ := of_bnd h
        exact WM.cut mixed [F_, R_ [o_, o_], F_, R_ [o_, o_], T_, R_ [o_, o_, o_, o_, o_, o_, o_, o_, o_, o_, o_, o_, o_, o_, o_, o_, o_, o_, o_, o_, o_, c_ (mkCallT Tryz.call111 (F111_ok h32) [5, 6] [5, 6] (by kernel_rfl) (by kernel_rfl) (by kernel_rfl) (by kernel_rfl)), c_ (mkCall Tryz.call74 (F74_ok h33) [0, 1, 2, 3, 4, 5, 6, 7, 8, 9, 10, 11, 12, 13] (by kernel_rfl) (by kernel_rfl))]] [some 0, some 1, some 2, some 3, some 4, some 5, some 6, some 7, some 8, some 9, some 10, some 11, some 12, some 13, some 14] (pc ((h23 : x90_5 = false)) <| pc ((h28 : decide (a1.Final = 73) = false)) <| pc ((h31 : decide (a1.Final = 90) = true)) <| pc zlt1 <| pc zlt1 <| pc zlt1 <| allP_nil) (F85_p6_ok h) (by kernel_rfl)
      · replace h := Option.some.inj h
        subst h
        exact WM.retE mixed (e_F85 a0 a1 a2 ((a0, false))) [F_, R_ [o_, o_], F_, R_ [o_, o_], F_, R_ [o_]] [some 0, some 1, some 2, some 3, some 4, some 5, some 6, some 7, some 8, some 9, some 10, some 11, some 12, some 13] (pc ((h23 : x90_5 = false)) <| pc ((h28 : decide (a1.Final = 73) = false)) <| pc ((h31 : decide (a1.Final = 90) = false)) <| allP_nil) (by kernel_rfl) (by kernel_rfl)
set_option maxRecDepth 100000 in
set_option maxHeartbeats 4000000 in
theorem F85_p4_ok {cx : Cx} {f : Nat} {a0 : term_TermO_2} {a1 : esc_Event} {a2 : Int} {x63_4 : Bool} {y : term_TermO_2 × Bool} (h : F85_p4 f a2 a0 a1 x63_4 = some y) :
    WM Tryz.prog G0 167 14 Tryz.f85.results.toList (v_F85 a0 a1 a2 y) (x_F85 a0 a1 a2 y) cx (nav [.r, .r, .r, .t, .f, .r, .t, .f, .r, .t, .f, .r, .f, .r, .t, .n] [.code (bodyOf Tryz.f85)]) [(0, ⟨none, .p 0 0 0⟩), (2, ⟨none, .i .i64 a2⟩), (4, ⟨none, .p 14 0 0⟩), (8, ⟨none, .i .i32 a1.Final⟩), (63, ⟨none, .b x63_4⟩)] [some (B_term_TermO_2 1 3 5 7 9 13 a0), some (B_grid_GridO 2 a0.grids_0), some (blk_cell_Cell a0.grids_0.l), some (B_grid_GridO 4 a0.grids_1), some (blk_cell_Cell a0.grids_1.l), some (B_tabs_StopsO_1 6 a0.stops), some (boolB a0.stops.at_), some (B_utf_DecoderO 8 a0.signs), some (intB .u8 a0.signs.b), some (B_esc_ParserO 10 11 12 a0.asks), some (intB .i64 a0.asks.params), some (intB .i32 a0.asks.text), some (blk_esc_Event a0.asks.out), some (intB .u8 a0.reply), some (blk_esc_Event [a1])] := by
  unfold F85_p4 at h
  rcases of_ifb h with ⟨h16, h⟩ | ⟨h16, h⟩
  · obtain ⟨h17, h⟩ := of_chk h
    obtain ⟨r5, h18, h⟩ := of_bnd h
    exact WM.cut mixed [T_, R_ [o_, o_, o_, o_, o_, o_, o_, o_, o_, o_, c_ (mkCall Tryz.call74 (F74_ok h18) [0, 1, 2, 3, 4, 5, 6, 7, 8, 9, 10, 11, 12, 13] (by kernel_rfl) (by kernel_rfl))]] [some 0, some 1, some 2, some 3, some 4, some 5, some 6, some 7, some 8, some 9, some 10, some 11, some 12, some 13, some 14] (pc ((h16 : x63_4 = true)) <| pc zlt1 <| pc h17 <| allP_nil) (F85_p6_ok h) (by kernel_rfl)
  · rcases of_ifb h with ⟨h19, h⟩ | ⟨h19, h⟩
    · obtain ⟨h20, h⟩ := of_chk h
      obtain ⟨r6, h21, h⟩ := of_bnd h
      exact WM.cut mixed [F_, R_ [o_, o_], T_, R_ [o_, o_, o_, o_, o_, o_, o_, o_, o_, o_, c_ (mkCall Tryz.call79 (F79_ok h21) [0, 1, 2, 3, 4, 5, 6, 7, 8, 9, 10, 11, 12, 13] (by kernel_rfl) (by kernel_rfl))]] [some 0, some 1, some 2, some 3, some 4, some 5, some 6, some 7, some 8, some 9, some 10, some 11, some 12, some 13, some 14] (pc ((h16 : x63_4 = false)) <| pc ((h19 : decide (a1.Final = 100) = true)) <| pc h20 <| pc zlt1 <| allP_nil) (F85_p6_ok h) (by kernel_rfl)
    · rcases of_ifb h with ⟨h22, h⟩ | ⟨h22, h⟩
      · exact WM.cut mixed [F_, R_ [o_, o_], F_, R_ [o_, o_], T_] [some 0, some 1, some 2, some 3, some 4, some 5, some 6, some 7, some 8, some 9, some 10, some 11, some 12, some 13, some 14] (pc ((h16 : x63_4 = false)) <| pc ((h19 : decide (a1.Final = 100) = false)) <| pc ((h22 : decide (a1.Final = 72) = true)) <| allP_nil) (F85_p5_ok h) (by kernel_rfl)
      · exact WM.cut mixed [F_, R_ [o_, o_], F_, R_ [o_, o_], F_, R_ [o_, o_]] [some 0, some 1, some 2, some 3, some 4, some 5, some 6, some 7, some 8, some 9, some 10, some 11, some 12, some 13, some 14] (pc ((h16 : x63_4 = false)) <| pc ((h19 : decide (a1.Final = 100) = false)) <| pc ((h22 : decide (a1.Final = 72) = false)) <| allP_nil) (F85_p5_ok h) (by kernel_rfl)
set_option maxRecDepth 100000 in
set_option maxHeartbeats 4000000 in
theorem F85_p3_ok {cx : Cx} {f : Nat} {a0 : term_TermO_2} {a1 : esc_Event} {a2 : Int} {x22_3 : Bool} {y : term_TermO_2 × Bool} (h : F85_p3 f a0 a2 a1 x22_3 = some y) :
    WM Tryz.prog G0 167 14 Tryz.f85.results.toList (v_F85 a0 a1 a2 y) (x_F85 a0 a1 a2 y) cx (nav [.r, .r, .r, .t, .f, .r, .t, .f, .r, .t, .n] [.code (bodyOf Tryz.f85)]) [(0, ⟨none, .p 0 0 0⟩), (2, ⟨none, .i .i64 a2⟩), (4, ⟨none, .p 14 0 0⟩), (8, ⟨none, .i .i32 a1.Final⟩), (22, ⟨none, .b x22_3⟩)] [some (B_term_TermO_2 1 3 5 7 9 13 a0), some (B_grid_GridO 2 a0.grids_0), some (blk_cell_Cell a0.grids_0.l), some (B_grid_GridO 4 a0.grids_1), some (blk_cell_Cell a0.grids_1.l), some (B_tabs_StopsO_1 6 a0.stops), some (boolB a0.stops.at_), some (B_utf_DecoderO 8 a0.signs), some (intB .u8 a0.signs.b), some (B_esc_ParserO 10 11 12 a0.asks), some (intB .i64 a0.asks.params), some (intB .i32 a0.asks.text), some (blk_esc_Event a0.asks.out), some (intB .u8 a0.reply), some (blk_esc_Event [a1])] := by
  unfold F85_p3 at h
  rcases of_ifb h with ⟨h9, h⟩ | ⟨h9, h⟩
  · obtain ⟨h10, h⟩ := of_chk h
    obtain ⟨r3, h11, h⟩ := of_bnd h
    exact WM.cut mixed [T_, R_ [o_, o_, o_, o_, o_, o_, o_, o_, o_, o_, o_, o_, o_, o_, o_, o_, o_, c_ (mkCall Tryz.call74 (F74_ok h11) [0, 1, 2, 3, 4, 5, 6, 7, 8, 9, 10, 11, 12, 13] (by kernel_rfl) (by kernel_rfl))]] [some 0, some 1, some 2, some 3, some 4, some 5, some 6, some 7, some 8, some 9, some 10, some 11, some 12, some 13, some 14] (pc ((h9 : x22_3 = true)) <| pc zlt1 <| pc zlt1 <| pc h10 <| allP_nil) (F85_p6_ok h) (by kernel_rfl)
  · rcases of_ifb h with ⟨h12, h⟩ | ⟨h12, h⟩
    · obtain ⟨h13, h⟩ := of_chk h
      obtain ⟨r4, h14, h⟩ := of_bnd h
      exact WM.cut mixed [F_, R_ [o_, o_], T_, R_ [o_, o_, o_, o_, o_, o_, o_, o_, o_, o_, o_, o_, o_, o_, o_, o_, o_, c_ (mkCall Tryz.call74 (F74_ok h14) [0, 1, 2, 3, 4, 5, 6, 7, 8, 9, 10, 11, 12, 13] (by kernel_rfl) (by kernel_rfl))]] [some 0, some 1, some 2, some 3, some 4, some 5, some 6, some 7, some 8, some 9, some 10, some 11, some 12, some 13, some 14] (pc ((h9 : x22_3 = false)) <| pc ((h12 : decide (a1.Final = 68) = true)) <| pc zlt1 <| pc zlt1 <| pc h13 <| allP_nil) (F85_p6_ok h) (by kernel_rfl)
    · rcases of_ifb h with ⟨h15, h⟩ | ⟨h15, h⟩
      · exact WM.cut mixed [F_, R_ [o_, o_], F_, R_ [o_, o_], T_] [some 0, some 1, some 2, some 3, some 4, some 5, some 6, some 7, some 8, some 9, some 10, some 11, some 12, some 13, some 14] (pc ((h9 : x22_3 = false)) <| pc ((h12 : decide (a1.Final = 68) = false)) <| pc ((h15 : decide (a1.Final = 71) = true)) <| allP_nil) (F85_p4_ok h) (by kernel_rfl)
      · exact WM.cut mixed [F_, R_ [o_, o_], F_, R_ [o_, o_], F_, R_ [o_, o_]] [some 0, some 1, some 2, some 3, some 4, some 5, some 6, some 7, some 8, some 9, some 10, some 11, some 12, some 13, some 14] (pc ((h9 : x22_3 = false)) <| pc ((h12 : decide (a1.Final = 68) = false)) <| pc ((h15 : decide (a1.Final = 71) = false)) <| allP_nil) (F85_p4_ok h) (by kernel_rfl)
set_option maxRecDepth 100000 in
set_option maxHeartbeats 4000000 in
theorem F85_p2_ok {cx : Cx} {f : Nat} {a0 : term_TermO_2} {a1 : esc_Event} {a2 : Int} {x15_2 : Bool} {y : term_TermO_2 × Bool} (h : F85_p2 f a0 a2 a1 x15_2 = some y) :
    WM Tryz.prog G0 167 14 Tryz.f85.results.toList (v_F85 a0 a1 a2 y) (x_F85 a0 a1 a2 y) cx (nav [.r, .r, .r, .t, .f, .r, .t, .n] [.code (bodyOf Tryz.f85)]) [(0, ⟨none, .p 0 0 0⟩), (2, ⟨none, .i .i64 a2⟩), (4, ⟨none, .p 14 0 0⟩), (8, ⟨none, .i .i32 a1.Final⟩), (15, ⟨none, .b x15_2⟩)] [some (B_term_TermO_2 1 3 5 7 9 13 a0), some (B_grid_GridO 2 a0.grids_0), some (blk_cell_Cell a0.grids_0.l), some (B_grid_GridO 4 a0.grids_1), some (blk_cell_Cell a0.grids_1.l), some (B_tabs_StopsO_1 6 a0.stops), some (boolB a0.stops.at_), some (B_utf_DecoderO 8 a0.signs), some (intB .u8 a0.signs.b), some (B_esc_ParserO 10 11 12 a0.asks), some (intB .i64 a0.asks.params), some (intB .i32 a0.asks.text), some (blk_esc_Event a0.asks.out), some (intB .u8 a0.reply), some (blk_esc_Event [a1])] := by
  unfold F85_p2 at h
  rcases of_ifb h with ⟨h6, h⟩ | ⟨h6, h⟩
  · obtain ⟨r2, h7, h⟩ := of_bnd h
    exact WM.cut mixed [T_, R_ [o_, o_, c_ (mkCall Tryz.call110 (F110_ok h7) [0, 1, 2, 3, 4, 5, 6, 7, 8, 9, 10, 11, 12, 13] (by kernel_rfl) (by kernel_rfl))]] [some 0, some 1, some 2, some 3, some 4, some 5, some 6, some 7, some 8, some 9, some 10, some 11, some 12, some 13, some 14] (pc ((h6 : x15_2 = true)) <| allP_nil) (F85_p6_ok h) (by kernel_rfl)
  · rcases of_ifb h with ⟨h8, h⟩ | ⟨h8, h⟩
    · exact WM.cut mixed [F_, R_ [o_, o_], T_] [some 0, some 1, some 2, some 3, some 4, some 5, some 6, some 7, some 8, some 9, some 10, some 11, some 12, some 13, some 14] (pc ((h6 : x15_2 = false)) <| pc ((h8 : decide (a1.Final = 67) = true)) <| allP_nil) (F85_p3_ok h) (by kernel_rfl)
    · exact WM.cut mixed [F_, R_ [o_, o_], F_, R_ [o_, o_]] [some 0, some 1, some 2, some 3, some 4, some 5, some 6, some 7, some 8, some 9, some 10, some 11, some 12, some 13, some 14] (pc ((h6 : x15_2 = false)) <| pc ((h8 : decide (a1.Final = 67) = false)) <| allP_nil) (F85_p3_ok h) (by kernel_rfl)
set_option maxRecDepth 100000 in
set_option maxHeartbeats 4000000 in
theorem F85_p1_ok {cx : Cx} {f : Nat} {a0 : term_TermO_2} {a1 : esc_Event} {a2 : Int} {x9_1 : Bool} {y : term_TermO_2 × Bool} (h : F85_p1 f a0 a2 a1 x9_1 = some y) :
    WM Tryz.prog G0 167 14 Tryz.f85.results.toList (v_F85 a0 a1 a2 y) (x_F85 a0 a1 a2 y) cx (nav [.r, .r, .r, .t, .n] [.code (bodyOf Tryz.f85)]) [(0, ⟨none, .p 0 0 0⟩), (2, ⟨none, .i .i64 a2⟩), (4, ⟨none, .p 14 0 0⟩), (8, ⟨none, .i .i32 a1.Final⟩), (9, ⟨none, .b x9_1⟩)] [some (B_term_TermO_2 1 3 5 7 9 13 a0), some (B_grid_GridO 2 a0.grids_0), some (blk_cell_Cell a0.grids_0.l), some (B_grid_GridO 4 a0.grids_1), some (blk_cell_Cell a0.grids_1.l), some (B_tabs_StopsO_1 6 a0.stops), some (boolB a0.stops.at_), some (B_utf_DecoderO 8 a0.signs), some (intB .u8 a0.signs.b), some (B_esc_ParserO 10 11 12 a0.asks), some (intB .i64 a0.asks.params), some (intB .i32 a0.asks.text), some (blk_esc_Event a0.asks.out), some (intB .u8 a0.reply), some (blk_esc_Event [a1])] := by
  unfold F85_p1 at h
  rcases of_ifb h with ⟨h2, h⟩ | ⟨h2, h⟩
  · obtain ⟨r1, h3, h⟩ := of_bnd h
    exact WM.cut mixed [T_, R_ [o_, o_, c_ (mkCall Tryz.call109 (F109_ok h3) [0, 1, 2, 3, 4, 5, 6, 7, 8, 9, 10, 11, 12, 13] (by kernel_rfl) (by kernel_rfl))]] [some 0, some 1, some 2, some 3, some 4, some 5, some 6, some 7, some 8, some 9, some 10, some 11, some 12, some 13, some 14] (pc ((h2 : x9_1 = true)) <| allP_nil) (F85_p6_ok h) (by kernel_rfl)
  · rcases of_ifb h with ⟨h4, h⟩ | ⟨h4, h⟩
    · exact WM.cut mixed [F_, R_ [o_, o_], T_] [some 0, some 1, some 2, some 3, some 4, some 5, some 6, some 7, some 8, some 9, some 10, some 11, some 12, some 13, some 14] (pc ((h2 : x9_1 = false)) <| pc ((h4 : decide (a1.Final = 66) = true)) <| allP_nil) (F85_p2_ok h) (by kernel_rfl)
    · rcases of_ifb h with ⟨h5, h⟩ | ⟨h5, h⟩
      · exact WM.cut mixed [F_, R_ [o_, o_], F_, R_ [o_, o_], T_] [some 0, some 1, some 2, some 3, some 4, some 5, some 6, some 7, some 8, some 9, some 10, some 11, some 12, some 13, some 14] (pc ((h2 : x9_1 = false)) <| pc ((h4 : decide (a1.Final = 66) = false)) <| pc ((h5 : decide (a1.Final = 101) = true)) <| allP_nil) (F85_p2_ok h) (by kernel_rfl)
      · exact WM.cut mixed [F_, R_ [o_, o_], F_, R_ [o_, o_], F_, R_ [o_, o_]] [some 0, some 1, some 2, some 3, some 4, some 5, some 6, some 7, some 8, some 9, some 10, some 11, some 12, some 13, some 14] (pc ((h2 : x9_1 = false)) <| pc ((h4 : decide (a1.Final = 66) = false)) <| pc ((h5 : decide (a1.Final = 101) = false)) <| allP_nil) (F85_p2_ok h) (by kernel_rfl)
set_option maxRecDepth 100000 in
set_option maxHeartbeats 4000000 in
theorem F85_ok {f : Nat} {a0 : term_TermO_2} {a1 : esc_Event} {a2 : Int} {y : term_TermO_2 × Bool} (h : F85 f a0 a1 a2 = some y) :
    Spec Tryz.prog G0 85 [.p 0 0 0, .agg [.i .i64 a1.Kind, .i .i32 a1.Rune, .ro Int 1 (fun n => [.i .i64 n]) 0 a1.Params, .i .i32 a1.Private, .i .i32 a1.Inter, .i .i32 a1.Final, .s a1.Text], .i .i64 a2] [some (B_term_TermO_2 1 3 5 7 9 13 a0), some (B_grid_GridO 2 a0.grids_0), some (blk_cell_Cell a0.grids_0.l), some (B_grid_GridO 4 a0.grids_1), some (blk_cell_Cell a0.grids_1.l), some (B_tabs_StopsO_1 6 a0.stops), some (boolB a0.stops.at_), some (B_utf_DecoderO 8 a0.signs), some (intB .u8 a0.signs.b), some (B_esc_ParserO 10 11 12 a0.asks), some (intB .i64 a0.asks.params), some (intB .i32 a0.asks.text), some (blk_esc_Event a0.asks.out), some (intB .u8 a0.reply)] (v_F85 a0 a1 a2 y) (x_F85 a0 a1 a2 y) :=
  Spec.ofM (fn := Tryz.f85) (c := bodyOf Tryz.f85) (n := 167) (rs := Tryz.f85.results.toList) Tryz.func85 (by kernel_rfl) (by kernel_rfl) (by kernel_rfl) (by kernel_rfl) fun cx => by
  unfold F85 at h
  rcases of_ifb h with ⟨h1, h⟩ | ⟨h1, h⟩
  · exact WM.cut mixed [R_ [.op (.fresh 14 ((⟨esc_Event, 7, enc_esc_Event, (fun _ => a1), zero_esc_Event, [a1]⟩ : Blk))), o_], R_ [o_, o_], R_ [o_, o_], T_] [some 0, some 1, some 2, some 3, some 4, some 5, some 6, some 7, some 8, some 9, some 10, some 11, some 12, some 13, some 14] (pc zlt1 <| pc ((h1 : decide (a1.Final = 65) = true)) <| allP_nil) (F85_p1_ok h) (by kernel_rfl)
  · exact WM.cut mixed [R_ [.op (.fresh 14 ((⟨esc_Event, 7, enc_esc_Event, (fun _ => a1), zero_esc_Event, [a1]⟩ : Blk))), o_], R_ [o_, o_], R_ [o_, o_], F_, R_ [o_, o_]] [some 0, some 1, some 2, some 3, some 4, some 5, some 6, some 7, some 8, some 9, some 10, some 11, some 12, some 13, some 14] (pc zlt1 <| pc ((h1 : decide (a1.Final = 65) = false)) <| allP_nil) (F85_p1_ok h) (by kernel_rfl)

/-! ### F115: function 115 (*tickertape/grid.Grid).Erase -/
def F115 (f : Nat) (a0 : grid_GridO) (a1 : Int) (a2 : Int) (a3 : Int) (a4 : cell_Attr) : Option (grid_GridO) :=
  bnd (F100 f a0 a1 0) fun r1 =>
  ifb ((!((!r1) || decide ((imax a2 0) ≥ (imin a3 a0.cols))))) (
    bnd (F88 f a4) fun r2 =>
    ifb ((!r2)) (
      some (a0)) (
      bnd (F101 f a0 a1) fun r3 =>
      chk (0 ≤ (imax a2 0)) <|
      chk ((imax a2 0) ≤ (imin a3 a0.cols)) <|
      chk ((imin a3 a0.cols) ≤ ((r3.2 : Nat) : Int)) <|
      bnd (F13 f a4) fun r4 =>
      bnd (F102 f (r3.1 + ((imax a2 0)).toNat) (((imin a3 a0.cols)).toNat - ((imax a2 0)).toNat) a0.l r4) fun r5 =>
      bnd (F101 f ({ a0 with l := r5 } : grid_GridO) a1) fun r6 =>
      bnd (F103 f r6.1 r6.2 r5) fun r7 =>
      some (({ a0 with l := r7 } : grid_GridO)))) (
    some (a0))
def v_F115 (a0 : grid_GridO) (a1 : Int) (a2 : Int) (a3 : Int) (a4 : cell_Attr) (y : grid_GridO) : V :=
  .tup []
def e_F115 (a0 : grid_GridO) (a1 : Int) (a2 : Int) (a3 : Int) (a4 : cell_Attr) (y : grid_GridO) : Env :=
  []
def x_F115 (a0 : grid_GridO) (a1 : Int) (a2 : Int) (a3 : Int) (a4 : cell_Attr) (y : grid_GridO) : List (Option Blk) :=
  [some (B_grid_GridO 1 y), some (blk_cell_Cell y.l)]
set_option maxRecDepth 100000 in
set_option maxHeartbeats 4000000 in
theorem F115_ok {f : Nat} {a0 : grid_GridO} {a1 : Int} {a2 : Int} {a3 : Int} {a4 : cell_Attr} {y : grid_GridO} (h : F115 f a0 a1 a2 a3 a4 = some y) :
    Spec Tryz.prog G0 115 [.p 0 0 0, .i .i64 a1, .i .i64 a2, .i .i64 a3, .agg [.i .i64 a4.Flags, .i .i64 a4.Fg, .i .i64 a4.Bg]] [some (B_grid_GridO 1 a0), some (blk_cell_Cell a0.l)] (v_F115 a0 a1 a2 a3 a4 y) (x_F115 a0 a1 a2 a3 a4 y) :=
  Spec.ofM (fn := Tryz.f115) (c := bodyOf Tryz.f115) (n := 45) (rs := Tryz.f115.results.toList) Tryz.func115 (by kernel_rfl) (by kernel_rfl) (by kernel_rfl) (by kernel_rfl) fun cx => by
  unfold F115 at h
  obtain ⟨r1, h1, h⟩ := of_bnd h
  rcases of_ifb h with ⟨h2, h⟩ | ⟨h2, h⟩
  · obtain ⟨r2, h3, h⟩ := of_bnd h
    rcases of_ifb h with ⟨h4, h⟩ | ⟨h4, h⟩
    · replace h := Option.some.inj h
      subst h
      exact WM.retE mixed (e_F115 a0 a1 a2 a3 a4 (a0)) [R_ [.op (.fresh 2 (svB 3 [.i .i64 a4.Flags, .i .i64 a4.Fg, .i .i64 a4.Bg]))], R_ [o_, o_, o_, o_, o_, o_, o_, o_, o_, o_], R_ [o_, o_, c_ (mkCall Tryz.call100 (F100_ok h1) [0, 1] (by kernel_rfl) (by kernel_rfl)), o_, o_, o_, o_, o_, o_, o_, o_, c_ (mkCall Tryz.call88 (F88_ok h3) [] (by kernel_rfl) (by kernel_rfl)), m_, .pk false], T_] [some 0, some 1] (pc zlt1 <| pc ((fun h => h : ((!(!r1)) = true → (!(!r1)) = true))) <| pc ((fun h => h : ((!(!r1)) = true → (!(!r1)) = true))) <| pc ((fun k2 => (not_t k2) : ((!r1) = false → (!(!r1)) = true))) <| pc ((fun _ => zlt1 : ((!((!r1) || decide ((imax a2 0) ≥ (imin a3 a0.cols)))) = true → 0 < 1))) <| pc ((h2 : (!((!r1) || decide ((imax a2 0) ≥ (imin a3 a0.cols)))) = true)) <| pc ((h2 : (!((!r1) || decide ((imax a2 0) ≥ (imin a3 a0.cols)))) = true)) <| pc ((h2 : (!((!r1) || decide ((imax a2 0) ≥ (imin a3 a0.cols)))) = true)) <| pc (((nt_of h2) : ((!r1) || decide ((imax a2 0) ≥ (imin a3 a0.cols))) = false)) <| pc ((h4 : (!r2) = true)) <| allP_nil) (by kernel_rfl) (by kernel_rfl)
    · obtain ⟨r3, h5, h⟩ := of_bnd h
      obtain ⟨h6, h⟩ := of_chk h
      obtain ⟨h7, h⟩ := of_chk h
      obtain ⟨h8, h⟩ := of_chk h
      obtain ⟨r4, h9, h⟩ := of_bnd h
      obtain ⟨r5, h10, h⟩ := of_bnd h
      obtain ⟨r6, h11, h⟩ := of_bnd h
      obtain ⟨r7, h12, h⟩ := of_bnd h
      replace h := Option.some.inj h
      subst h
      exact WM.retE mixed (e_F115 a0 a1 a2 a3 a4 (({ a0 with l := r7 } : grid_GridO))) [R_ [.op (.fresh 2 (svB 3 [.i .i64 a4.Flags, .i .i64 a4.Fg, .i .i64 a4.Bg]))], R_ [o_, o_, o_, o_, o_, o_, o_, o_, o_, o_], R_ [o_, o_, c_ (mkCall Tryz.call100 (F100_ok h1) [0, 1] (by kernel_rfl) (by kernel_rfl)), o_, o_, o_, o_, o_, o_, o_, o_, c_ (mkCall Tryz.call88 (F88_ok h3) [] (by kernel_rfl) (by kernel_rfl)), m_, .pk false], F_, R_ [o_, o_, c_ (mkCallT Tryz.call101 (F101_ok h5) [0, 1] [0, 1] (by kernel_rfl) (by kernel_rfl) (by kernel_rfl) (by kernel_rfl)), o_, o_, o_, o_, c_ (mkCall Tryz.call13 (F13_ok h9) [3] (by kernel_rfl) (by kernel_rfl)), c_ (mkCall Tryz.call102 (F102_ok h10) [1] (by kernel_rfl) (by kernel_rfl))], R_ [o_, o_, c_ (mkCall Tryz.call101 (F101_ok h11) [0, 1] (by kernel_rfl) (by kernel_rfl)), c_ (mkCall Tryz.call103 (F103_ok h12) [1] (by kernel_rfl) (by kernel_rfl))]] [some 0, some 1] (pc zlt1 <| pc ((fun h => h : ((!(!r1)) = true → (!(!r1)) = true))) <| pc ((fun h => h : ((!(!r1)) = true → (!(!r1)) = true))) <| pc ((fun k2 => (not_t k2) : ((!r1) = false → (!(!r1)) = true))) <| pc ((fun _ => zlt1 : ((!((!r1) || decide ((imax a2 0) ≥ (imin a3 a0.cols)))) = true → 0 < 1))) <| pc ((h2 : (!((!r1) || decide ((imax a2 0) ≥ (imin a3 a0.cols)))) = true)) <| pc ((h2 : (!((!r1) || decide ((imax a2 0) ≥ (imin a3 a0.cols)))) = true)) <| pc ((h2 : (!((!r1) || decide ((imax a2 0) ≥ (imin a3 a0.cols)))) = true)) <| pc (((nt_of h2) : ((!r1) || decide ((imax a2 0) ≥ (imin a3 a0.cols))) = false)) <| pc ((h4 : (!r2) = false)) <| pc h6 <| pc h7 <| pc h8 <| pc zlt1 <| allP_nil) (by kernel_rfl) (by kernel_rfl)
  · replace h := Option.some.inj h
    subst h
    exact WM.retE mixed (e_F115 a0 a1 a2 a3 a4 (a0)) [R_ [.op (.fresh 2 (svB 3 [.i .i64 a4.Flags, .i .i64 a4.Fg, .i .i64 a4.Bg]))], R_ [o_, o_, o_, o_, o_, o_, o_, o_, o_, o_], R_ [o_, o_, c_ (mkCall Tryz.call100 (F100_ok h1) [0, 1] (by kernel_rfl) (by kernel_rfl)), o_, o_, o_, o_, o_, o_, o_, o_, s_, s_, .pk true], T_] [some 0, some 1] (pc zlt1 <| pc ((fun h => h : ((!(!r1)) = true → (!(!r1)) = true))) <| pc ((fun h => h : ((!(!r1)) = true → (!(!r1)) = true))) <| pc ((fun k2 => (not_t k2) : ((!r1) = false → (!(!r1)) = true))) <| pc ((fun _ => zlt1 : ((!((!r1) || decide ((imax a2 0) ≥ (imin a3 a0.cols)))) = true → 0 < 1))) <| pc ((h2 : (!((!r1) || decide ((imax a2 0) ≥ (imin a3 a0.cols)))) = false)) <| pc ((h2 : (!((!r1) || decide ((imax a2 0) ≥ (imin a3 a0.cols)))) = false)) <| pc (((nf_of h2) : ((!r1) || decide ((imax a2 0) ≥ (imin a3 a0.cols))) = true)) <| pc ((rfl : true = true)) <| allP_nil) (by kernel_rfl) (by kernel_rfl)

/-! ### F113: function 113 (*tickertape/term.Term).erases -/
def F113_p1_b (f : Nat) (g1 : term_TermO_2 → Int → Option (term_TermO_2)) (a2 : Int) (a0_1 : term_TermO_2) (x6_1 : Int) : Option (term_TermO_2) :=
  ifb (decide (x6_1 < a2)) (
    bnd (F28 f a0_1) fun r1 =>
    sm r1 (fun r2 =>
      bnd (F115 f a0_1.grids_0 x6_1 0 a0_1.cols a0_1.kept.pen) fun r4 =>
      chk (inR (x6_1 + 1)) <|
      g1 ({ a0_1 with grids_0 := r4 } : term_TermO_2) (x6_1 + 1)) (fun r3 =>
      bnd (F115 f a0_1.grids_1 x6_1 0 a0_1.cols a0_1.kept.pen) fun r5 =>
      chk (inR (x6_1 + 1)) <|
      g1 ({ a0_1 with grids_1 := r5 } : term_TermO_2) (x6_1 + 1))) (
    some (a0_1))
def F113_p1 (f : Nat) (a2 : Int) : Nat → term_TermO_2 → Int → Option (term_TermO_2)
  | 0, _, _ => none
  | j + 1, a0_1, x6_1 => F113_p1_b f (F113_p1 f a2 j) a2 a0_1 x6_1
def F113 (f : Nat) (a0 : term_TermO_2) (a1 : Int) (a2 : Int) : Option (term_TermO_2) :=
  F113_p1 f a2 f a0 a1
def v_F113 (a0 : term_TermO_2) (a1 : Int) (a2 : Int) (y : term_TermO_2) : V :=
  .tup []
def e_F113 (a0 : term_TermO_2) (a1 : Int) (a2 : Int) (y : term_TermO_2) : Env :=
  []
def x_F113 (a0 : term_TermO_2) (a1 : Int) (a2 : Int) (y : term_TermO_2) : List (Option Blk) :=
  [some (B_term_TermO_2 1 3 5 7 9 13 y), some (B_grid_GridO 2 y.grids_0), some (blk_cell_Cell y.grids_0.l), some (B_grid_GridO 4 y.grids_1), some (blk_cell_Cell y.grids_1.l), some (B_tabs_StopsO_1 6 y.stops), some (boolB y.stops.at_), some (B_utf_DecoderO 8 y.signs), some (intB .u8 y.signs.b), some (B_esc_ParserO 10 11 12 y.asks), some (intB .i64 y.asks.params), some (intB .i32 y.asks.text), some (blk_esc_Event y.asks.out), some (intB .u8 y.reply)]
set_option maxRecDepth 100000 in
set_option maxHeartbeats 4000000 in
theorem F113_p1_bok {cx : Cx} {f : Nat} {I1 : Act → World → Prop} {g1 : term_TermO_2 → Int → Option (term_TermO_2)} {a0 : term_TermO_2} {a1 : Int} {a2 : Int} {a0_1 : term_TermO_2} {x6_1 : Int} {y : term_TermO_2} (hg1 : ∀ (a0_1 : term_TermO_2) (x6_1 : Int), g1 a0_1 x6_1 = some y → ∀ a w, cx.In G0 27 14 [(0, ⟨none, .p 0 0 0⟩), (2, ⟨none, .i .i64 a2⟩), (6, ⟨none, .i .i64 x6_1⟩)] [some (B_term_TermO_2 1 3 5 7 9 13 a0_1), some (B_grid_GridO 2 a0_1.grids_0), some (blk_cell_Cell a0_1.grids_0.l), some (B_grid_GridO 4 a0_1.grids_1), some (blk_cell_Cell a0_1.grids_1.l), some (B_tabs_StopsO_1 6 a0_1.stops), some (boolB a0_1.stops.at_), some (B_utf_DecoderO 8 a0_1.signs), some (intB .u8 a0_1.signs.b), some (B_esc_ParserO 10 11 12 a0_1.asks), some (intB .i64 a0_1.asks.params), some (intB .i32 a0_1.asks.text), some (blk_esc_Event a0_1.asks.out), some (intB .u8 a0_1.reply)] a w → I1 a w) (h : F113_p1_b f g1 a2 a0_1 x6_1 = some y) :
    WM Tryz.prog G0 27 14 Tryz.f113.results.toList (v_F113 a0 a1 a2 y) (x_F113 a0 a1 a2 y) cx (nav [.r, .l I1] [.code (bodyOf Tryz.f113)]) [(0, ⟨none, .p 0 0 0⟩), (2, ⟨none, .i .i64 a2⟩), (6, ⟨none, .i .i64 x6_1⟩)] [some (B_term_TermO_2 1 3 5 7 9 13 a0_1), some (B_grid_GridO 2 a0_1.grids_0), some (blk_cell_Cell a0_1.grids_0.l), some (B_grid_GridO 4 a0_1.grids_1), some (blk_cell_Cell a0_1.grids_1.l), some (B_tabs_StopsO_1 6 a0_1.stops), some (boolB a0_1.stops.at_), some (B_utf_DecoderO 8 a0_1.signs), some (intB .u8 a0_1.signs.b), some (B_esc_ParserO 10 11 12 a0_1.asks), some (intB .i64 a0_1.asks.params), some (intB .i32 a0_1.asks.text), some (blk_esc_Event a0_1.asks.out), some (intB .u8 a0_1.reply)] := by
  unfold F113_p1_b at h
  rcases of_ifb h with ⟨h1, h⟩ | ⟨h1, h⟩
  · obtain ⟨r1, h2, h⟩ := of_bnd h
    rcases of_sm h with ⟨r2, rfl, h⟩ | ⟨r3, rfl, h⟩
    · obtain ⟨r4, h3, h⟩ := of_bnd h
      obtain ⟨h4, h⟩ := of_chk h
      exact WM.cut mixed [R_ [o_, o_, o_], T_, R_ [o_, c_ (mkCallT Tryz.call28 (F28_ok h2) [0, 1, 2, 3, 4, 5, 6, 7, 8, 9, 10, 11, 12, 13] [0, 1, 2, 3, 4, 5, 6, 7, 8, 9, 10, 11, 12, 13] (by kernel_rfl) (by kernel_rfl) (by kernel_rfl) (by kernel_rfl)), o_, o_, o_, o_, o_, o_, o_, o_, o_, o_, o_, c_ (mkCall Tryz.call115 (F115_ok h3) [1, 2] (by kernel_rfl) (by kernel_rfl))], R_ [o_, o_, o_]] [some 0, some 1, some 2, some 3, some 4, some 5, some 6, some 7, some 8, some 9, some 10, some 11, some 12, some 13] (pc ((h1 : decide (x6_1 < a2) = true)) <| pc zlt1 <| pc zlt1 <| pc h4 <| allP_nil) (WM.again (k := (nav [.r, .n] [.code (bodyOf Tryz.f113)]).tail) (hg1 _ _ h)) (by kernel_rfl)
    · obtain ⟨r5, h5, h⟩ := of_bnd h
      obtain ⟨h6, h⟩ := of_chk h
      exact WM.cut mixed [R_ [o_, o_, o_], T_, R_ [o_, c_ (mkCallT Tryz.call28 (F28_ok h2) [0, 1, 2, 3, 4, 5, 6, 7, 8, 9, 10, 11, 12, 13] [0, 1, 2, 3, 4, 5, 6, 7, 8, 9, 10, 11, 12, 13] (by kernel_rfl) (by kernel_rfl) (by kernel_rfl) (by kernel_rfl)), o_, o_, o_, o_, o_, o_, o_, o_, o_, o_, o_, c_ (mkCall Tryz.call115 (F115_ok h5) [3, 4] (by kernel_rfl) (by kernel_rfl))], R_ [o_, o_, o_]] [some 0, some 1, some 2, some 3, some 4, some 5, some 6, some 7, some 8, some 9, some 10, some 11, some 12, some 13] (pc ((h1 : decide (x6_1 < a2) = true)) <| pc zlt1 <| pc zlt1 <| pc h6 <| allP_nil) (WM.again (k := (nav [.r, .n] [.code (bodyOf Tryz.f113)]).tail) (hg1 _ _ h)) (by kernel_rfl)
  · replace h := Option.some.inj h
    subst h
    exact WM.retE mixed (e_F113 a0 a1 a2 (a0_1)) [R_ [o_, o_, o_], F_] [some 0, some 1, some 2, some 3, some 4, some 5, some 6, some 7, some 8, some 9, some 10, some 11, some 12, some 13] (pc ((h1 : decide (x6_1 < a2) = false)) <| allP_nil) (by kernel_rfl) (by kernel_rfl)
set_option maxRecDepth 100000 in
set_option maxHeartbeats 4000000 in
theorem F113_p1_ok {cx : Cx} {f : Nat} {a0 : term_TermO_2} {a1 : Int} {a2 : Int} {a0_1 : term_TermO_2} {x6_1 : Int} {j : Nat} {y : term_TermO_2} (h : F113_p1 f a2 j a0_1 x6_1 = some y) :
    WM Tryz.prog G0 27 14 Tryz.f113.results.toList (v_F113 a0 a1 a2 y) (x_F113 a0 a1 a2 y) cx (nav [.r, .n] [.code (bodyOf Tryz.f113)]) [(0, ⟨none, .p 0 0 0⟩), (2, ⟨none, .i .i64 a2⟩), (6, ⟨none, .i .i64 x6_1⟩)] [some (B_term_TermO_2 1 3 5 7 9 13 a0_1), some (B_grid_GridO 2 a0_1.grids_0), some (blk_cell_Cell a0_1.grids_0.l), some (B_grid_GridO 4 a0_1.grids_1), some (blk_cell_Cell a0_1.grids_1.l), some (B_tabs_StopsO_1 6 a0_1.stops), some (boolB a0_1.stops.at_), some (B_utf_DecoderO 8 a0_1.signs), some (intB .u8 a0_1.signs.b), some (B_esc_ParserO 10 11 12 a0_1.asks), some (intB .i64 a0_1.asks.params), some (intB .i32 a0_1.asks.text), some (blk_esc_Event a0_1.asks.out), some (intB .u8 a0_1.reply)] := by
  refine WM.loopN (X := term_TermO_2 × Int) (y := y) (kb := fun I1 => (nav [.r, .l I1] [.code (bodyOf Tryz.f113)])) (by intro I; kernel_rfl) (fun j x => F113_p1 f a2 j x.1 x.2) (fun x => [(0, ⟨none, .p 0 0 0⟩), (2, ⟨none, .i .i64 a2⟩), (6, ⟨none, .i .i64 x.2⟩)]) (fun x => [some (B_term_TermO_2 1 3 5 7 9 13 x.1), some (B_grid_GridO 2 x.1.grids_0), some (blk_cell_Cell x.1.grids_0.l), some (B_grid_GridO 4 x.1.grids_1), some (blk_cell_Cell x.1.grids_1.l), some (B_tabs_StopsO_1 6 x.1.stops), some (boolB x.1.stops.at_), some (B_utf_DecoderO 8 x.1.signs), some (intB .u8 x.1.signs.b), some (B_esc_ParserO 10 11 12 x.1.asks), some (intB .i64 x.1.asks.params), some (intB .i32 x.1.asks.text), some (blk_esc_Event x.1.asks.out), some (intB .u8 x.1.reply)]) ?_ (j := j) (x := (a0_1, x6_1)) h
  intro j x I1 h hI
  cases j with
  | zero => cases h
  | succ j => exact F113_p1_bok (fun x0 x1 => hI j (x0, x1) (Nat.lt_succ_self j)) h
set_option maxRecDepth 100000 in
set_option maxHeartbeats 4000000 in
theorem F113_ok {f : Nat} {a0 : term_TermO_2} {a1 : Int} {a2 : Int} {y : term_TermO_2} (h : F113 f a0 a1 a2 = some y) :
    Spec Tryz.prog G0 113 [.p 0 0 0, .i .i64 a1, .i .i64 a2] [some (B_term_TermO_2 1 3 5 7 9 13 a0), some (B_grid_GridO 2 a0.grids_0), some (blk_cell_Cell a0.grids_0.l), some (B_grid_GridO 4 a0.grids_1), some (blk_cell_Cell a0.grids_1.l), some (B_tabs_StopsO_1 6 a0.stops), some (boolB a0.stops.at_), some (B_utf_DecoderO 8 a0.signs), some (intB .u8 a0.signs.b), some (B_esc_ParserO 10 11 12 a0.asks), some (intB .i64 a0.asks.params), some (intB .i32 a0.asks.text), some (blk_esc_Event a0.asks.out), some (intB .u8 a0.reply)] (v_F113 a0 a1 a2 y) (x_F113 a0 a1 a2 y) :=
  Spec.ofM (fn := Tryz.f113) (c := bodyOf Tryz.f113) (n := 27) (rs := Tryz.f113.results.toList) Tryz.func113 (by kernel_rfl) (by kernel_rfl) (by kernel_rfl) (by kernel_rfl) fun cx => by
  unfold F113 at h
  exact WM.cut mixed [R_ [o_, o_]] [some 0, some 1, some 2, some 3, some 4, some 5, some 6, some 7, some 8, some 9, some 10, some 11, some 12, some 13] (allP_nil) (F113_p1_ok h) (by kernel_rfl)

/-! ### F112: function 112 (*tickertape/term.Term).line -/
def F112 (f : Nat) (a0 : term_TermO_2) (a1 : Int) : Option (term_TermO_2) :=
  ifb (decide (a1 = 0)) (
    bnd (F28 f a0) fun r1 =>
    sm r1 (fun r2 =>
      bnd (F115 f a0.grids_0 a0.kept.cursor.row a0.kept.cursor.col a0.cols a0.kept.pen) fun r4 =>
      some (({ a0 with grids_0 := r4 } : term_TermO_2))) (fun r3 =>
      bnd (F115 f a0.grids_1 a0.kept.cursor.row a0.kept.cursor.col a0.cols a0.kept.pen) fun r5 =>
      some (({ a0 with grids_1 := r5 } : term_TermO_2)))) (
    ifb (decide (a1 = 1)) (
      bnd (F28 f a0) fun r6 =>
      sm r6 (fun r7 =>
        chk (inR (a0.kept.cursor.col + 1)) <|
        bnd (F115 f a0.grids_0 a0.kept.cursor.row 0 (a0.kept.cursor.col + 1) a0.kept.pen) fun r9 =>
        some (({ a0 with grids_0 := r9 } : term_TermO_2))) (fun r8 =>
        chk (inR (a0.kept.cursor.col + 1)) <|
        bnd (F115 f a0.grids_1 a0.kept.cursor.row 0 (a0.kept.cursor.col + 1) a0.kept.pen) fun r10 =>
        some (({ a0 with grids_1 := r10 } : term_TermO_2)))) (
      ifb (decide (a1 = 2)) (
        chk (inR (a0.kept.cursor.row + 1)) <|
        bnd (F113 f a0 a0.kept.cursor.row (a0.kept.cursor.row + 1)) fun r11 =>
        some (r11)) (
        some (a0))))
def v_F112 (a0 : term_TermO_2) (a1 : Int) (y : term_TermO_2) : V :=
  .tup []
def e_F112 (a0 : term_TermO_2) (a1 : Int) (y : term_TermO_2) : Env :=
  []
def x_F112 (a0 : term_TermO_2) (a1 : Int) (y : term_TermO_2) : List (Option Blk) :=
  [some (B_term_TermO_2 1 3 5 7 9 13 y), some (B_grid_GridO 2 y.grids_0), some (blk_cell_Cell y.grids_0.l), some (B_grid_GridO 4 y.grids_1), some (blk_cell_Cell y.grids_1.l), some (B_tabs_StopsO_1 6 y.stops), some (boolB y.stops.at_), some (B_utf_DecoderO 8 y.signs), some (intB .u8 y.signs.b), some (B_esc_ParserO 10 11 12 y.asks), some (intB .i64 y.asks.params), some (intB .i32 y.asks.text), some (blk_esc_Event y.asks.out), some (intB .u8 y.reply)]
set_option maxRecDepth 100000 in
set_option maxHeartbeats 4000000 in
theorem F112_ok {f : Nat} {a0 : term_TermO_2} {a1 : Int} {y : term_TermO_2} (h : F112 f a0 a1 = some y) :
    Spec Tryz.prog G0 112 [.p 0 0 0, .i .i64 a1] [some (B_term_TermO_2 1 3 5 7 9 13 a0), some (B_grid_GridO 2 a0.grids_0), some (blk_cell_Cell a0.grids_0.l), some (B_grid_GridO 4 a0.grids_1), some (blk_cell_Cell a0.grids_1.l), some (B_tabs_StopsO_1 6 a0.stops), some (boolB a0.stops.at_), some (B_utf_DecoderO 8 a0.signs), some (intB .u8 a0.signs.b), some (B_esc_ParserO 10 11 12 a0.asks), some (intB .i64 a0.asks.params), some (intB .i32 a0.asks.text), some (blk_esc_Event a0.asks.out), some (intB .u8 a0.reply)] (v_F112 a0 a1 y) (x_F112 a0 a1 y) :=
  Spec.ofM (fn := Tryz.f112) (c := bodyOf Tryz.f112) (n := 79) (rs := Tryz.f112.results.toList) Tryz.func112 (by kernel_rfl) (by kernel_rfl) (by kernel_rfl) (by kernel_rfl) fun cx => by
  unfold F112 at h
  rcases of_ifb h with ⟨h1, h⟩ | ⟨h1, h⟩
  · obtain ⟨r1, h2, h⟩ := of_bnd h
    rcases of_sm h with ⟨r2, rfl, h⟩ | ⟨r3, rfl, h⟩
    · obtain ⟨r4, h3, h⟩ := of_bnd h
      replace h := Option.some.inj h
      subst h
      exact WM.retE mixed (e_F112 a0 a1 (({ a0 with grids_0 := r4 } : term_TermO_2))) [R_ [o_], R_ [o_, o_], T_, R_ [o_, c_ (mkCallT Tryz.call28 (F28_ok h2) [0, 1, 2, 3, 4, 5, 6, 7, 8, 9, 10, 11, 12, 13] [0, 1, 2, 3, 4, 5, 6, 7, 8, 9, 10, 11, 12, 13] (by kernel_rfl) (by kernel_rfl) (by kernel_rfl) (by kernel_rfl)), o_, o_, o_, o_, o_, o_, o_, o_, o_, o_, o_, o_, o_, o_, o_, o_, o_, o_, o_, o_, o_, o_, o_, o_, c_ (mkCall Tryz.call115 (F115_ok h3) [1, 2] (by kernel_rfl) (by kernel_rfl))]] [some 0, some 1, some 2, some 3, some 4, some 5, some 6, some 7, some 8, some 9, some 10, some 11, some 12, some 13] (pc ((h1 : decide (a1 = 0) = true)) <| pc zlt1 <| pc zlt1 <| pc zlt1 <| pc zlt1 <| allP_nil) (by kernel_rfl) (by kernel_rfl)
    · obtain ⟨r5, h4, h⟩ := of_bnd h
      replace h := Option.some.inj h
      subst h
      exact WM.retE mixed (e_F112 a0 a1 (({ a0 with grids_1 := r5 } : term_TermO_2))) [R_ [o_], R_ [o_, o_], T_, R_ [o_, c_ (mkCallT Tryz.call28 (F28_ok h2) [0, 1, 2, 3, 4, 5, 6, 7, 8, 9, 10, 11, 12, 13] [0, 1, 2, 3, 4, 5, 6, 7, 8, 9, 10, 11, 12, 13] (by kernel_rfl) (by kernel_rfl) (by kernel_rfl) (by kernel_rfl)), o_, o_, o_, o_, o_, o_, o_, o_, o_, o_, o_, o_, o_, o_, o_, o_, o_, o_, o_, o_, o_, o_, o_, o_, c_ (mkCall Tryz.call115 (F115_ok h4) [3, 4] (by kernel_rfl) (by kernel_rfl))]] [some 0, some 1, some 2, some 3, some 4, some 5, some 6, some 7, some 8, some 9, some 10, some 11, some 12, some 13] (pc ((h1 : decide (a1 = 0) = true)) <| pc zlt1 <| pc zlt1 <| pc zlt1 <| pc zlt1 <| allP_nil) (by kernel_rfl) (by kernel_rfl)
  · rcases of_ifb h with ⟨h5, h⟩ | ⟨h5, h⟩
    · obtain ⟨r6, h6, h⟩ := of_bnd h
      rcases of_sm h with ⟨r7, rfl, h⟩ | ⟨r8, rfl, h⟩
      · obtain ⟨h7, h⟩ := of_chk h
        obtain ⟨r9, h8, h⟩ := of_bnd h
        replace h := Option.some.inj h
        subst h
        exact WM.retE mixed (e_F112 a0 a1 (({ a0 with grids_0 := r9 } : term_TermO_2))) [R_ [o_], R_ [o_, o_], F_, R_ [o_, o_], T_, R_ [o_, c_ (mkCallT Tryz.call28 (F28_ok h6) [0, 1, 2, 3, 4, 5, 6, 7, 8, 9, 10, 11, 12, 13] [0, 1, 2, 3, 4, 5, 6, 7, 8, 9, 10, 11, 12, 13] (by kernel_rfl) (by kernel_rfl) (by kernel_rfl) (by kernel_rfl)), o_, o_, o_, o_, o_, o_, o_, o_, o_, o_, o_, o_, o_, o_, o_, o_, o_, o_, o_, o_, o_, c_ (mkCall Tryz.call115 (F115_ok h8) [1, 2] (by kernel_rfl) (by kernel_rfl))]] [some 0, some 1, some 2, some 3, some 4, some 5, some 6, some 7, some 8, some 9, some 10, some 11, some 12, some 13] (pc ((h1 : decide (a1 = 0) = false)) <| pc ((h5 : decide (a1 = 1) = true)) <| pc zlt1 <| pc zlt1 <| pc h7 <| pc zlt1 <| allP_nil) (by kernel_rfl) (by kernel_rfl)
      · obtain ⟨h9, h⟩ := of_chk h
        obtain ⟨r10, h10, h⟩ := of_bnd h
        replace h := Option.some.inj h
        subst h
        exact WM.retE mixed (e_F112 a0 a1 (({ a0 with grids_1 := r10 } : term_TermO_2))) [R_ [o_], R_ [o_, o_], F_, R_ [o_, o_], T_, R_ [o_, c_ (mkCallT Tryz.call28 (F28_ok h6) [0, 1, 2, 3, 4, 5, 6, 7, 8, 9, 10, 11, 12, 13] [0, 1, 2, 3, 4, 5, 6, 7, 8, 9, 10, 11, 12, 13] (by kernel_rfl) (by kernel_rfl) (by kernel_rfl) (by kernel_rfl)), o_, o_, o_, o_, o_, o_, o_, o_, o_, o_, o_, o_, o_, o_, o_, o_, o_, o_, o_, o_, o_, c_ (mkCall Tryz.call115 (F115_ok h10) [3, 4] (by kernel_rfl) (by kernel_rfl))]] [some 0, some 1, some 2, some 3, some 4, some 5, some 6, some 7, some 8, some 9, some 10, some 11, some 12, some 13] (pc ((h1 : decide (a1 = 0) = false)) <| pc ((h5 : decide (a1 = 1) = true)) <| pc zlt1 <| pc zlt1 <| pc h9 <| pc zlt1 <| allP_nil) (by kernel_rfl) (by kernel_rfl)
    · rcases of_ifb h with ⟨h11, h⟩ | ⟨h11, h⟩
      · obtain ⟨h12, h⟩ := of_chk h
        obtain ⟨r11, h13, h⟩ := of_bnd h
        replace h := Option.some.inj h
        subst h
        exact WM.retE mixed (e_F112 a0 a1 (r11)) [R_ [o_], R_ [o_, o_], F_, R_ [o_, o_], F_, R_ [o_, o_], T_, R_ [o_, o_, o_, o_, o_, o_, o_, o_, o_, o_, o_, o_, o_, o_, o_, o_, c_ (mkCall Tryz.call113 (F113_ok h13) [0, 1, 2, 3, 4, 5, 6, 7, 8, 9, 10, 11, 12, 13] (by kernel_rfl) (by kernel_rfl))]] [some 0, some 1, some 2, some 3, some 4, some 5, some 6, some 7, some 8, some 9, some 10, some 11, some 12, some 13] (pc ((h1 : decide (a1 = 0) = false)) <| pc ((h5 : decide (a1 = 1) = false)) <| pc ((h11 : decide (a1 = 2) = true)) <| pc zlt1 <| pc zlt1 <| pc h12 <| allP_nil) (by kernel_rfl) (by kernel_rfl)
      · replace h := Option.some.inj h
        subst h
        exact WM.retE mixed (e_F112 a0 a1 (a0)) [R_ [o_], R_ [o_, o_], F_, R_ [o_, o_], F_, R_ [o_, o_], F_] [some 0, some 1, some 2, some 3, some 4, some 5, some 6, some 7, some 8, some 9, some 10, some 11, some 12, some 13] (pc ((h1 : decide (a1 = 0) = false)) <| pc ((h5 : decide (a1 = 1) = false)) <| pc ((h11 : decide (a1 = 2) = false)) <| allP_nil) (by kernel_rfl) (by kernel_rfl)

/-! ### F114: function 114 (*tickertape/term.Term).rowsOf -/
def F114 (f : Nat) (a0 : term_TermO_2) (a1 : Int) : Option (term_TermO_2) :=
  ifb ((decide (a0.kept.cursor.row ≥ a0.top) && decide (a0.kept.cursor.row ≤ a0.bottom))) (
    bnd (F28 f a0) fun r1 =>
    sm r1 (fun r2 =>
      bnd (F106 f a0.grids_0 a0.kept.cursor.row a0.bottom a1 a0.kept.pen) fun r4 =>
      bnd (F74 f ({ a0 with grids_0 := r4 } : term_TermO_2) a0.kept.cursor.row 0) fun r5 =>
      some (r5)) (fun r3 =>
      bnd (F106 f a0.grids_1 a0.kept.cursor.row a0.bottom a1 a0.kept.pen) fun r6 =>
      bnd (F74 f ({ a0 with grids_1 := r6 } : term_TermO_2) a0.kept.cursor.row 0) fun r7 =>
      some (r7))) (
    some (a0))
def v_F114 (a0 : term_TermO_2) (a1 : Int) (y : term_TermO_2) : V :=
  .tup []
def e_F114 (a0 : term_TermO_2) (a1 : Int) (y : term_TermO_2) : Env :=
  []
def x_F114 (a0 : term_TermO_2) (a1 : Int) (y : term_TermO_2) : List (Option Blk) :=
  [some (B_term_TermO_2 1 3 5 7 9 13 y), some (B_grid_GridO 2 y.grids_0), some (blk_cell_Cell y.grids_0.l), some (B_grid_GridO 4 y.grids_1), some (blk_cell_Cell y.grids_1.l), some (B_tabs_StopsO_1 6 y.stops), some (boolB y.stops.at_), some (B_utf_DecoderO 8 y.signs), some (intB .u8 y.signs.b), some (B_esc_ParserO 10 11 12 y.asks), some (intB .i64 y.asks.params), some (intB .i32 y.asks.text), some (blk_esc_Event y.asks.out), some (intB .u8 y.reply)]
set_option maxRecDepth 100000 in
set_option maxHeartbeats 4000000 in
theorem F114_ok {f : Nat} {a0 : term_TermO_2} {a1 : Int} {y : term_TermO_2} (h : F114 f a0 a1 = some y) :
    Spec Tryz.prog G0 114 [.p 0 0 0, .i .i64 a1] [some (B_term_TermO_2 1 3 5 7 9 13 a0), some (B_grid_GridO 2 a0.grids_0), some (blk_cell_Cell a0.grids_0.l), some (B_grid_GridO 4 a0.grids_1), some (blk_cell_Cell a0.grids_1.l), some (B_tabs_StopsO_1 6 a0.stops), some (boolB a0.stops.at_), some (B_utf_DecoderO 8 a0.signs), some (intB .u8 a0.signs.b), some (B_esc_ParserO 10 11 12 a0.asks), some (intB .i64 a0.asks.params), some (intB .i32 a0.asks.text), some (blk_esc_Event a0.asks.out), some (intB .u8 a0.reply)] (v_F114 a0 a1 y) (x_F114 a0 a1 y) :=
  Spec.ofM (fn := Tryz.f114) (c := bodyOf Tryz.f114) (n := 63) (rs := Tryz.f114.results.toList) Tryz.func114 (by kernel_rfl) (by kernel_rfl) (by kernel_rfl) (by kernel_rfl) fun cx => by
  unfold F114 at h
  rcases of_ifb h with ⟨h1, h⟩ | ⟨h1, h⟩
  · obtain ⟨r1, h2, h⟩ := of_bnd h
    rcases of_sm h with ⟨r2, rfl, h⟩ | ⟨r3, rfl, h⟩
    · obtain ⟨r4, h3, h⟩ := of_bnd h
      obtain ⟨r5, h4, h⟩ := of_bnd h
      replace h := Option.some.inj h
      subst h
      exact WM.retE mixed (e_F114 a0 a1 (r5)) [R_ [o_, o_, o_, o_, o_, o_, o_, o_, o_, o_, o_, o_, o_, o_, o_, o_, o_, o_, o_, o_, o_, o_, o_, o_, o_, o_, o_, o_], T_, R_ [o_, c_ (mkCallT Tryz.call28 (F28_ok h2) [0, 1, 2, 3, 4, 5, 6, 7, 8, 9, 10, 11, 12, 13] [0, 1, 2, 3, 4, 5, 6, 7, 8, 9, 10, 11, 12, 13] (by kernel_rfl) (by kernel_rfl) (by kernel_rfl) (by kernel_rfl)), o_, o_, o_, o_, o_, o_, o_, o_, o_, o_, o_, o_, o_, o_, o_, o_, o_, o_, o_, c_ (mkCall Tryz.call106 (F106_ok h3) [1, 2] (by kernel_rfl) (by kernel_rfl))], R_ [o_, o_, o_, o_, o_, o_, o_, o_, c_ (mkCall Tryz.call74 (F74_ok h4) [0, 1, 2, 3, 4, 5, 6, 7, 8, 9, 10, 11, 12, 13] (by kernel_rfl) (by kernel_rfl))]] [some 0, some 1, some 2, some 3, some 4, some 5, some 6, some 7, some 8, some 9, some 10, some 11, some 12, some 13] (pc zlt1 <| pc zlt1 <| pc ((fun h => h : (decide (a0.kept.cursor.row ≥ a0.top) = true → decide (a0.kept.cursor.row ≥ a0.top) = true))) <| pc ((fun h => h : (decide (a0.kept.cursor.row ≥ a0.top) = true → decide (a0.kept.cursor.row ≥ a0.top) = true))) <| pc ((fun h => h : (decide (a0.kept.cursor.row ≥ a0.top) = true → decide (a0.kept.cursor.row ≥ a0.top) = true))) <| pc ((fun h => h : (decide (a0.kept.cursor.row ≥ a0.top) = true → decide (a0.kept.cursor.row ≥ a0.top) = true))) <| pc ((fun h => h : (decide (a0.kept.cursor.row ≥ a0.top) = true → decide (a0.kept.cursor.row ≥ a0.top) = true))) <| pc ((fun h => h : (decide (a0.kept.cursor.row ≥ a0.top) = true → decide (a0.kept.cursor.row ≥ a0.top) = true))) <| pc ((fun _ => zlt1 : (decide (a0.kept.cursor.row ≥ a0.top) = true → 0 < 1))) <| pc ((fun h => h : (decide (a0.kept.cursor.row ≥ a0.top) = true → decide (a0.kept.cursor.row ≥ a0.top) = true))) <| pc ((fun h => h : (decide (a0.kept.cursor.row ≥ a0.top) = true → decide (a0.kept.cursor.row ≥ a0.top) = true))) <| pc ((fun h => h : (decide (a0.kept.cursor.row ≥ a0.top) = true → decide (a0.kept.cursor.row ≥ a0.top) = true))) <| pc ((fun h => h : (decide (a0.kept.cursor.row ≥ a0.top) = true → decide (a0.kept.cursor.row ≥ a0.top) = true))) <| pc ((fun _ => zlt1 : (decide (a0.kept.cursor.row ≥ a0.top) = true → 0 < 1))) <| pc ((fun h => h : (decide (a0.kept.cursor.row ≥ a0.top) = true → decide (a0.kept.cursor.row ≥ a0.top) = true))) <| pc ((fun h => h : (decide (a0.kept.cursor.row ≥ a0.top) = true → decide (a0.kept.cursor.row ≥ a0.top) = true))) <| pc ((fun k2 => k2 : (decide (a0.kept.cursor.row ≥ a0.top) = true → decide (a0.kept.cursor.row ≥ a0.top) = true))) <| pc ((h1 : (decide (a0.kept.cursor.row ≥ a0.top) && decide (a0.kept.cursor.row ≤ a0.bottom)) = true)) <| pc zlt1 <| pc zlt1 <| pc zlt1 <| pc zlt1 <| allP_nil) (by kernel_rfl) (by kernel_rfl)
    · obtain ⟨r6, h5, h⟩ := of_bnd h
      obtain ⟨r7, h6, h⟩ := of_bnd h
      replace h := Option.some.inj h
      subst h
      exact WM.retE mixed (e_F114 a0 a1 (r7)) [R_ [o_, o_, o_, o_, o_, o_, o_, o_, o_, o_, o_, o_, o_, o_, o_, o_, o_, o_, o_, o_, o_, o_, o_, o_, o_, o_, o_, o_], T_, R_ [o_, c_ (mkCallT Tryz.call28 (F28_ok h2) [0, 1, 2, 3, 4, 5, 6, 7, 8, 9, 10, 11, 12, 13] [0, 1, 2, 3, 4, 5, 6, 7, 8, 9, 10, 11, 12, 13] (by kernel_rfl) (by kernel_rfl) (by kernel_rfl) (by kernel_rfl)), o_, o_, o_, o_, o_, o_, o_, o_, o_, o_, o_, o_, o_, o_, o_, o_, o_, o_, o_, c_ (mkCall Tryz.call106 (F106_ok h5) [3, 4] (by kernel_rfl) (by kernel_rfl))], R_ [o_, o_, o_, o_, o_, o_, o_, o_, c_ (mkCall Tryz.call74 (F74_ok h6) [0, 1, 2, 3, 4, 5, 6, 7, 8, 9, 10, 11, 12, 13] (by kernel_rfl) (by kernel_rfl))]] [some 0, some 1, some 2, some 3, some 4, some 5, some 6, some 7, some 8, some 9, some 10, some 11, some 12, some 13] (pc zlt1 <| pc zlt1 <| pc ((fun h => h : (decide (a0.kept.cursor.row ≥ a0.top) = true → decide (a0.kept.cursor.row ≥ a0.top) = true))) <| pc ((fun h => h : (decide (a0.kept.cursor.row ≥ a0.top) = true → decide (a0.kept.cursor.row ≥ a0.top) = true))) <| pc ((fun h => h : (decide (a0.kept.cursor.row ≥ a0.top) = true → decide (a0.kept.cursor.row ≥ a0.top) = true))) <| pc ((fun h => h : (decide (a0.kept.cursor.row ≥ a0.top) = true → decide (a0.kept.cursor.row ≥ a0.top) = true))) <| pc ((fun h => h : (decide (a0.kept.cursor.row ≥ a0.top) = true → decide (a0.kept.cursor.row ≥ a0.top) = true))) <| pc ((fun h => h : (decide (a0.kept.cursor.row ≥ a0.top) = true → decide (a0.kept.cursor.row ≥ a0.top) = true))) <| pc ((fun _ => zlt1 : (decide (a0.kept.cursor.row ≥ a0.top) = true → 0 < 1))) <| pc ((fun h => h : (decide (a0.kept.cursor.row ≥ a0.top) = true → decide (a0.kept.cursor.row ≥ a0.top) = true))) <| pc ((fun h => h : (decide (a0.kept.cursor.row ≥ a0.top) = true → decide (a0.kept.cursor.row ≥ a0.top) = true))) <| pc ((fun h => h : (decide (a0.kept.cursor.row ≥ a0.top) = true → decide (a0.kept.cursor.row ≥ a0.top) = true))) <| pc ((fun h => h : (decide (a0.kept.cursor.row ≥ a0.top) = true → decide (a0.kept.cursor.row ≥ a0.top) = true))) <| pc ((fun _ => zlt1 : (decide (a0.kept.cursor.row ≥ a0.top) = true → 0 < 1))) <| pc ((fun h => h : (decide (a0.kept.cursor.row ≥ a0.top) = true → decide (a0.kept.cursor.row ≥ a0.top) = true))) <| pc ((fun h => h : (decide (a0.kept.cursor.row ≥ a0.top) = true → decide (a0.kept.cursor.row ≥ a0.top) = true))) <| pc ((fun k2 => k2 : (decide (a0.kept.cursor.row ≥ a0.top) = true → decide (a0.kept.cursor.row ≥ a0.top) = true))) <| pc ((h1 : (decide (a0.kept.cursor.row ≥ a0.top) && decide (a0.kept.cursor.row ≤ a0.bottom)) = true)) <| pc zlt1 <| pc zlt1 <| pc zlt1 <| pc zlt1 <| allP_nil) (by kernel_rfl) (by kernel_rfl)
  · replace h := Option.some.inj h
    subst h
    exact WM.retE mixed (e_F114 a0 a1 (a0)) [R_ [o_, o_, o_, o_, o_, o_, o_, o_, o_, o_, o_, o_, o_, o_, o_, o_, o_, o_, o_, o_, o_, o_, o_, o_, o_, o_, o_, o_], F_] [some 0, some 1, some 2, some 3, some 4, some 5, some 6, some 7, some 8, some 9, some 10, some 11, some 12, some 13] (pc zlt1 <| pc zlt1 <| pc ((fun h => h : (decide (a0.kept.cursor.row ≥ a0.top) = true → decide (a0.kept.cursor.row ≥ a0.top) = true))) <| pc ((fun h => h : (decide (a0.kept.cursor.row ≥ a0.top) = true → decide (a0.kept.cursor.row ≥ a0.top) = true))) <| pc ((fun h => h : (decide (a0.kept.cursor.row ≥ a0.top) = true → decide (a0.kept.cursor.row ≥ a0.top) = true))) <| pc ((fun h => h : (decide (a0.kept.cursor.row ≥ a0.top) = true → decide (a0.kept.cursor.row ≥ a0.top) = true))) <| pc ((fun h => h : (decide (a0.kept.cursor.row ≥ a0.top) = true → decide (a0.kept.cursor.row ≥ a0.top) = true))) <| pc ((fun h => h : (decide (a0.kept.cursor.row ≥ a0.top) = true → decide (a0.kept.cursor.row ≥ a0.top) = true))) <| pc ((fun _ => zlt1 : (decide (a0.kept.cursor.row ≥ a0.top) = true → 0 < 1))) <| pc ((fun h => h : (decide (a0.kept.cursor.row ≥ a0.top) = true → decide (a0.kept.cursor.row ≥ a0.top) = true))) <| pc ((fun h => h : (decide (a0.kept.cursor.row ≥ a0.top) = true → decide (a0.kept.cursor.row ≥ a0.top) = true))) <| pc ((fun h => h : (decide (a0.kept.cursor.row ≥ a0.top) = true → decide (a0.kept.cursor.row ≥ a0.top) = true))) <| pc ((fun h => h : (decide (a0.kept.cursor.row ≥ a0.top) = true → decide (a0.kept.cursor.row ≥ a0.top) = true))) <| pc ((fun _ => zlt1 : (decide (a0.kept.cursor.row ≥ a0.top) = true → 0 < 1))) <| pc ((fun h => h : (decide (a0.kept.cursor.row ≥ a0.top) = true → decide (a0.kept.cursor.row ≥ a0.top) = true))) <| pc ((fun h => h : (decide (a0.kept.cursor.row ≥ a0.top) = true → decide (a0.kept.cursor.row ≥ a0.top) = true))) <| pc ((fun k2 => k2 : (decide (a0.kept.cursor.row ≥ a0.top) = true → decide (a0.kept.cursor.row ≥ a0.top) = true))) <| pc ((h1 : (decide (a0.kept.cursor.row ≥ a0.top) && decide (a0.kept.cursor.row ≤ a0.bottom)) = false)) <| allP_nil) (by kernel_rfl) (by kernel_rfl)

/-! ### F86: function 86 (*tickertape/term.Term).edits -/
def F86 (f : Nat) (a0 : term_TermO_2) (a1 : Int) (a2 : Int) (a3 : Int) : Option (term_TermO_2 × Bool) :=
  ifb (decide (a1 = 74)) (
    bnd (F112 f a0 a3) fun r1 =>
    ifb (decide (a3 = 0)) (
      chk (inR (r1.kept.cursor.row + 1)) <|
      bnd (F113 f r1 (r1.kept.cursor.row + 1) r1.rows) fun r2 =>
      some ((r2, true))) (
      ifb (decide (a3 = 1)) (
        bnd (F113 f r1 0 r1.kept.cursor.row) fun r3 =>
        some ((r3, true))) (
        ifb (decide (a3 = 2)) (
          bnd (F113 f r1 0 r1.rows) fun r4 =>
          some ((r4, true))) (
          some ((r1, true)))))) (
    ifb (decide (a1 = 75)) (
      bnd (F112 f a0 a3) fun r5 =>
      some ((r5, true))) (
      ifb (decide (a1 = 76)) (
        chk (inR (0 - a2)) <|
        bnd (F114 f a0 (0 - a2)) fun r6 =>
        some ((r6, true))) (
        ifb (decide (a1 = 77)) (
          bnd (F114 f a0 a2) fun r7 =>
          some ((r7, true))) (
          ifb (decide (a1 = 64)) (
            bnd (F28 f a0) fun r8 =>
            sm r8 (fun r9 =>
              bnd (F72 f a0.grids_0 a0.kept.cursor.row a0.kept.cursor.col a2 a0.kept.pen) fun r11 =>
              some ((({ a0 with grids_0 := r11 } : term_TermO_2), true))) (fun r10 =>
              bnd (F72 f a0.grids_1 a0.kept.cursor.row a0.kept.cursor.col a2 a0.kept.pen) fun r12 =>
              some ((({ a0 with grids_1 := r12 } : term_TermO_2), true)))) (
            ifb (decide (a1 = 80)) (
              bnd (F28 f a0) fun r13 =>
              sm r13 (fun r14 =>
                chk (inR (0 - a2)) <|
                bnd (F72 f a0.grids_0 a0.kept.cursor.row a0.kept.cursor.col (0 - a2) a0.kept.pen) fun r16 =>
                some ((({ a0 with grids_0 := r16 } : term_TermO_2), true))) (fun r15 =>
                chk (inR (0 - a2)) <|
                bnd (F72 f a0.grids_1 a0.kept.cursor.row a0.kept.cursor.col (0 - a2) a0.kept.pen) fun r17 =>
                some ((({ a0 with grids_1 := r17 } : term_TermO_2), true)))) (
              ifb (decide (a1 = 88)) (
                bnd (F28 f a0) fun r18 =>
                sm r18 (fun r19 =>
                  chk (inR (a0.kept.cursor.col + a2)) <|
                  bnd (F115 f a0.grids_0 a0.kept.cursor.row a0.kept.cursor.col (a0.kept.cursor.col + a2) a0.kept.pen) fun r21 =>
                  some ((({ a0 with grids_0 := r21 } : term_TermO_2), true))) (fun r20 =>
                  chk (inR (a0.kept.cursor.col + a2)) <|
                  bnd (F115 f a0.grids_1 a0.kept.cursor.row a0.kept.cursor.col (a0.kept.cursor.col + a2) a0.kept.pen) fun r22 =>
                  some ((({ a0 with grids_1 := r22 } : term_TermO_2), true)))) (
                ifb (decide (a1 = 83)) (
                  bnd (F28 f a0) fun r23 =>
                  sm r23 (fun r24 =>
                    bnd (F106 f a0.grids_0 a0.top a0.bottom a2 a0.kept.pen) fun r26 =>
                    some ((({ a0 with grids_0 := r26 } : term_TermO_2), true))) (fun r25 =>
                    bnd (F106 f a0.grids_1 a0.top a0.bottom a2 a0.kept.pen) fun r27 =>
                    some ((({ a0 with grids_1 := r27 } : term_TermO_2), true)))) (
                  ifb (decide (a1 = 84)) (
                    bnd (F28 f a0) fun r28 =>
                    sm r28 (fun r29 =>
                      chk (inR (0 - a2)) <|
                      bnd (F106 f a0.grids_0 a0.top a0.bottom (0 - a2) a0.kept.pen) fun r31 =>
                      some ((({ a0 with grids_0 := r31 } : term_TermO_2), true))) (fun r30 =>
                      chk (inR (0 - a2)) <|
                      bnd (F106 f a0.grids_1 a0.top a0.bottom (0 - a2) a0.kept.pen) fun r32 =>
                      some ((({ a0 with grids_1 := r32 } : term_TermO_2), true)))) (
                    some ((a0, false)))))))))))
def v_F86 (a0 : term_TermO_2) (a1 : Int) (a2 : Int) (a3 : Int) (y : term_TermO_2 × Bool) : V :=
  .b y.2
def e_F86 (a0 : term_TermO_2) (a1 : Int) (a2 : Int) (a3 : Int) (y : term_TermO_2 × Bool) : Env :=
  [(8, ⟨none, .b y.2⟩)]
def x_F86 (a0 : term_TermO_2) (a1 : Int) (a2 : Int) (a3 : Int) (y : term_TermO_2 × Bool) : List (Option Blk) :=
  [some (B_term_TermO_2 1 3 5 7 9 13 y.1), some (B_grid_GridO 2 y.1.grids_0), some (blk_cell_Cell y.1.grids_0.l), some (B_grid_GridO 4 y.1.grids_1), some (blk_cell_Cell y.1.grids_1.l), some (B_tabs_StopsO_1 6 y.1.stops), some (boolB y.1.stops.at_), some (B_utf_DecoderO 8 y.1.signs), some (intB .u8 y.1.signs.b), some (B_esc_ParserO 10 11 12 y.1.asks), some (intB .i64 y.1.asks.params), some (intB .i32 y.1.asks.text), some (blk_esc_Event y.1.asks.out), some (intB .u8 y.1.reply)]
set_option maxRecDepth 100000 in
set_option maxHeartbeats 4000000 in
theorem F86_ok {f : Nat} {a0 : term_TermO_2} {a1 : Int} {a2 : Int} {a3 : Int} {y : term_TermO_2 × Bool} (h : F86 f a0 a1 a2 a3 = some y) :
    Spec Tryz.prog G0 86 [.p 0 0 0, .i .i32 a1, .i .i64 a2, .i .i64 a3] [some (B_term_TermO_2 1 3 5 7 9 13 a0), some (B_grid_GridO 2 a0.grids_0), some (blk_cell_Cell a0.grids_0.l), some (B_grid_GridO 4 a0.grids_1), some (blk_cell_Cell a0.grids_1.l), some (B_tabs_StopsO_1 6 a0.stops), some (boolB a0.stops.at_), some (B_utf_DecoderO 8 a0.signs), some (intB .u8 a0.signs.b), some (B_esc_ParserO 10 11 12 a0.asks), some (intB .i64 a0.asks.params), some (intB .i32 a0.asks.text), some (blk_esc_Event a0.asks.out), some (intB .u8 a0.reply)] (v_F86 a0 a1 a2 a3 y) (x_F86 a0 a1 a2 a3 y) :=
  Spec.ofM (fn := Tryz.f86) (c := bodyOf Tryz.f86) (n := 199) (rs := Tryz.f86.results.toList) Tryz.func86 (by kernel_rfl) (by kernel_rfl) (by kernel_rfl) (by kernel_rfl) fun cx => by
  unfold F86 at h
  rcases of_ifb h with ⟨h1, h⟩ | ⟨h1, h⟩
  · obtain ⟨r1, h2, h⟩ := of_bnd h
    rcases of_ifb h with ⟨h3, h⟩ | ⟨h3, h⟩
    · obtain ⟨h4, h⟩ := of_chk h
      obtain ⟨r2, h5, h⟩ := of_bnd h
      replace h := Option.some.inj h
      subst h
      exact WM.retE mixed (e_F86 a0 a1 a2 a3 ((r2, true))) [R_ [o_], R_ [o_], R_ [o_, o_], T_, R_ [o_, o_, c_ (mkCall Tryz.call112 (F112_ok h2) [0, 1, 2, 3, 4, 5, 6, 7, 8, 9, 10, 11, 12, 13] (by kernel_rfl) (by kernel_rfl))], R_ [o_], R_ [o_, o_], T_, R_ [o_, o_, o_, o_, o_, o_, o_, o_, o_, o_, o_, o_, o_, c_ (mkCall Tryz.call113 (F113_ok h5) [0, 1, 2, 3, 4, 5, 6, 7, 8, 9, 10, 11, 12, 13] (by kernel_rfl) (by kernel_rfl))], R_ [o_]] [some 0, some 1, some 2, some 3, some 4, some 5, some 6, some 7, some 8, some 9, some 10, some 11, some 12, some 13] (pc ((h1 : decide (a1 = 74) = true)) <| pc ((h3 : decide (a3 = 0) = true)) <| pc zlt1 <| pc h4 <| pc zlt1 <| allP_nil) (by kernel_rfl) (by kernel_rfl)
    · rcases of_ifb h with ⟨h6, h⟩ | ⟨h6, h⟩
      · obtain ⟨r3, h7, h⟩ := of_bnd h
        replace h := Option.some.inj h
        subst h
        exact WM.retE mixed (e_F86 a0 a1 a2 a3 ((r3, true))) [R_ [o_], R_ [o_], R_ [o_, o_], T_, R_ [o_, o_, c_ (mkCall Tryz.call112 (F112_ok h2) [0, 1, 2, 3, 4, 5, 6, 7, 8, 9, 10, 11, 12, 13] (by kernel_rfl) (by kernel_rfl))], R_ [o_], R_ [o_, o_], F_, R_ [o_, o_], T_, R_ [o_, o_, o_, o_, o_, o_, o_, o_, c_ (mkCall Tryz.call113 (F113_ok h7) [0, 1, 2, 3, 4, 5, 6, 7, 8, 9, 10, 11, 12, 13] (by kernel_rfl) (by kernel_rfl))], R_ [o_]] [some 0, some 1, some 2, some 3, some 4, some 5, some 6, some 7, some 8, some 9, some 10, some 11, some 12, some 13] (pc ((h1 : decide (a1 = 74) = true)) <| pc ((h3 : decide (a3 = 0) = false)) <| pc ((h6 : decide (a3 = 1) = true)) <| pc zlt1 <| allP_nil) (by kernel_rfl) (by kernel_rfl)
      · rcases of_ifb h with ⟨h8, h⟩ | ⟨h8, h⟩
        · obtain ⟨r4, h9, h⟩ := of_bnd h
          replace h := Option.some.inj h
          subst h
          exact WM.retE mixed (e_F86 a0 a1 a2 a3 ((r4, true))) [R_ [o_], R_ [o_], R_ [o_, o_], T_, R_ [o_, o_, c_ (mkCall Tryz.call112 (F112_ok h2) [0, 1, 2, 3, 4, 5, 6, 7, 8, 9, 10, 11, 12, 13] (by kernel_rfl) (by kernel_rfl))], R_ [o_], R_ [o_, o_], F_, R_ [o_, o_], F_, R_ [o_, o_], T_, R_ [o_, o_, o_, o_, o_, c_ (mkCall Tryz.call113 (F113_ok h9) [0, 1, 2, 3, 4, 5, 6, 7, 8, 9, 10, 11, 12, 13] (by kernel_rfl) (by kernel_rfl))], R_ [o_]] [some 0, some 1, some 2, some 3, some 4, some 5, some 6, some 7, some 8, some 9, some 10, some 11, some 12, some 13] (pc ((h1 : decide (a1 = 74) = true)) <| pc ((h3 : decide (a3 = 0) = false)) <| pc ((h6 : decide (a3 = 1) = false)) <| pc ((h8 : decide (a3 = 2) = true)) <| pc zlt1 <| allP_nil) (by kernel_rfl) (by kernel_rfl)
        · replace h := Option.some.inj h
          subst h
          exact WM.retE mixed (e_F86 a0 a1 a2 a3 ((r1, true))) [R_ [o_], R_ [o_], R_ [o_, o_], T_, R_ [o_, o_, c_ (mkCall Tryz.call112 (F112_ok h2) [0, 1, 2, 3, 4, 5, 6, 7, 8, 9, 10, 11, 12, 13] (by kernel_rfl) (by kernel_rfl))], R_ [o_], R_ [o_, o_], F_, R_ [o_, o_], F_, R_ [o_, o_], F_, R_ [o_]] [some 0, some 1, some 2, some 3, some 4, some 5, some 6, some 7, some 8, some 9, some 10, some 11, some 12, some 13] (pc ((h1 : decide (a1 = 74) = true)) <| pc ((h3 : decide (a3 = 0) = false)) <| pc ((h6 : decide (a3 = 1) = false)) <| pc ((h8 : decide (a3 = 2) = false)) <| allP_nil) (by kernel_rfl) (by kernel_rfl)
  · rcases of_ifb h with ⟨h10, h⟩ | ⟨h10, h⟩
    · obtain ⟨r5, h11, h⟩ := of_bnd h
      replace h := Option.some.inj h
      subst h
      exact WM.retE mixed (e_F86 a0 a1 a2 a3 ((r5, true))) [R_ [o_], R_ [o_], R_ [o_, o_], F_, R_ [o_, o_], T_, R_ [o_, o_, c_ (mkCall Tryz.call112 (F112_ok h11) [0, 1, 2, 3, 4, 5, 6, 7, 8, 9, 10, 11, 12, 13] (by kernel_rfl) (by kernel_rfl))], R_ [o_]] [some 0, some 1, some 2, some 3, some 4, some 5, some 6, some 7, some 8, some 9, some 10, some 11, some 12, some 13] (pc ((h1 : decide (a1 = 74) = false)) <| pc ((h10 : decide (a1 = 75) = true)) <| allP_nil) (by kernel_rfl) (by kernel_rfl)
    · rcases of_ifb h with ⟨h12, h⟩ | ⟨h12, h⟩
      · obtain ⟨h13, h⟩ := of_chk h
        obtain ⟨r6, h14, h⟩ := of_bnd h
        replace h := Option.some.inj h
        subst h
        exact WM.retE mixed (e_F86 a0 a1 a2 a3 ((r6, true))) [R_ [o_], R_ [o_], R_ [o_, o_], F_, R_ [o_, o_], F_, R_ [o_, o_], T_, R_ [o_, o_, o_, c_ (mkCall Tryz.call114 (F114_ok h14) [0, 1, 2, 3, 4, 5, 6, 7, 8, 9, 10, 11, 12, 13] (by kernel_rfl) (by kernel_rfl))], R_ [o_]] [some 0, some 1, some 2, some 3, some 4, some 5, some 6, some 7, some 8, some 9, some 10, some 11, some 12, some 13] (pc ((h1 : decide (a1 = 74) = false)) <| pc ((h10 : decide (a1 = 75) = false)) <| pc ((h12 : decide (a1 = 76) = true)) <| pc h13 <| allP_nil) (by kernel_rfl) (by kernel_rfl)
      · rcases of_ifb h with ⟨h15, h⟩ | ⟨h15, h⟩
        · obtain ⟨r7, h16, h⟩ := of_bnd h
          replace h := Option.some.inj h
          subst h
          exact WM.retE mixed (e_F86 a0 a1 a2 a3 ((r7, true))) [R_ [o_], R_ [o_], R_ [o_, o_], F_, R_ [o_, o_], F_, R_ [o_, o_], F_, R_ [o_, o_], T_, R_ [o_, o_, c_ (mkCall Tryz.call114 (F114_ok h16) [0, 1, 2, 3, 4, 5, 6, 7, 8, 9, 10, 11, 12, 13] (by kernel_rfl) (by kernel_rfl))], R_ [o_]] [some 0, some 1, some 2, some 3, some 4, some 5, some 6, some 7, some 8, some 9, some 10, some 11, some 12, some 13] (pc ((h1 : decide (a1 = 74) = false)) <| pc ((h10 : decide (a1 = 75) = false)) <| pc ((h12 : decide (a1 = 76) = false)) <| pc ((h15 : decide (a1 = 77) = true)) <| allP_nil) (by kernel_rfl) (by kernel_rfl)
        · rcases of_ifb h with ⟨h17, h⟩ | ⟨h17, h⟩
          · obtain ⟨r8, h18, h⟩ := of_bnd h
            rcases of_sm h with ⟨r9, rfl, h⟩ | ⟨r10, rfl, h⟩
            · obtain ⟨r11, h19, h⟩ := of_bnd h
              replace h := Option.some.inj h
              subst h
              exact WM.retE mixed (e_F86 a0 a1 a2 a3 ((({ a0 with grids_0 := r11 } : term_TermO_2), true))) [R_ [o_], R_ [o_], R_ [o_, o_], F_, R_ [o_, o_], F_, R_ [o_, o_], F_, R_ [o_, o_], F_, R_ [o_, o_], T_, R_ [o_, c_ (mkCallT Tryz.call28 (F28_ok h18) [0, 1, 2, 3, 4, 5, 6, 7, 8, 9, 10, 11, 12, 13] [0, 1, 2, 3, 4, 5, 6, 7, 8, 9, 10, 11, 12, 13] (by kernel_rfl) (by kernel_rfl) (by kernel_rfl) (by kernel_rfl)), o_, o_, o_, o_, o_, o_, o_, o_, o_, o_, o_, o_, o_, o_, o_, o_, o_, o_, o_, o_, o_, c_ (mkCall Tryz.call72 (F72_ok h19) [1, 2] (by kernel_rfl) (by kernel_rfl))], R_ [o_]] [some 0, some 1, some 2, some 3, some 4, some 5, some 6, some 7, some 8, some 9, some 10, some 11, some 12, some 13] (pc ((h1 : decide (a1 = 74) = false)) <| pc ((h10 : decide (a1 = 75) = false)) <| pc ((h12 : decide (a1 = 76) = false)) <| pc ((h15 : decide (a1 = 77) = false)) <| pc ((h17 : decide (a1 = 64) = true)) <| pc zlt1 <| pc zlt1 <| pc zlt1 <| allP_nil) (by kernel_rfl) (by kernel_rfl)
            · obtain ⟨r12, h20, h⟩ := of_bnd h
              replace h := Option.some.inj h
              subst h
              exact WM.retE mixed (e_F86 a0 a1 a2 a3 ((({ a0 with grids_1 := r12 } : term_TermO_2), true))) [R_ [o_], R_ [o_], R_ [o_, o_], F_, R_ [o_, o_], F_, R_ [o_, o_], F_, R_ [o_, o_], F_, R_ [o_, o_], T_, R_ [o_, c_ (mkCallT Tryz.call28 (F28_ok h18) [0, 1, 2, 3, 4, 5, 6, 7, 8, 9, 10, 11, 12, 13] [0, 1, 2, 3, 4, 5, 6, 7, 8, 9, 10, 11, 12, 13] (by kernel_rfl) (by kernel_rfl) (by kernel_rfl) (by kernel_rfl)), o_, o_, o_, o_, o_, o_, o_, o_, o_, o_, o_, o_, o_, o_, o_, o_, o_, o_, o_, o_, o_, c_ (mkCall Tryz.call72 (F72_ok h20) [3, 4] (by kernel_rfl) (by kernel_rfl))], R_ [o_]] [some 0, some 1, some 2, some 3, some 4, some 5, some 6, some 7, some 8, some 9, some 10, some 11, some 12, some 13] (pc ((h1 : decide (a1 = 74) = false)) <| pc ((h10 : decide (a1 = 75) = false)) <| pc ((h12 : decide (a1 = 76) = false)) <| pc ((h15 : decide (a1 = 77) = false)) <| pc ((h17 : decide (a1 = 64) = true)) <| pc zlt1 <| pc zlt1 <| pc zlt1 <| allP_nil) (by kernel_rfl) (by kernel_rfl)
          · rcases of_ifb h with ⟨h21, h⟩ | ⟨h21, h⟩
            · obtain ⟨r13, h22, h⟩ := of_bnd h
              rcases of_sm h with ⟨r14, rfl, h⟩ | ⟨r15, rfl, h⟩
              · obtain ⟨h23, h⟩ := of_chk h
                obtain ⟨r16, h24, h⟩ := of_bnd h
                replace h := Option.some.inj h
                subst h
                exact WM.retE mixed (e_F86 a0 a1 a2 a3 ((({ a0 with grids_0 := r16 } : term_TermO_2), true))) [R_ [o_], R_ [o_], R_ [o_, o_], F_, R_ [o_, o_], F_, R_ [o_, o_], F_, R_ [o_, o_], F_, R_ [o_, o_], F_, R_ [o_, o_], T_, R_ [o_, c_ (mkCallT Tryz.call28 (F28_ok h22) [0, 1, 2, 3, 4, 5, 6, 7, 8, 9, 10, 11, 12, 13] [0, 1, 2, 3, 4, 5, 6, 7, 8, 9, 10, 11, 12, 13] (by kernel_rfl) (by kernel_rfl) (by kernel_rfl) (by kernel_rfl)), o_, o_, o_, o_, o_, o_, o_, o_, o_, o_, o_, o_, o_, o_, o_, o_, o_, o_, o_, o_, o_, o_, c_ (mkCall Tryz.call72 (F72_ok h24) [1, 2] (by kernel_rfl) (by kernel_rfl))], R_ [o_]] [some 0, some 1, some 2, some 3, some 4, some 5, some 6, some 7, some 8, some 9, some 10, some 11, some 12, some 13] (pc ((h1 : decide (a1 = 74) = false)) <| pc ((h10 : decide (a1 = 75) = false)) <| pc ((h12 : decide (a1 = 76) = false)) <| pc ((h15 : decide (a1 = 77) = false)) <| pc ((h17 : decide (a1 = 64) = false)) <| pc ((h21 : decide (a1 = 80) = true)) <| pc zlt1 <| pc zlt1 <| pc h23 <| pc zlt1 <| allP_nil) (by kernel_rfl) (by kernel_rfl)
              · obtain ⟨h25, h⟩ := of_chk h
                obtain ⟨r17, h26, h⟩ := of_bnd h
                replace h := Option.some.inj h
                subst h
                exact WM.retE mixed (e_F86 a0 a1 a2 a3 ((({ a0 with grids_1 := r17 } : term_TermO_2), true))) [R_ [o_], R_ [o_], R_ [o_, o_], F_, R_ [o_, o_], F_, R_ [o_, o_], F_, R_ [o_, o_], F_, R_ [o_, o_], F_, R_ [o_, o_], T_, R_ [o_, c_ (mkCallT Tryz.call28 (F28_ok h22) [0, 1, 2, 3, 4, 5, 6, 7, 8, 9, 10, 11, 12, 13] [0, 1, 2, 3, 4, 5, 6, 7, 8, 9, 10, 11, 12, 13] (by kernel_rfl) (by kernel_rfl) (by kernel_rfl) (by kernel_rfl)), o_, o_, o_, o_, o_, o_, o_, o_, o_, o_, o_, o_, o_, o_, o_, o_, o_, o_, o_, o_, o_, o_, c_ (mkCall Tryz.call72 (F72_ok h26) [3, 4] (by kernel_rfl) (by kernel_rfl))], R_ [o_]] [some 0, some 1, some 2, some 3, some 4, some 5, some 6, some 7, some 8, some 9, some 10, some 11, some 12, some 13] (pc ((h1 : decide (a1 = 74) = false)) <| pc ((h10 : decide (a1 = 75) = false)) <| pc ((h12 : decide (a1 = 76) = false)) <| pc ((h15 : decide (a1 = 77) = false)) <| pc ((h17 : decide (a1 = 64) = false)) <| pc ((h21 : decide (a1 = 80) = true)) <| pc zlt1 <| pc zlt1 <| pc h25 <| pc zlt1 <| allP_nil) (by kernel_rfl) (by kernel_rfl)
            · rcases of_ifb h with ⟨h27, h⟩ | ⟨h27, h⟩
              · obtain ⟨r18, h28, h⟩ := of_bnd h
                rcases of_sm h with ⟨r19, rfl, h⟩ | ⟨r20, rfl, h⟩
                · obtain ⟨h29, h⟩ := of_chk h
                  obtain ⟨r21, h30, h⟩ := of_bnd h
                  replace h := Option.some.inj h
                  subst h
                  exact WM.retE mixed (e_F86 a0 a1 a2 a3 ((({ a0 with grids_0 := r21 } : term_TermO_2), true))) [R_ [o_], R_ [o_], R_ [o_, o_], F_, R_ [o_, o_], F_, R_ [o_, o_], F_, R_ [o_, o_], F_, R_ [o_, o_], F_, R_ [o_, o_], F_, R_ [o_, o_], T_, R_ [o_, c_ (mkCallT Tryz.call28 (F28_ok h28) [0, 1, 2, 3, 4, 5, 6, 7, 8, 9, 10, 11, 12, 13] [0, 1, 2, 3, 4, 5, 6, 7, 8, 9, 10, 11, 12, 13] (by kernel_rfl) (by kernel_rfl) (by kernel_rfl) (by kernel_rfl)), o_, o_, o_, o_, o_, o_, o_, o_, o_, o_, o_, o_, o_, o_, o_, o_, o_, o_, o_, o_, o_, o_, o_, o_, o_, o_, o_, o_, o_, c_ (mkCall Tryz.call115 (F115_ok h30) [1, 2] (by kernel_rfl) (by kernel_rfl))], R_ [o_]] [some 0, some 1, some 2, some 3, some 4, some 5, some 6, some 7, some 8, some 9, some 10, some 11, some 12, some 13] (pc ((h1 : decide (a1 = 74) = false)) <| pc ((h10 : decide (a1 = 75) = false)) <| pc ((h12 : decide (a1 = 76) = false)) <| pc ((h15 : decide (a1 = 77) = false)) <| pc ((h17 : decide (a1 = 64) = false)) <| pc ((h21 : decide (a1 = 80) = false)) <| pc ((h27 : decide (a1 = 88) = true)) <| pc zlt1 <| pc zlt1 <| pc zlt1 <| pc h29 <| pc zlt1 <| allP_nil) (by kernel_rfl) (by kernel_rfl)
                · obtain ⟨h31, h⟩ := of_chk h
                  obtain ⟨r22, h32, h⟩ := of_bnd h
                  replace h := Option.some.inj h
                  subst h
                  exact WM.retE mixed (e_F86 a0 a1 a2 a3 ((({ a0 with grids_1 := r22 } : term_TermO_2), true))) [R_ [o_], R_ [o_], R_ [o_, o_], F_, R_ [o_, o_], F_, R_ [o_, o_], F_, R_ [o_, o_], F_, R_ [o_, o_], F_, R_ [o_, o_], F_, R_ [o_, o_], T_, R_ [o_, c_ (mkCallT Tryz.call28 (F28_ok h28) [0, 1, 2, 3, 4, 5, 6, 7, 8, 9, 10, 11, 12, 13] [0, 1, 2, 3, 4, 5, 6, 7, 8, 9, 10, 11, 12, 13] (by kernel_rfl) (by kernel_rfl) (by kernel_rfl) (by kernel_rfl)), o_, o_, o_, o_, o_, o_, o_, o_, o_, o_, o_, o_, o_, o_, o_, o_, o_, o_, o_, o_, o_, o_, o_, o_, o_, o_, o_, o_, o_, c_ (mkCall Tryz.call115 (F115_ok h32) [3, 4] (by kernel_rfl) (by kernel_rfl))], R_ [o_]] [some 0, some 1, some 2, some 3, some 4, some 5, some 6, some 7, some 8, some 9, some 10, some 11, some 12, some 13] (pc ((h1 : decide (a1 = 74) = false)) <| pc ((h10 : decide (a1 = 75) = false)) <| pc ((h12 : decide (a1 = 76) = false)) <| pc ((h15 : decide (a1 = 77) = false)) <| pc ((h17 : decide (a1 = 64) = false)) <| pc ((h21 : decide (a1 = 80) = false)) <| pc ((h27 : decide (a1 = 88) = true)) <| pc zlt1 <| pc zlt1 <| pc zlt1 <| pc h31 <| pc zlt1 <| allP_nil) (by kernel_rfl) (by kernel_rfl)
              · rcases of_ifb h with ⟨h33, h⟩ | ⟨h33, h⟩
                · obtain ⟨r23, h34, h⟩ := of_bnd h
                  rcases of_sm h with ⟨r24, rfl, h⟩ | ⟨r25, rfl, h⟩
                  · obtain ⟨r26, h35, h⟩ := of_bnd h
                    replace h := Option.some.inj h
                    subst h
                    exact WM.retE mixed (e_F86 a0 a1 a2 a3 ((({ a0 with grids_0 := r26 } : term_TermO_2), true))) [R_ [o_], R_ [o_], R_ [o_, o_], F_, R_ [o_, o_], F_, R_ [o_, o_], F_, R_ [o_, o_], F_, R_ [o_, o_], F_, R_ [o_, o_], F_, R_ [o_, o_], F_, R_ [o_, o_], T_, R_ [o_, c_ (mkCallT Tryz.call28 (F28_ok h34) [0, 1, 2, 3, 4, 5, 6, 7, 8, 9, 10, 11, 12, 13] [0, 1, 2, 3, 4, 5, 6, 7, 8, 9, 10, 11, 12, 13] (by kernel_rfl) (by kernel_rfl) (by kernel_rfl) (by kernel_rfl)), o_, o_, o_, o_, o_, o_, o_, o_, o_, o_, o_, o_, o_, o_, o_, o_, o_, c_ (mkCall Tryz.call106 (F106_ok h35) [1, 2] (by kernel_rfl) (by kernel_rfl))], R_ [o_]] [some 0, some 1, some 2, some 3, some 4, some 5, some 6, some 7, some 8, some 9, some 10, some 11, some 12, some 13] (pc ((h1 : decide (a1 = 74) = false)) <| pc ((h10 : decide (a1 = 75) = false)) <| pc ((h12 : decide (a1 = 76) = false)) <| pc ((h15 : decide (a1 = 77) = false)) <| pc ((h17 : decide (a1 = 64) = false)) <| pc ((h21 : decide (a1 = 80) = false)) <| pc ((h27 : decide (a1 = 88) = false)) <| pc ((h33 : decide (a1 = 83) = true)) <| pc zlt1 <| pc zlt1 <| pc zlt1 <| allP_nil) (by kernel_rfl) (by kernel_rfl)
                  · obtain ⟨r27, h36, h⟩ := of_bnd h
                    replace h := Option.some.inj h
                    subst h
                    exact WM.retE mixed (e_F86 a0 a1 a2 a3 ((({ a0 with grids_1 := r27 } : term_TermO_2), true))) [R_ [o_], R_ [o_], R_ [o_, o_], F_, R_ [o_, o_], F_, R_ [o_, o_], F_, R_ [o_, o_], F_, R_ [o_, o_], F_, R_ [o_, o_], F_, R_ [o_, o_], F_, R_ [o_, o_], T_, R_ [o_, c_ (mkCallT Tryz.call28 (F28_ok h34) [0, 1, 2, 3, 4, 5, 6, 7, 8, 9, 10, 11, 12, 13] [0, 1, 2, 3, 4, 5, 6, 7, 8, 9, 10, 11, 12, 13] (by kernel_rfl) (by kernel_rfl) (by kernel_rfl) (by kernel_rfl)), o_, o_, o_, o_, o_, o_, o_, o_, o_, o_, o_, o_, o_, o_, o_, o_, o_, c_ (mkCall Tryz.call106 (F106_ok h36) [3, 4] (by kernel_rfl) (by kernel_rfl))], R_ [o_]] [some 0, some 1, some 2, some 3, some 4, some 5, some 6, some 7, some 8, some 9, some 10, some 11, some 12, some 13] (pc ((h1 : decide (a1 = 74) = false)) <| pc ((h10 : decide (a1 = 75) = false)) <| pc ((h12 : decide (a1 = 76) = false)) <| pc ((h15 : decide (a1 = 77) = false)) <| pc ((h17 : decide (a1 = 64) = false)) <| pc ((h21 : decide (a1 = 80) = false)) <| pc ((h27 : decide (a1 = 88) = false)) <| pc ((h33 : decide (a1 = 83) = true)) <| pc zlt1 <| pc zlt1 <| pc zlt1 <| allP_nil) (by kernel_rfl) (by kernel_rfl)
                · rcases of_ifb h with ⟨h37, h⟩ | ⟨h37, h⟩
                  · obtain ⟨r28, h38, h⟩ := of_bnd h
                    rcases of_sm h with ⟨r29, rfl, h⟩ | ⟨r30, rfl, h⟩
                    · obtain ⟨h39, h⟩ := of_chk h
                      obtain ⟨r31, h40, h⟩ := of_bnd h
                      replace h := Option.some.inj h
                      subst h
                      exact WM.retE mixed (e_F86 a0 a1 a2 a3 ((({ a0 with grids_0 := r31 } : term_TermO_2), true))) [R_ [o_], R_ [o_], R_ [o_, o_], F_, R_ [o_, o_], F_, R_ [o_, o_], F_, R_ [o_, o_], F_, R_ [o_, o_], F_, R_ [o_, o_], F_, R_ [o_, o_], F_, R_ [o_, o_], F_, R_ [o_, o_], T_, R_ [o_, c_ (mkCallT Tryz.call28 (F28_ok h38) [0, 1, 2, 3, 4, 5, 6, 7, 8, 9, 10, 11, 12, 13] [0, 1, 2, 3, 4, 5, 6, 7, 8, 9, 10, 11, 12, 13] (by kernel_rfl) (by kernel_rfl) (by kernel_rfl) (by kernel_rfl)), o_, o_, o_, o_, o_, o_, o_, o_, o_, o_, o_, o_, o_, o_, o_, o_, o_, o_, c_ (mkCall Tryz.call106 (F106_ok h40) [1, 2] (by kernel_rfl) (by kernel_rfl))], R_ [o_]] [some 0, some 1, some 2, some 3, some 4, some 5, some 6, some 7, some 8, some 9, some 10, some 11, some 12, some 13] (pc ((h1 : decide (a1 = 74) = false)) <| pc ((h10 : decide (a1 = 75) = false)) <| pc ((h12 : decide (a1 = 76) = false)) <| pc ((h15 : decide (a1 = 77) = false)) <| pc ((h17 : decide (a1 = 64) = false)) <| pc ((h21 : decide (a1 = 80) = false)) <| pc ((h27 : decide (a1 = 88) = false)) <| pc ((h33 : decide (a1 = 83) = false)) <| pc ((h37 : decide (a1 = 84) = true)) <| pc zlt1 <| pc zlt1 <| pc h39 <| pc zlt1 <| allP_nil) (by kernel_rfl) (by kernel_rfl)
                    · obtain ⟨h41, h⟩ := of_chk h
                      obtain ⟨r32, h42, h⟩ := of_bnd h
                      replace h := Option.some.inj h
                      subst h
                      exact WM.retE mixed (e_F86 a0 a1 a2 a3 ((({ a0 with grids_1 := r32 } : term_TermO_2), true))) [R_ [o_], R_ [o_], R_ [o_, o_], F_, R_ [o_, o_], F_, R_ [o_, o_], F_, R_ [o_, o_], F_, R_ [o_, o_], F_, R_ [o_, o_], F_, R_ [o_, o_], F_, R_ [o_, o_], F_, R_ [o_, o_], T_, R_ [o_, c_ (mkCallT Tryz.call28 (F28_ok h38) [0, 1, 2, 3, 4, 5, 6, 7, 8, 9, 10, 11, 12, 13] [0, 1, 2, 3, 4, 5, 6, 7, 8, 9, 10, 11, 12, 13] (by kernel_rfl) (by kernel_rfl) (by kernel_rfl) (by kernel_rfl)), o_, o_, o_, o_, o_, o_, o_, o_, o_, o_, o_, o_, o_, o_, o_, o_, o_, o_, c_ (mkCall Tryz.call106 (F106_ok h42) [3, 4] (by kernel_rfl) (by kernel_rfl))], R_ [o_]] [some 0, some 1, some 2, some 3, some 4, some 5, some 6, some 7, some 8, some 9, some 10, some 11, some 12, some 13] (pc ((h1 : decide (a1 = 74) = false)) <| pc ((h10 : decide (a1 = 75) = false)) <| pc ((h12 : decide (a1 = 76) = false)) <| pc ((h15 : decide (a1 = 77) = false)) <| pc ((h17 : decide (a1 = 64) = false)) <| pc ((h21 : decide (a1 = 80) = false)) <| pc ((h27 : decide (a1 = 88) = false)) <| pc ((h33 : decide (a1 = 83) = false)) <| pc ((h37 : decide (a1 = 84) = true)) <| pc zlt1 <| pc zlt1 <| pc h41 <| pc zlt1 <| allP_nil) (by kernel_rfl) (by kernel_rfl)
                  · replace h := Option.some.inj h
                    subst h
                    exact WM.retE mixed (e_F86 a0 a1 a2 a3 ((a0, false))) [R_ [o_], R_ [o_], R_ [o_, o_], F_, R_ [o_, o_], F_, R_ [o_, o_], F_, R_ [o_, o_], F_, R_ [o_, o_], F_, R_ [o_, o_], F_, R_ [o_, o_], F_, R_ [o_, o_], F_, R_ [o_, o_], F_, R_ [o_]] [some 0, some 1, some 2, some 3, some 4, some 5, some 6, some 7, some 8, some 9, some 10, some 11, some 12, some 13] (pc ((h1 : decide (a1 = 74) = false)) <| pc ((h10 : decide (a1 = 75) = false)) <| pc ((h12 : decide (a1 = 76) = false)) <| pc ((h15 : decide (a1 = 77) = false)) <| pc ((h17 : decide (a1 = 64) = false)) <| pc ((h21 : decide (a1 = 80) = false)) <| pc ((h27 : decide (a1 = 88) = false)) <| pc ((h33 : decide (a1 = 83) = false)) <| pc ((h37 : decide (a1 = 84) = false)) <| allP_nil) (by kernel_rfl) (by kernel_rfl)

/-! ### F116: function 116 (*tickertape/tabs.Stops).Clear -/
def F116 (f : Nat) (a0 : tabs_StopsO_1) (a1 : Int) : Option (tabs_StopsO_1 × Bool) :=
  bnd (F107 f a0 a1 false) fun r1 =>
  some ((r1.1, r1.2))
def v_F116 (a0 : tabs_StopsO_1) (a1 : Int) (y : tabs_StopsO_1 × Bool) : V :=
  .b y.2
def e_F116 (a0 : tabs_StopsO_1) (a1 : Int) (y : tabs_StopsO_1 × Bool) : Env :=
  [(4, ⟨none, .b y.2⟩)]
def x_F116 (a0 : tabs_StopsO_1) (a1 : Int) (y : tabs_StopsO_1 × Bool) : List (Option Blk) :=
  [some (B_tabs_StopsO_1 1 y.1), some (boolB y.1.at_)]
set_option maxRecDepth 100000 in
set_option maxHeartbeats 4000000 in
theorem F116_ok {f : Nat} {a0 : tabs_StopsO_1} {a1 : Int} {y : tabs_StopsO_1 × Bool} (h : F116 f a0 a1 = some y) :
    Spec Tryz.prog G0 116 [.p 0 0 0, .i .i64 a1] [some (B_tabs_StopsO_1 1 a0), some (boolB a0.at_)] (v_F116 a0 a1 y) (x_F116 a0 a1 y) :=
  Spec.ofM (fn := Tryz.f116) (c := bodyOf Tryz.f116) (n := 8) (rs := Tryz.f116.results.toList) Tryz.func116 (by kernel_rfl) (by kernel_rfl) (by kernel_rfl) (by kernel_rfl) fun cx => by
  unfold F116 at h
  obtain ⟨r1, h1, h⟩ := of_bnd h
  replace h := Option.some.inj h
  subst h
  exact WM.retE mixed (e_F116 a0 a1 ((r1.1, r1.2))) [R_ [o_], R_ [o_, o_, c_ (mkCall Tryz.call107 (F107_ok h1) [0, 1] (by kernel_rfl) (by kernel_rfl)), o_]] [some 0, some 1] (allP_nil) (by kernel_rfl) (by kernel_rfl)

/-! ### F117: function 117 (*tickertape/tabs.Stops).ClearAll -/
def F117 (f : Nat) (a0 : tabs_StopsO_1) : Option (tabs_StopsO_1) :=
  chk ((0 + a0.at_n) ≤ a0.at_.length) <|
  some (({ a0 with at_ := (putAt a0.at_ 0 (List.replicate a0.at_n false)) } : tabs_StopsO_1))
def v_F117 (a0 : tabs_StopsO_1) (y : tabs_StopsO_1) : V :=
  .tup []
def e_F117 (a0 : tabs_StopsO_1) (y : tabs_StopsO_1) : Env :=
  []
def x_F117 (a0 : tabs_StopsO_1) (y : tabs_StopsO_1) : List (Option Blk) :=
  [some (B_tabs_StopsO_1 1 y), some (boolB y.at_)]
set_option maxRecDepth 100000 in
set_option maxHeartbeats 4000000 in
theorem F117_ok {f : Nat} {a0 : tabs_StopsO_1} {y : tabs_StopsO_1} (h : F117 f a0 = some y) :
    Spec Tryz.prog G0 117 [.p 0 0 0] [some (B_tabs_StopsO_1 1 a0), some (boolB a0.at_)] (v_F117 a0 y) (x_F117 a0 y) :=
  Spec.ofM (fn := Tryz.f117) (c := bodyOf Tryz.f117) (n := 6) (rs := Tryz.f117.results.toList) Tryz.func117 (by kernel_rfl) (by kernel_rfl) (by kernel_rfl) (by kernel_rfl) fun cx => by
  unfold F117 at h
  obtain ⟨h1, h⟩ := of_chk h
  replace h := Option.some.inj h
  subst h
  exact WM.retE mixed (e_F117 a0 (({ a0 with at_ := (putAt a0.at_ 0 (List.replicate a0.at_n false)) } : tabs_StopsO_1))) [R_ [o_, o_, o_, o_, o_]] [some 0, some 1] (pc zlt1 <| pc h1 <| allP_nil) (by kernel_rfl) (by kernel_rfl)

/-! ### F136: function 136 tickertape/sgr.flag -/
def F136 (f : Nat) (a0 : Int) : Option (Int) :=
  ifb ((decide (a0 ≥ 1) && decide (a0 ≤ 5))) (
    chk (inR (a0 - 1)) <|
    chk (0 ≤ (a0 - 1)) <|
    some ((IntKind.wrap .i64 (1 * 2 ^ (min (Int.toNat (a0 - 1)) 64))))) (
    ifb ((decide (a0 ≥ 7) && decide (a0 ≤ 9))) (
      chk (inR (a0 - 2)) <|
      chk (0 ≤ (a0 - 2)) <|
      some ((IntKind.wrap .i64 (1 * 2 ^ (min (Int.toNat (a0 - 2)) 64))))) (
      some (0)))
def v_F136 (a0 : Int) (y : Int) : V :=
  .i .i64 y
def e_F136 (a0 : Int) (y : Int) : Env :=
  [(2, ⟨none, .i .i64 y⟩)]
def x_F136 (a0 : Int) (y : Int) : List (Option Blk) :=
  []
set_option maxRecDepth 100000 in
set_option maxHeartbeats 4000000 in
theorem F136_ok {f : Nat} {a0 : Int} {y : Int} (h : F136 f a0 = some y) :
    Spec Tryz.prog G0 136 [.i .i64 a0] [] (v_F136 a0 y) (x_F136 a0 y) :=
  Spec.ofM (fn := Tryz.f136) (c := bodyOf Tryz.f136) (n := 23) (rs := Tryz.f136.results.toList) Tryz.func136 (by kernel_rfl) (by kernel_rfl) (by kernel_rfl) (by kernel_rfl) fun cx => by
  unfold F136 at h
  rcases of_ifb h with ⟨h1, h⟩ | ⟨h1, h⟩
  · obtain ⟨h2, h⟩ := of_chk h
    obtain ⟨h3, h⟩ := of_chk h
    replace h := Option.some.inj h
    subst h
    exact WM.retE mixed (e_F136 a0 ((IntKind.wrap .i64 (1 * 2 ^ (min (Int.toNat (a0 - 1)) 64))))) [R_ [o_], R_ [o_, o_, o_, o_, o_, o_, o_], T_, R_ [o_, o_, o_, o_]] [] (pc ((fun h => h : (decide (a0 ≥ 1) = true → decide (a0 ≥ 1) = true))) <| pc ((fun k2 => k2 : (decide (a0 ≥ 1) = true → decide (a0 ≥ 1) = true))) <| pc ((h1 : (decide (a0 ≥ 1) && decide (a0 ≤ 5)) = true)) <| pc h2 <| pc h3 <| allP_nil) (by kernel_rfl) (by kernel_rfl)
  · rcases of_ifb h with ⟨h4, h⟩ | ⟨h4, h⟩
    · obtain ⟨h5, h⟩ := of_chk h
      obtain ⟨h6, h⟩ := of_chk h
      replace h := Option.some.inj h
      subst h
      exact WM.retE mixed (e_F136 a0 ((IntKind.wrap .i64 (1 * 2 ^ (min (Int.toNat (a0 - 2)) 64))))) [R_ [o_], R_ [o_, o_, o_, o_, o_, o_, o_], F_, R_ [o_, o_, o_, o_, o_, o_, o_], T_, R_ [o_, o_, o_, o_]] [] (pc ((fun h => h : (decide (a0 ≥ 1) = true → decide (a0 ≥ 1) = true))) <| pc ((fun k2 => k2 : (decide (a0 ≥ 1) = true → decide (a0 ≥ 1) = true))) <| pc ((h1 : (decide (a0 ≥ 1) && decide (a0 ≤ 5)) = false)) <| pc ((fun h => h : (decide (a0 ≥ 7) = true → decide (a0 ≥ 7) = true))) <| pc ((fun k2 => k2 : (decide (a0 ≥ 7) = true → decide (a0 ≥ 7) = true))) <| pc ((h4 : (decide (a0 ≥ 7) && decide (a0 ≤ 9)) = true)) <| pc h5 <| pc h6 <| allP_nil) (by kernel_rfl) (by kernel_rfl)
    · replace h := Option.some.inj h
      subst h
      exact WM.retE mixed (e_F136 a0 (0)) [R_ [o_], R_ [o_, o_, o_, o_, o_, o_, o_], F_, R_ [o_, o_, o_, o_, o_, o_, o_], F_, R_ [o_]] [] (pc ((fun h => h : (decide (a0 ≥ 1) = true → decide (a0 ≥ 1) = true))) <| pc ((fun k2 => k2 : (decide (a0 ≥ 1) = true → decide (a0 ≥ 1) = true))) <| pc ((h1 : (decide (a0 ≥ 1) && decide (a0 ≤ 5)) = false)) <| pc ((fun h => h : (decide (a0 ≥ 7) = true → decide (a0 ≥ 7) = true))) <| pc ((fun k2 => k2 : (decide (a0 ≥ 7) = true → decide (a0 ≥ 7) = true))) <| pc ((h4 : (decide (a0 ≥ 7) && decide (a0 ≤ 9)) = false)) <| allP_nil) (by kernel_rfl) (by kernel_rfl)

/-! ### F137: function 137 tickertape/sgr.cleared -/
def F137 (f : Nat) (a0 : Int) : Option (Int) :=
  ifb (decide (a0 = 22)) (
    some (3)) (
    ifb (((decide (a0 ≥ 23) && decide (a0 ≤ 25)) || (decide (a0 ≥ 27) && decide (a0 ≤ 29)))) (
      chk (inR (a0 - 20)) <|
      bnd (F136 f (a0 - 20)) fun r1 =>
      some (r1)) (
      some (0)))
def v_F137 (a0 : Int) (y : Int) : V :=
  .i .i64 y
def e_F137 (a0 : Int) (y : Int) : Env :=
  [(2, ⟨none, .i .i64 y⟩)]
def x_F137 (a0 : Int) (y : Int) : List (Option Blk) :=
  []
set_option maxRecDepth 100000 in
set_option maxHeartbeats 4000000 in
theorem F137_ok {f : Nat} {a0 : Int} {y : Int} (h : F137 f a0 = some y) :
    Spec Tryz.prog G0 137 [.i .i64 a0] [] (v_F137 a0 y) (x_F137 a0 y) :=
  Spec.ofM (fn := Tryz.f137) (c := bodyOf Tryz.f137) (n := 24) (rs := Tryz.f137.results.toList) Tryz.func137 (by kernel_rfl) (by kernel_rfl) (by kernel_rfl) (by kernel_rfl) fun cx => by
  unfold F137 at h
  rcases of_ifb h with ⟨h1, h⟩ | ⟨h1, h⟩
  · replace h := Option.some.inj h
    subst h
    exact WM.retE mixed (e_F137 a0 (3)) [R_ [o_], R_ [o_, o_, o_], T_, R_ [o_]] [] (pc ((h1 : decide (a0 = 22) = true)) <| allP_nil) (by kernel_rfl) (by kernel_rfl)
  · rcases of_ifb h with ⟨h2, h⟩ | ⟨h2, h⟩
    · obtain ⟨h3, h⟩ := of_chk h
      obtain ⟨r1, h4, h⟩ := of_bnd h
      replace h := Option.some.inj h
      subst h
      exact WM.retE mixed (e_F137 a0 (r1)) [R_ [o_], R_ [o_, o_, o_], F_, R_ [o_, o_, o_, o_, o_, o_, o_, o_, o_, o_, o_, o_, o_, o_, o_], T_, R_ [o_, o_, c_ (mkCall Tryz.call136 (F136_ok h4) [] (by kernel_rfl) (by kernel_rfl)), o_]] [] (pc ((h1 : decide (a0 = 22) = false)) <| pc ((fun h => h : (decide (a0 ≥ 23) = true → decide (a0 ≥ 23) = true))) <| pc ((fun k2 => k2 : (decide (a0 ≥ 23) = true → decide (a0 ≥ 23) = true))) <| pc ((fun h => h : ((!(decide (a0 ≥ 23) && decide (a0 ≤ 25))) = true → (!(decide (a0 ≥ 23) && decide (a0 ≤ 25))) = true))) <| pc ((fun h => h : ((!(decide (a0 ≥ 23) && decide (a0 ≤ 25))) = true → (!(decide (a0 ≥ 23) && decide (a0 ≤ 25))) = true))) <| pc ((fun h => h : (((!(decide (a0 ≥ 23) && decide (a0 ≤ 25))) && decide (a0 ≥ 27)) = true → ((!(decide (a0 ≥ 23) && decide (a0 ≤ 25))) && decide (a0 ≥ 27)) = true))) <| pc ((fun h => h : ((!(decide (a0 ≥ 23) && decide (a0 ≤ 25))) = true → (!(decide (a0 ≥ 23) && decide (a0 ≤ 25))) = true))) <| pc ((fun k1 k2 => (and_t k1 k2) : ((!(decide (a0 ≥ 23) && decide (a0 ≤ 25))) = true → (decide (a0 ≥ 27) = true → ((!(decide (a0 ≥ 23) && decide (a0 ≤ 25))) && decide (a0 ≥ 27)) = true)))) <| pc ((fun k2 => (not_t k2) : ((decide (a0 ≥ 23) && decide (a0 ≤ 25)) = false → (!(decide (a0 ≥ 23) && decide (a0 ≤ 25))) = true))) <| pc ((h2 : ((decide (a0 ≥ 23) && decide (a0 ≤ 25)) || (decide (a0 ≥ 27) && decide (a0 ≤ 29))) = true)) <| pc h3 <| allP_nil) (by kernel_rfl) (by kernel_rfl)
    · replace h := Option.some.inj h
      subst h
      exact WM.retE mixed (e_F137 a0 (0)) [R_ [o_], R_ [o_, o_, o_], F_, R_ [o_, o_, o_, o_, o_, o_, o_, o_, o_, o_, o_, o_, o_, o_, o_], F_, R_ [o_]] [] (pc ((h1 : decide (a0 = 22) = false)) <| pc ((fun h => h : (decide (a0 ≥ 23) = true → decide (a0 ≥ 23) = true))) <| pc ((fun k2 => k2 : (decide (a0 ≥ 23) = true → decide (a0 ≥ 23) = true))) <| pc ((fun h => h : ((!(decide (a0 ≥ 23) && decide (a0 ≤ 25))) = true → (!(decide (a0 ≥ 23) && decide (a0 ≤ 25))) = true))) <| pc ((fun h => h : ((!(decide (a0 ≥ 23) && decide (a0 ≤ 25))) = true → (!(decide (a0 ≥ 23) && decide (a0 ≤ 25))) = true))) <| pc ((fun h => h : (((!(decide (a0 ≥ 23) && decide (a0 ≤ 25))) && decide (a0 ≥ 27)) = true → ((!(decide (a0 ≥ 23) && decide (a0 ≤ 25))) && decide (a0 ≥ 27)) = true))) <| pc ((fun h => h : ((!(decide (a0 ≥ 23) && decide (a0 ≤ 25))) = true → (!(decide (a0 ≥ 23) && decide (a0 ≤ 25))) = true))) <| pc ((fun k1 k2 => (and_t k1 k2) : ((!(decide (a0 ≥ 23) && decide (a0 ≤ 25))) = true → (decide (a0 ≥ 27) = true → ((!(decide (a0 ≥ 23) && decide (a0 ≤ 25))) && decide (a0 ≥ 27)) = true)))) <| pc ((fun k2 => (not_t k2) : ((decide (a0 ≥ 23) && decide (a0 ≤ 25)) = false → (!(decide (a0 ≥ 23) && decide (a0 ≤ 25))) = true))) <| pc ((h2 : ((decide (a0 ≥ 23) && decide (a0 ≤ 25)) || (decide (a0 ≥ 27) && decide (a0 ≤ 29))) = false)) <| allP_nil) (by kernel_rfl) (by kernel_rfl)

/-! ### F138: function 138 tickertape/sgr.colour -/
def F138 (f : Nat) (a0 : Int) (a1 : Int) (a2 : Int) : Option (Int × Bool) :=
  chk ((decide (a0 ≥ a1) = true → inR (a1 + 8))) <|
  ifb ((decide (a0 ≥ a1) && decide (a0 < (a1 + 8)))) (
    chk (inR (1 + a0)) <|
    chk (inR ((1 + a0) - a1)) <|
    some ((((1 + a0) - a1), true))) (
    chk ((decide (a0 ≥ a2) = true → inR (a2 + 8))) <|
    ifb ((decide (a0 ≥ a2) && decide (a0 < (a2 + 8)))) (
      chk (inR (9 + a0)) <|
      chk (inR ((9 + a0) - a2)) <|
      some ((((9 + a0) - a2), true))) (
      chk (inR (a1 + 9)) <|
      ifb (decide (a0 = (a1 + 9))) (
        some ((0, true))) (
        some ((0, false)))))
def v_F138 (a0 : Int) (a1 : Int) (a2 : Int) (y : Int × Bool) : V :=
  .tup [.i .i64 y.1, .b y.2]
def e_F138 (a0 : Int) (a1 : Int) (a2 : Int) (y : Int × Bool) : Env :=
  [(6, ⟨none, .i .i64 y.1⟩), (7, ⟨none, .b y.2⟩)]
def x_F138 (a0 : Int) (a1 : Int) (a2 : Int) (y : Int × Bool) : List (Option Blk) :=
  []
set_option maxRecDepth 100000 in
set_option maxHeartbeats 4000000 in
theorem F138_ok {f : Nat} {a0 : Int} {a1 : Int} {a2 : Int} {y : Int × Bool} (h : F138 f a0 a1 a2 = some y) :
    Spec Tryz.prog G0 138 [.i .i64 a0, .i .i64 a1, .i .i64 a2] [] (v_F138 a0 a1 a2 y) (x_F138 a0 a1 a2 y) :=
  Spec.ofM (fn := Tryz.f138) (c := bodyOf Tryz.f138) (n := 41) (rs := Tryz.f138.results.toList) Tryz.func138 (by kernel_rfl) (by kernel_rfl) (by kernel_rfl) (by kernel_rfl) fun cx => by
  unfold F138 at h
  obtain ⟨h1, h⟩ := of_chk h
  rcases of_ifb h with ⟨h2, h⟩ | ⟨h2, h⟩
  · obtain ⟨h3, h⟩ := of_chk h
    obtain ⟨h4, h⟩ := of_chk h
    replace h := Option.some.inj h
    subst h
    exact WM.retE mixed (e_F138 a0 a1 a2 ((((1 + a0) - a1), true))) [R_ [o_, o_], R_ [o_, o_, o_, o_, o_, o_, o_, o_, o_, o_], T_, R_ [o_, o_, o_, o_, o_, o_]] [] (pc ((fun h => h : (decide (a0 ≥ a1) = true → decide (a0 ≥ a1) = true))) <| pc h1 <| pc ((fun h => h : (decide (a0 ≥ a1) = true → decide (a0 ≥ a1) = true))) <| pc ((fun h => h : (decide (a0 ≥ a1) = true → decide (a0 ≥ a1) = true))) <| pc ((fun k2 => k2 : (decide (a0 ≥ a1) = true → decide (a0 ≥ a1) = true))) <| pc ((h2 : (decide (a0 ≥ a1) && decide (a0 < (a1 + 8))) = true)) <| pc h3 <| pc h4 <| allP_nil) (by kernel_rfl) (by kernel_rfl)
  · obtain ⟨h5, h⟩ := of_chk h
    rcases of_ifb h with ⟨h6, h⟩ | ⟨h6, h⟩
    · obtain ⟨h7, h⟩ := of_chk h
      obtain ⟨h8, h⟩ := of_chk h
      replace h := Option.some.inj h
      subst h
      exact WM.retE mixed (e_F138 a0 a1 a2 ((((9 + a0) - a2), true))) [R_ [o_, o_], R_ [o_, o_, o_, o_, o_, o_, o_, o_, o_, o_], F_, R_ [o_, o_, o_, o_, o_, o_, o_, o_, o_, o_], T_, R_ [o_, o_, o_, o_, o_, o_]] [] (pc ((fun h => h : (decide (a0 ≥ a1) = true → decide (a0 ≥ a1) = true))) <| pc h1 <| pc ((fun h => h : (decide (a0 ≥ a1) = true → decide (a0 ≥ a1) = true))) <| pc ((fun h => h : (decide (a0 ≥ a1) = true → decide (a0 ≥ a1) = true))) <| pc ((fun k2 => k2 : (decide (a0 ≥ a1) = true → decide (a0 ≥ a1) = true))) <| pc ((h2 : (decide (a0 ≥ a1) && decide (a0 < (a1 + 8))) = false)) <| pc ((fun h => h : (decide (a0 ≥ a2) = true → decide (a0 ≥ a2) = true))) <| pc h5 <| pc ((fun h => h : (decide (a0 ≥ a2) = true → decide (a0 ≥ a2) = true))) <| pc ((fun h => h : (decide (a0 ≥ a2) = true → decide (a0 ≥ a2) = true))) <| pc ((fun k2 => k2 : (decide (a0 ≥ a2) = true → decide (a0 ≥ a2) = true))) <| pc ((h6 : (decide (a0 ≥ a2) && decide (a0 < (a2 + 8))) = true)) <| pc h7 <| pc h8 <| allP_nil) (by kernel_rfl) (by kernel_rfl)
    · obtain ⟨h9, h⟩ := of_chk h
      rcases of_ifb h with ⟨h10, h⟩ | ⟨h10, h⟩
      · replace h := Option.some.inj h
        subst h
        exact WM.retE mixed (e_F138 a0 a1 a2 ((0, true))) [R_ [o_, o_], R_ [o_, o_, o_, o_, o_, o_, o_, o_, o_, o_], F_, R_ [o_, o_, o_, o_, o_, o_, o_, o_, o_, o_], F_, R_ [o_, o_, o_, o_, o_], T_, R_ [o_, o_]] [] (pc ((fun h => h : (decide (a0 ≥ a1) = true → decide (a0 ≥ a1) = true))) <| pc h1 <| pc ((fun h => h : (decide (a0 ≥ a1) = true → decide (a0 ≥ a1) = true))) <| pc ((fun h => h : (decide (a0 ≥ a1) = true → decide (a0 ≥ a1) = true))) <| pc ((fun k2 => k2 : (decide (a0 ≥ a1) = true → decide (a0 ≥ a1) = true))) <| pc ((h2 : (decide (a0 ≥ a1) && decide (a0 < (a1 + 8))) = false)) <| pc ((fun h => h : (decide (a0 ≥ a2) = true → decide (a0 ≥ a2) = true))) <| pc h5 <| pc ((fun h => h : (decide (a0 ≥ a2) = true → decide (a0 ≥ a2) = true))) <| pc ((fun h => h : (decide (a0 ≥ a2) = true → decide (a0 ≥ a2) = true))) <| pc ((fun k2 => k2 : (decide (a0 ≥ a2) = true → decide (a0 ≥ a2) = true))) <| pc ((h6 : (decide (a0 ≥ a2) && decide (a0 < (a2 + 8))) = false)) <| pc h9 <| pc ((h10 : decide (a0 = (a1 + 9)) = true)) <| allP_nil) (by kernel_rfl) (by kernel_rfl)
      · replace h := Option.some.inj h
        subst h
        exact WM.retE mixed (e_F138 a0 a1 a2 ((0, false))) [R_ [o_, o_], R_ [o_, o_, o_, o_, o_, o_, o_, o_, o_, o_], F_, R_ [o_, o_, o_, o_, o_, o_, o_, o_, o_, o_], F_, R_ [o_, o_, o_, o_, o_], F_, R_ [o_, o_]] [] (pc ((fun h => h : (decide (a0 ≥ a1) = true → decide (a0 ≥ a1) = true))) <| pc h1 <| pc ((fun h => h : (decide (a0 ≥ a1) = true → decide (a0 ≥ a1) = true))) <| pc ((fun h => h : (decide (a0 ≥ a1) = true → decide (a0 ≥ a1) = true))) <| pc ((fun k2 => k2 : (decide (a0 ≥ a1) = true → decide (a0 ≥ a1) = true))) <| pc ((h2 : (decide (a0 ≥ a1) && decide (a0 < (a1 + 8))) = false)) <| pc ((fun h => h : (decide (a0 ≥ a2) = true → decide (a0 ≥ a2) = true))) <| pc h5 <| pc ((fun h => h : (decide (a0 ≥ a2) = true → decide (a0 ≥ a2) = true))) <| pc ((fun h => h : (decide (a0 ≥ a2) = true → decide (a0 ≥ a2) = true))) <| pc ((fun k2 => k2 : (decide (a0 ≥ a2) = true → decide (a0 ≥ a2) = true))) <| pc ((h6 : (decide (a0 ≥ a2) && decide (a0 < (a2 + 8))) = false)) <| pc h9 <| pc ((h10 : decide (a0 = (a1 + 9)) = false)) <| allP_nil) (by kernel_rfl) (by kernel_rfl)

/-! ### F128: function 128 tickertape/sgr.one -/
def F128_p1 (f : Nat) (a1 : Int) (x2_1 : cell_Attr) : Option (cell_Attr) :=
  bnd (F138 f a1 40 100) fun r4 =>
  ifb (r4.2) (
    some (({ x2_1 with Bg := r4.1 } : cell_Attr))) (
    some (x2_1))
def F128 (f : Nat) (a0 : cell_Attr) (a1 : Int) : Option (cell_Attr) :=
  ifb (decide (a1 ≤ 0)) (
    ifb (decide (a1 ≥ (-1))) (
      some ((cell_Attr.mk 0 0 0))) (
      some (a0))) (
    bnd (F136 f a1) fun r1 =>
    bnd (F137 f a1) fun r2 =>
    bnd (F138 f a1 30 90) fun r3 =>
    ifb (r3.2) (
      F128_p1 f a1 (cell_Attr.mk (bitA .andNot .i64 (bitA .or .i64 a0.Flags r1) r2) r3.1 a0.Bg)) (
      F128_p1 f a1 ({ a0 with Flags := (bitA .andNot .i64 (bitA .or .i64 a0.Flags r1) r2) } : cell_Attr)))
def v_F128 (a0 : cell_Attr) (a1 : Int) (y : cell_Attr) : V :=
  .agg [.i .i64 y.Flags, .i .i64 y.Fg, .i .i64 y.Bg]
def e_F128 (a0 : cell_Attr) (a1 : Int) (y : cell_Attr) : Env :=
  [(4, ⟨none, .p 0 0 0⟩)]
def x_F128 (a0 : cell_Attr) (a1 : Int) (y : cell_Attr) : List (Option Blk) :=
  [some (svB 3 [.i .i64 y.Flags, .i .i64 y.Fg, .i .i64 y.Bg])]
set_option maxRecDepth 100000 in
set_option maxHeartbeats 4000000 in
theorem F128_p1_ok {cx : Cx} {f : Nat} {a0 : cell_Attr} {a1 : Int} {x2_1 : cell_Attr} {y : cell_Attr} (h : F128_p1 f a1 x2_1 = some y) :
    WM Tryz.prog G0 41 0 Tryz.f128.results.toList (v_F128 a0 a1 y) (x_F128 a0 a1 y) cx (nav [.r, .r, .f, .r, .r, .r, .t, .r, .n] [.code (bodyOf Tryz.f128)]) [(1, ⟨none, .i .i64 a1⟩), (2, ⟨none, .p 0 0 0⟩), (4, ⟨none, .p 1 0 0⟩)] [some (svB 3 [.i .i64 x2_1.Flags, .i .i64 x2_1.Fg, .i .i64 x2_1.Bg]), some (svB 3 [.i .i64 ((cell_Attr.mk 0 0 0).Flags), .i .i64 ((cell_Attr.mk 0 0 0).Fg), .i .i64 ((cell_Attr.mk 0 0 0).Bg)])] := by
  unfold F128_p1 at h
  obtain ⟨r4, h7, h⟩ := of_bnd h
  rcases of_ifb h with ⟨h8, h⟩ | ⟨h8, h⟩
  · replace h := Option.some.inj h
    subst h
    exact WM.retE mixed (e_F128 a0 a1 (({ x2_1 with Bg := r4.1 } : cell_Attr))) [R_ [o_, c_ (mkCall Tryz.call138 (F138_ok h7) [] (by kernel_rfl) (by kernel_rfl)), o_, o_, o_, o_, o_], R_ [o_], T_, R_ [o_, o_, o_], R_ [o_, o_]] [some 1] (pc ((h8 : r4.2 = true)) <| pc zlt1 <| pc zlt1 <| pc zlt1 <| allP_nil) (by kernel_rfl) (by kernel_rfl)
  · replace h := Option.some.inj h
    subst h
    exact WM.retE mixed (e_F128 a0 a1 (x2_1)) [R_ [o_, c_ (mkCall Tryz.call138 (F138_ok h7) [] (by kernel_rfl) (by kernel_rfl)), o_, o_, o_, o_, o_], R_ [o_], F_, R_ [o_, o_]] [some 1] (pc ((h8 : r4.2 = false)) <| pc zlt1 <| pc zlt1 <| allP_nil) (by kernel_rfl) (by kernel_rfl)
set_option maxRecDepth 100000 in
set_option maxHeartbeats 4000000 in
theorem F128_ok {f : Nat} {a0 : cell_Attr} {a1 : Int} {y : cell_Attr} (h : F128 f a0 a1 = some y) :
    Spec Tryz.prog G0 128 [.agg [.i .i64 a0.Flags, .i .i64 a0.Fg, .i .i64 a0.Bg], .i .i64 a1] [] (v_F128 a0 a1 y) (x_F128 a0 a1 y) :=
  Spec.ofM (fn := Tryz.f128) (c := bodyOf Tryz.f128) (n := 41) (rs := Tryz.f128.results.toList) Tryz.func128 (by kernel_rfl) (by kernel_rfl) (by kernel_rfl) (by kernel_rfl) fun cx => by
  unfold F128 at h
  rcases of_ifb h with ⟨h1, h⟩ | ⟨h1, h⟩
  · rcases of_ifb h with ⟨h2, h⟩ | ⟨h2, h⟩
    · replace h := Option.some.inj h
      subst h
      exact WM.retE mixed (e_F128 a0 a1 ((cell_Attr.mk 0 0 0))) [R_ [.op (.fresh 0 (svB 3 [.i .i64 a0.Flags, .i .i64 a0.Fg, .i .i64 a0.Bg])), .op (.fresh 1 (svB 3 [.i .i64 0, .i .i64 0, .i .i64 0]))], R_ [o_, o_], T_, R_ [o_, o_], T_, R_ [o_, o_]] [some 1] (pc ((h1 : decide (a1 ≤ 0) = true)) <| pc ((h2 : decide (a1 ≥ (-1)) = true)) <| pc zlt1 <| allP_nil) (by kernel_rfl) (by kernel_rfl)
    · replace h := Option.some.inj h
      subst h
      exact WM.retE mixed (e_F128 a0 a1 (a0)) [R_ [.op (.fresh 0 (svB 3 [.i .i64 a0.Flags, .i .i64 a0.Fg, .i .i64 a0.Bg])), .op (.fresh 1 (svB 3 [.i .i64 0, .i .i64 0, .i .i64 0]))], R_ [o_, o_], T_, R_ [o_, o_], F_, R_ [o_, o_]] [some 1] (pc ((h1 : decide (a1 ≤ 0) = true)) <| pc ((h2 : decide (a1 ≥ (-1)) = false)) <| pc zlt1 <| pc zlt1 <| allP_nil) (by kernel_rfl) (by kernel_rfl)
  · obtain ⟨r1, h3, h⟩ := of_bnd h
    obtain ⟨r2, h4, h⟩ := of_bnd h
    obtain ⟨r3, h5, h⟩ := of_bnd h
    rcases of_ifb h with ⟨h6, h⟩ | ⟨h6, h⟩
    · exact WM.cut mixed [R_ [.op (.fresh 0 (svB 3 [.i .i64 a0.Flags, .i .i64 a0.Fg, .i .i64 a0.Bg])), .op (.fresh 1 (svB 3 [.i .i64 0, .i .i64 0, .i .i64 0]))], R_ [o_, o_], F_, R_ [o_, o_, o_, c_ (mkCall Tryz.call136 (F136_ok h3) [] (by kernel_rfl) (by kernel_rfl)), o_, o_, c_ (mkCall Tryz.call137 (F137_ok h4) [] (by kernel_rfl) (by kernel_rfl)), o_, o_, o_], R_ [o_, c_ (mkCall Tryz.call138 (F138_ok h5) [] (by kernel_rfl) (by kernel_rfl)), o_, o_, o_, o_, o_], R_ [o_], T_, R_ [o_, o_, o_]] [some 0, some 1] (pc ((h1 : decide (a1 ≤ 0) = false)) <| pc zlt1 <| pc zlt1 <| pc ((h6 : r3.2 = true)) <| pc zlt1 <| allP_nil) (F128_p1_ok h) (by kernel_rfl)
    · exact WM.cut mixed [R_ [.op (.fresh 0 (svB 3 [.i .i64 a0.Flags, .i .i64 a0.Fg, .i .i64 a0.Bg])), .op (.fresh 1 (svB 3 [.i .i64 0, .i .i64 0, .i .i64 0]))], R_ [o_, o_], F_, R_ [o_, o_, o_, c_ (mkCall Tryz.call136 (F136_ok h3) [] (by kernel_rfl) (by kernel_rfl)), o_, o_, c_ (mkCall Tryz.call137 (F137_ok h4) [] (by kernel_rfl) (by kernel_rfl)), o_, o_, o_], R_ [o_, c_ (mkCall Tryz.call138 (F138_ok h5) [] (by kernel_rfl) (by kernel_rfl)), o_, o_, o_, o_, o_], R_ [o_], F_] [some 0, some 1] (pc ((h1 : decide (a1 ≤ 0) = false)) <| pc zlt1 <| pc zlt1 <| pc ((h6 : r3.2 = false)) <| allP_nil) (F128_p1_ok h) (by kernel_rfl)
end Go.Proofs.YtiekchfipaiflaaGreatDoor
