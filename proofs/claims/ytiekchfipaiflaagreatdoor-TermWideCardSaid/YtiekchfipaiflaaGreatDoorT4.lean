/- Printed by program: what each function of the call computes, as a Lean function, and that the call computes it (part 4). -/
import Derived.Test.YtiekchfipaiflaaGreatDoorT3
namespace Go.Proofs.YtiekchfipaiflaaGreatDoor
open Go
set_option linter.unusedVariables false
/-! ### F4: function 4 tickertape/tiklaw12.TermWide -/
def F4_p3 (f : Nat) (g2 : Int → Option (Bool)) (x11_2 : Int) (r8 : screen_ScreenO) (a2 : Int) (x12_3 : cell_Cell) : Option (Bool) :=
  chk (0 ≤ x11_2) <|
  chk (x11_2 < ((r8.Cells_n : Nat) : Int)) <|
  chk ((0 + x11_2.toNat) < r8.Cells.length) <|
  ifb ((!(decide ((r8.Cells.getD (0 + x11_2.toNat) zero_cell_Cell).Rune = x12_3.Rune) && ((decide (((r8.Cells.getD (0 + x11_2.toNat) zero_cell_Cell).Attr).Flags = x12_3.Attr.Flags) && (decide (((r8.Cells.getD (0 + x11_2.toNat) zero_cell_Cell).Attr).Fg = x12_3.Attr.Fg) && (decide (((r8.Cells.getD (0 + x11_2.toNat) zero_cell_Cell).Attr).Bg = x12_3.Attr.Bg) && true))) && (decide ((r8.Cells.getD (0 + x11_2.toNat) zero_cell_Cell).Wide = x12_3.Wide) && true))))) (
    some (false)) (
    chk (inR (x11_2 + 1)) <|
    g2 (x11_2 + 1))
def F4_p2_b (f : Nat) (g2 : Int → Option (Bool)) (r8 : screen_ScreenO) (a2 : Int) (x11_2 : Int) : Option (Bool) :=
  ifb (decide (x11_2 < ((r8.Cells_n : Nat) : Int))) (
    bnd (F13 f (cell_Attr.mk 0 0 0)) fun r9 =>
    chk (inR (Int.tdiv x11_2 2)) <|
    ifb (decide ((Int.tdiv x11_2 2) < a2)) (
      ifb (decide ((Int.tmod x11_2 2) = 1)) (
        F4_p3 f g2 x11_2 r8 a2 (cell_Cell.mk 0 (cell_Attr.mk 0 0 0) 2)) (
        F4_p3 f g2 x11_2 r8 a2 (cell_Cell.mk 19968 (cell_Attr.mk 0 0 0) 1))) (
      F4_p3 f g2 x11_2 r8 a2 r9)) (
    bnd (F8 f) fun r10 =>
    some (r10))
def F4_p2 (f : Nat) (r8 : screen_ScreenO) (a2 : Int) : Nat → Int → Option (Bool)
  | 0, _ => none
  | j + 1, x11_2 => F4_p2_b f (F4_p2 f r8 a2 j) r8 a2 x11_2
def F4_p1_b (f : Nat) (g1 : term_TermO_2 → Int → Option (Bool)) (a2 : Int) (a0 : Int) (a1 : Int) (x7_1 : term_TermO_2) (x9_1 : Int) : Option (Bool) :=
  ifb (decide (x9_1 < a2)) (
    bnd (F10 f x7_1 3 [228, 184, 128]) fun r7 =>
    chk (inR (x9_1 + 1)) <|
    g1 r7 (x9_1 + 1)) (
    bnd (F11 f x7_1) fun r8 =>
    ifb ((!(decide (((r8.Cells_n : Nat) : Int) = (wr ((wr (2 * a0)) * a1)))))) (
      some (false)) (
      F4_p2 f r8 a2 f 0))
def F4_p1 (f : Nat) (a2 : Int) (a0 : Int) (a1 : Int) : Nat → term_TermO_2 → Int → Option (Bool)
  | 0, _, _ => none
  | j + 1, x7_1, x9_1 => F4_p1_b f (F4_p1 f a2 a0 a1 j) a2 a0 a1 x7_1 x9_1
def F4 (f : Nat) (a0 : Int) (a1 : Int) (a2 : Int) : Option (Bool) :=
  bnd (F8 f) fun r1 =>
  ifb ((!r1)) (
    some (false)) (
    bnd (F9 f a0 (wr (2 * a1))) fun r2 =>
    sm r2 (fun r3 =>
      bnd (F8 f) fun r5 =>
      some (r5)) (fun r4 =>
      ifb ((((((!(decide (r4.2 = 0))) || decide (a1 < 1)) || decide (a2 < 0)) || decide (a2 > (wr (a0 * a1)))) || decide (a2 > 100))) (
        bnd (F8 f) fun r6 =>
        some (r6)) (
        F4_p1 f a2 a0 a1 f r4.1 0)))
def v_F4 (a0 : Int) (a1 : Int) (a2 : Int) (y : Bool) : V :=
  .b y
def e_F4 (a0 : Int) (a1 : Int) (a2 : Int) (y : Bool) : Env :=
  [(6, ⟨none, .b y⟩)]
def x_F4 (a0 : Int) (a1 : Int) (a2 : Int) (y : Bool) : List (Option Blk) :=
  []
set_option maxRecDepth 100000 in
set_option maxHeartbeats 4000000 in
theorem F4_p3_ok {cx : Cx} {f : Nat} {I2 : Act → World → Prop} {g2 : Int → Option (Bool)} {a0 : Int} {a1 : Int} {a2 : Int} {x11_2 : Int} {r8 : screen_ScreenO} {x12_3 : cell_Cell} {y : Bool} (hg2 : ∀ (x11_2 : Int), g2 x11_2 = some y → ∀ a w, cx.In G0 92 0 [(2, ⟨none, .i .i64 a2⟩), (10, ⟨none, .p 0 0 0⟩), (11, ⟨none, .i .i64 x11_2⟩)] [some (B_screen_ScreenO 1 r8), some (blk_cell_Cell r8.Cells)] a w → I2 a w) (h : F4_p3 f g2 x11_2 r8 a2 x12_3 = some y) :
    WM Tryz.prog G0 92 0 Tryz.f4.results.toList (v_F4 a0 a1 a2 y) (x_F4 a0 a1 a2 y) cx (nav [.r, .r, .f, .r, .r, .f, .r, .l (fun _ _ => True), .r, .f, .r, .r, .f, .r, .l I2, .r, .t, .r, .r, .t, .r, .r, .t, .r, .n] [.code (bodyOf Tryz.f4)]) [(2, ⟨none, .i .i64 a2⟩), (10, ⟨none, .p 0 0 0⟩), (11, ⟨none, .i .i64 x11_2⟩), (12, ⟨none, .p 2 0 0⟩)] [some (B_screen_ScreenO 1 r8), some (blk_cell_Cell r8.Cells), some (svB 5 [.i .i32 x12_3.Rune, .i .i64 x12_3.Attr.Flags, .i .i64 x12_3.Attr.Fg, .i .i64 x12_3.Attr.Bg, .i .i64 x12_3.Wide])] := by
  unfold F4_p3 at h
  obtain ⟨h18, h⟩ := of_chk h
  obtain ⟨h19, h⟩ := of_chk h
  obtain ⟨h20, h⟩ := of_chk h
  rcases of_ifb h with ⟨h21, h⟩ | ⟨h21, h⟩
  · replace h := Option.some.inj h
    subst h
    exact WM.retE mixed (e_F4 a0 a1 a2 (false)) [R_ [o_, o_, o_, o_, o_, o_, o_], T_, R_ [o_]] [] (pc zlt1 <| pc h18 <| pc h19 <| pc h20 <| pc zlt1 <| pc ((h21 : (!(decide ((r8.Cells.getD (0 + x11_2.toNat) zero_cell_Cell).Rune = x12_3.Rune) && ((decide (((r8.Cells.getD (0 + x11_2.toNat) zero_cell_Cell).Attr).Flags = x12_3.Attr.Flags) && (decide (((r8.Cells.getD (0 + x11_2.toNat) zero_cell_Cell).Attr).Fg = x12_3.Attr.Fg) && (decide (((r8.Cells.getD (0 + x11_2.toNat) zero_cell_Cell).Attr).Bg = x12_3.Attr.Bg) && true))) && (decide ((r8.Cells.getD (0 + x11_2.toNat) zero_cell_Cell).Wide = x12_3.Wide) && true)))) = true)) <| allP_nil) (by kernel_rfl) (by kernel_rfl)
  · obtain ⟨h22, h⟩ := of_chk h
    exact WM.cut mixed [R_ [o_, o_, o_, o_, o_, o_, o_], F_, R_ [o_, o_, o_]] [some 0, some 1] (pc zlt1 <| pc h18 <| pc h19 <| pc h20 <| pc zlt1 <| pc ((h21 : (!(decide ((r8.Cells.getD (0 + x11_2.toNat) zero_cell_Cell).Rune = x12_3.Rune) && ((decide (((r8.Cells.getD (0 + x11_2.toNat) zero_cell_Cell).Attr).Flags = x12_3.Attr.Flags) && (decide (((r8.Cells.getD (0 + x11_2.toNat) zero_cell_Cell).Attr).Fg = x12_3.Attr.Fg) && (decide (((r8.Cells.getD (0 + x11_2.toNat) zero_cell_Cell).Attr).Bg = x12_3.Attr.Bg) && true))) && (decide ((r8.Cells.getD (0 + x11_2.toNat) zero_cell_Cell).Wide = x12_3.Wide) && true)))) = false)) <| pc h22 <| allP_nil) (WM.again (k := (nav [.r, .r, .f, .r, .r, .f, .r, .l (fun _ _ => True), .r, .f, .r, .r, .f, .r, .n] [.code (bodyOf Tryz.f4)]).tail) (hg2 _ h)) (by kernel_rfl)
set_option maxRecDepth 100000 in
set_option maxHeartbeats 4000000 in
theorem F4_p2_bok {cx : Cx} {f : Nat} {I2 : Act → World → Prop} {g2 : Int → Option (Bool)} {a0 : Int} {a1 : Int} {a2 : Int} {r8 : screen_ScreenO} {x11_2 : Int} {y : Bool} (hg2 : ∀ (x11_2 : Int), g2 x11_2 = some y → ∀ a w, cx.In G0 92 0 [(2, ⟨none, .i .i64 a2⟩), (10, ⟨none, .p 0 0 0⟩), (11, ⟨none, .i .i64 x11_2⟩)] [some (B_screen_ScreenO 1 r8), some (blk_cell_Cell r8.Cells)] a w → I2 a w) (h : F4_p2_b f g2 r8 a2 x11_2 = some y) :
    WM Tryz.prog G0 92 0 Tryz.f4.results.toList (v_F4 a0 a1 a2 y) (x_F4 a0 a1 a2 y) cx (nav [.r, .r, .f, .r, .r, .f, .r, .l (fun _ _ => True), .r, .f, .r, .r, .f, .r, .l I2] [.code (bodyOf Tryz.f4)]) [(2, ⟨none, .i .i64 a2⟩), (10, ⟨none, .p 0 0 0⟩), (11, ⟨none, .i .i64 x11_2⟩)] [some (B_screen_ScreenO 1 r8), some (blk_cell_Cell r8.Cells)] := by
  unfold F4_p2_b at h
  rcases of_ifb h with ⟨h12, h⟩ | ⟨h12, h⟩
  · obtain ⟨r9, h13, h⟩ := of_bnd h
    obtain ⟨h14, h⟩ := of_chk h
    rcases of_ifb h with ⟨h15, h⟩ | ⟨h15, h⟩
    · rcases of_ifb h with ⟨h16, h⟩ | ⟨h16, h⟩
      · exact WM.cut mixed [R_ [o_, o_, o_, o_, o_], T_, R_ [o_, c_ (mkCall Tryz.call13 (F13_ok h13) [2] (by kernel_rfl) (by kernel_rfl)), .op (.fresh 3 (svB 5 [.i .i32 0, .i .i64 0, .i .i64 0, .i .i64 0, .i .i64 0])), o_], R_ [o_, o_, o_, o_], T_, R_ [o_, o_], R_ [o_, o_, o_], T_, R_ [o_, o_]] [some 0, some 1, some 3] (pc zlt1 <| pc ((h12 : decide (x11_2 < ((r8.Cells_n : Nat) : Int)) = true)) <| pc zlt1 <| pc ((by decide : (2 : Int) ≠ 0)) <| pc h14 <| pc ((h15 : decide ((Int.tdiv x11_2 2) < a2) = true)) <| pc zlt1 <| pc ((by decide : (2 : Int) ≠ 0)) <| pc ((h16 : decide ((Int.tmod x11_2 2) = 1) = true)) <| pc zlt1 <| allP_nil) (F4_p3_ok hg2 h) (by kernel_rfl)
      · exact WM.cut mixed [R_ [o_, o_, o_, o_, o_], T_, R_ [o_, c_ (mkCall Tryz.call13 (F13_ok h13) [2] (by kernel_rfl) (by kernel_rfl)), .op (.fresh 3 (svB 5 [.i .i32 0, .i .i64 0, .i .i64 0, .i .i64 0, .i .i64 0])), o_], R_ [o_, o_, o_, o_], T_, R_ [o_, o_], R_ [o_, o_, o_], F_] [some 0, some 1, some 3] (pc zlt1 <| pc ((h12 : decide (x11_2 < ((r8.Cells_n : Nat) : Int)) = true)) <| pc zlt1 <| pc ((by decide : (2 : Int) ≠ 0)) <| pc h14 <| pc ((h15 : decide ((Int.tdiv x11_2 2) < a2) = true)) <| pc zlt1 <| pc ((by decide : (2 : Int) ≠ 0)) <| pc ((h16 : decide ((Int.tmod x11_2 2) = 1) = false)) <| allP_nil) (F4_p3_ok hg2 h) (by kernel_rfl)
    · exact WM.cut mixed [R_ [o_, o_, o_, o_, o_], T_, R_ [o_, c_ (mkCall Tryz.call13 (F13_ok h13) [2] (by kernel_rfl) (by kernel_rfl)), .op (.fresh 3 (svB 5 [.i .i32 0, .i .i64 0, .i .i64 0, .i .i64 0, .i .i64 0])), o_], R_ [o_, o_, o_, o_], F_] [some 0, some 1, some 3] (pc zlt1 <| pc ((h12 : decide (x11_2 < ((r8.Cells_n : Nat) : Int)) = true)) <| pc zlt1 <| pc ((by decide : (2 : Int) ≠ 0)) <| pc h14 <| pc ((h15 : decide ((Int.tdiv x11_2 2) < a2) = false)) <| allP_nil) (F4_p3_ok hg2 h) (by kernel_rfl)
  · obtain ⟨r10, h17, h⟩ := of_bnd h
    replace h := Option.some.inj h
    subst h
    exact WM.retE mixed (e_F4 a0 a1 a2 (r10)) [R_ [o_, o_, o_, o_, o_], F_, R_ [c_ (mkCall Tryz.call8 (F8_ok h17) [] (by kernel_rfl) (by kernel_rfl)), o_]] [] (pc zlt1 <| pc ((h12 : decide (x11_2 < ((r8.Cells_n : Nat) : Int)) = false)) <| allP_nil) (by kernel_rfl) (by kernel_rfl)
set_option maxRecDepth 100000 in
set_option maxHeartbeats 4000000 in
theorem F4_p2_ok {cx : Cx} {f : Nat} {a0 : Int} {a1 : Int} {a2 : Int} {r8 : screen_ScreenO} {x11_2 : Int} {j : Nat} {y : Bool} (h : F4_p2 f r8 a2 j x11_2 = some y) :
    WM Tryz.prog G0 92 0 Tryz.f4.results.toList (v_F4 a0 a1 a2 y) (x_F4 a0 a1 a2 y) cx (nav [.r, .r, .f, .r, .r, .f, .r, .l (fun _ _ => True), .r, .f, .r, .r, .f, .r, .n] [.code (bodyOf Tryz.f4)]) [(2, ⟨none, .i .i64 a2⟩), (10, ⟨none, .p 0 0 0⟩), (11, ⟨none, .i .i64 x11_2⟩)] [some (B_screen_ScreenO 1 r8), some (blk_cell_Cell r8.Cells)] := by
  refine WM.loopN (X := Int) (y := y) (kb := fun I2 => (nav [.r, .r, .f, .r, .r, .f, .r, .l (fun _ _ => True), .r, .f, .r, .r, .f, .r, .l I2] [.code (bodyOf Tryz.f4)])) (by intro I; kernel_rfl) (fun j x => F4_p2 f r8 a2 j x) (fun x => [(2, ⟨none, .i .i64 a2⟩), (10, ⟨none, .p 0 0 0⟩), (11, ⟨none, .i .i64 x⟩)]) (fun x => [some (B_screen_ScreenO 1 r8), some (blk_cell_Cell r8.Cells)]) ?_ (j := j) (x := x11_2) h
  intro j x I2 h hI
  cases j with
  | zero => cases h
  | succ j => exact F4_p2_bok (fun x0 => hI j x0 (Nat.lt_succ_self j)) h
set_option maxRecDepth 100000 in
set_option maxHeartbeats 4000000 in
theorem F4_p1_bok {cx : Cx} {f : Nat} {I1 : Act → World → Prop} {g1 : term_TermO_2 → Int → Option (Bool)} {a0 : Int} {a1 : Int} {a2 : Int} {x7_1 : term_TermO_2} {x9_1 : Int} {y : Bool} (hg1 : ∀ (x7_1 : term_TermO_2) (x9_1 : Int), g1 x7_1 x9_1 = some y → ∀ a w, cx.In G0 92 0 [(0, ⟨none, .i .i64 a0⟩), (1, ⟨none, .i .i64 a1⟩), (2, ⟨none, .i .i64 a2⟩), (7, ⟨none, .p 0 0 0⟩), (9, ⟨none, .i .i64 x9_1⟩)] [some (B_term_TermO_2 1 3 5 7 9 13 x7_1), some (B_grid_GridO 2 x7_1.grids_0), some (blk_cell_Cell x7_1.grids_0.l), some (B_grid_GridO 4 x7_1.grids_1), some (blk_cell_Cell x7_1.grids_1.l), some (B_tabs_StopsO_1 6 x7_1.stops), some (boolB x7_1.stops.at_), some (B_utf_DecoderO 8 x7_1.signs), some (intB .u8 x7_1.signs.b), some (B_esc_ParserO 10 11 12 x7_1.asks), some (intB .i64 x7_1.asks.params), some (intB .i32 x7_1.asks.text), some (blk_esc_Event x7_1.asks.out), some (intB .u8 x7_1.reply)] a w → I1 a w) (h : F4_p1_b f g1 a2 a0 a1 x7_1 x9_1 = some y) :
    WM Tryz.prog G0 92 0 Tryz.f4.results.toList (v_F4 a0 a1 a2 y) (x_F4 a0 a1 a2 y) cx (nav [.r, .r, .f, .r, .r, .f, .r, .l I1] [.code (bodyOf Tryz.f4)]) [(0, ⟨none, .i .i64 a0⟩), (1, ⟨none, .i .i64 a1⟩), (2, ⟨none, .i .i64 a2⟩), (7, ⟨none, .p 0 0 0⟩), (9, ⟨none, .i .i64 x9_1⟩)] [some (B_term_TermO_2 1 3 5 7 9 13 x7_1), some (B_grid_GridO 2 x7_1.grids_0), some (blk_cell_Cell x7_1.grids_0.l), some (B_grid_GridO 4 x7_1.grids_1), some (blk_cell_Cell x7_1.grids_1.l), some (B_tabs_StopsO_1 6 x7_1.stops), some (boolB x7_1.stops.at_), some (B_utf_DecoderO 8 x7_1.signs), some (intB .u8 x7_1.signs.b), some (B_esc_ParserO 10 11 12 x7_1.asks), some (intB .i64 x7_1.asks.params), some (intB .i32 x7_1.asks.text), some (blk_esc_Event x7_1.asks.out), some (intB .u8 x7_1.reply)] := by
  unfold F4_p1_b at h
  rcases of_ifb h with ⟨h7, h⟩ | ⟨h7, h⟩
  · obtain ⟨r7, h8, h⟩ := of_bnd h
    obtain ⟨h9, h⟩ := of_chk h
    exact WM.cut mixed [R_ [o_, o_, o_], T_, R_ [o_, .op (.fresh 14 (intB .u8 [228, 184, 128])), c_ (mkCall Tryz.call10 (F10_ok h8) [0, 1, 2, 3, 4, 5, 6, 7, 8, 9, 10, 11, 12, 13, 14, 15, 16, 17, 18, 19, 20, 21, 22, 23, 24, 25] (by kernel_rfl) (by kernel_rfl))], R_ [o_, o_, o_]] [some 0, some 15, some 16, some 17, some 18, some 19, some 20, some 7, some 21, some 9, some 22, some 23, some 24, some 25] (pc ((h7 : decide (x9_1 < a2) = true)) <| pc h9 <| allP_nil) (WM.again (k := (nav [.r, .r, .f, .r, .r, .f, .r, .n] [.code (bodyOf Tryz.f4)]).tail) (hg1 _ _ h)) (by kernel_rfl)
  · obtain ⟨r8, h10, h⟩ := of_bnd h
    rcases of_ifb h with ⟨h11, h⟩ | ⟨h11, h⟩
    · replace h := Option.some.inj h
      subst h
      exact WM.retE mixed (e_F4 a0 a1 a2 (false)) [R_ [o_, o_, o_], F_, R_ [o_, c_ (mkCall Tryz.call11 (F11_ok h10) [0, 1, 2, 3, 4, 5, 6, 7, 8, 9, 10, 11, 12, 13, 14, 15] (by kernel_rfl) (by kernel_rfl)), .op (.fresh 16 (svB 7 [.i .i64 0, .i .i64 0, .nils, .i .i64 0, .i .i64 0, .b false, .s []])), o_], R_ [o_, o_, o_, o_, o_, o_, o_, o_], T_, R_ [o_]] [] (pc ((h7 : decide (x9_1 < a2) = false)) <| pc zlt1 <| pc zlt1 <| pc ((h11 : (!(decide (((r8.Cells_n : Nat) : Int) = (wr ((wr (2 * a0)) * a1))))) = true)) <| allP_nil) (by kernel_rfl) (by kernel_rfl)
    · exact WM.cut mixed [R_ [o_, o_, o_], F_, R_ [o_, c_ (mkCall Tryz.call11 (F11_ok h10) [0, 1, 2, 3, 4, 5, 6, 7, 8, 9, 10, 11, 12, 13, 14, 15] (by kernel_rfl) (by kernel_rfl)), .op (.fresh 16 (svB 7 [.i .i64 0, .i .i64 0, .nils, .i .i64 0, .i .i64 0, .b false, .s []])), o_], R_ [o_, o_, o_, o_, o_, o_, o_, o_], F_, R_ [o_]] [some 16, some 15] (pc ((h7 : decide (x9_1 < a2) = false)) <| pc zlt1 <| pc zlt1 <| pc ((h11 : (!(decide (((r8.Cells_n : Nat) : Int) = (wr ((wr (2 * a0)) * a1))))) = false)) <| allP_nil) (F4_p2_ok h) (by kernel_rfl)
set_option maxRecDepth 100000 in
set_option maxHeartbeats 4000000 in
theorem F4_p1_ok {cx : Cx} {f : Nat} {a0 : Int} {a1 : Int} {a2 : Int} {x7_1 : term_TermO_2} {x9_1 : Int} {j : Nat} {y : Bool} (h : F4_p1 f a2 a0 a1 j x7_1 x9_1 = some y) :
    WM Tryz.prog G0 92 0 Tryz.f4.results.toList (v_F4 a0 a1 a2 y) (x_F4 a0 a1 a2 y) cx (nav [.r, .r, .f, .r, .r, .f, .r, .n] [.code (bodyOf Tryz.f4)]) [(0, ⟨none, .i .i64 a0⟩), (1, ⟨none, .i .i64 a1⟩), (2, ⟨none, .i .i64 a2⟩), (7, ⟨none, .p 0 0 0⟩), (9, ⟨none, .i .i64 x9_1⟩)] [some (B_term_TermO_2 1 3 5 7 9 13 x7_1), some (B_grid_GridO 2 x7_1.grids_0), some (blk_cell_Cell x7_1.grids_0.l), some (B_grid_GridO 4 x7_1.grids_1), some (blk_cell_Cell x7_1.grids_1.l), some (B_tabs_StopsO_1 6 x7_1.stops), some (boolB x7_1.stops.at_), some (B_utf_DecoderO 8 x7_1.signs), some (intB .u8 x7_1.signs.b), some (B_esc_ParserO 10 11 12 x7_1.asks), some (intB .i64 x7_1.asks.params), some (intB .i32 x7_1.asks.text), some (blk_esc_Event x7_1.asks.out), some (intB .u8 x7_1.reply)] := by
  refine WM.loopN (X := term_TermO_2 × Int) (y := y) (kb := fun I1 => (nav [.r, .r, .f, .r, .r, .f, .r, .l I1] [.code (bodyOf Tryz.f4)])) (by intro I; kernel_rfl) (fun j x => F4_p1 f a2 a0 a1 j x.1 x.2) (fun x => [(0, ⟨none, .i .i64 a0⟩), (1, ⟨none, .i .i64 a1⟩), (2, ⟨none, .i .i64 a2⟩), (7, ⟨none, .p 0 0 0⟩), (9, ⟨none, .i .i64 x.2⟩)]) (fun x => [some (B_term_TermO_2 1 3 5 7 9 13 x.1), some (B_grid_GridO 2 x.1.grids_0), some (blk_cell_Cell x.1.grids_0.l), some (B_grid_GridO 4 x.1.grids_1), some (blk_cell_Cell x.1.grids_1.l), some (B_tabs_StopsO_1 6 x.1.stops), some (boolB x.1.stops.at_), some (B_utf_DecoderO 8 x.1.signs), some (intB .u8 x.1.signs.b), some (B_esc_ParserO 10 11 12 x.1.asks), some (intB .i64 x.1.asks.params), some (intB .i32 x.1.asks.text), some (blk_esc_Event x.1.asks.out), some (intB .u8 x.1.reply)]) ?_ (j := j) (x := (x7_1, x9_1)) h
  intro j x I1 h hI
  cases j with
  | zero => cases h
  | succ j => exact F4_p1_bok (fun x0 x1 => hI j (x0, x1) (Nat.lt_succ_self j)) h
set_option maxRecDepth 100000 in
set_option maxHeartbeats 4000000 in
theorem F4_ok {f : Nat} {a0 : Int} {a1 : Int} {a2 : Int} {y : Bool} (h : F4 f a0 a1 a2 = some y) :
    Spec Tryz.prog G0 4 [.i .i64 a0, .i .i64 a1, .i .i64 a2] [] (v_F4 a0 a1 a2 y) (x_F4 a0 a1 a2 y) :=
  Spec.ofM (fn := Tryz.f4) (c := bodyOf Tryz.f4) (n := 92) (rs := Tryz.f4.results.toList) Tryz.func4 (by kernel_rfl) (by kernel_rfl) (by kernel_rfl) (by kernel_rfl) fun cx => by
  unfold F4 at h
  obtain ⟨r1, h1, h⟩ := of_bnd h
  rcases of_ifb h with ⟨h2, h⟩ | ⟨h2, h⟩
  · replace h := Option.some.inj h
    subst h
    exact WM.retE mixed (e_F4 a0 a1 a2 (false)) [R_ [o_], R_ [c_ (mkCall Tryz.call8 (F8_ok h1) [] (by kernel_rfl) (by kernel_rfl)), o_], T_, R_ [o_]] [] (pc ((h2 : (!r1) = true)) <| allP_nil) (by kernel_rfl) (by kernel_rfl)
  · obtain ⟨r2, h3, h⟩ := of_bnd h
    rcases of_sm h with ⟨r3, rfl, h⟩ | ⟨r4, rfl, h⟩
    · obtain ⟨r5, h4, h⟩ := of_bnd h
      replace h := Option.some.inj h
      subst h
      exact WM.retE mixed (e_F4 a0 a1 a2 (r5)) [R_ [o_], R_ [c_ (mkCall Tryz.call8 (F8_ok h1) [] (by kernel_rfl) (by kernel_rfl)), o_], F_, R_ [o_, o_, o_, c_ (mkCall Tryz.call9 (F9_ok h3) [] (by kernel_rfl) (by kernel_rfl)), o_, o_, o_, o_, o_], R_ [o_, o_, o_, s_, s_, .pk true, o_, s_, s_, .pk true, o_, s_, s_, .pk true, o_, s_, s_, s_, s_, s_, .pk true, o_, s_, s_, .pk true], T_, R_ [c_ (mkCall Tryz.call8 (F8_ok h4) [] (by kernel_rfl) (by kernel_rfl)), o_]] [] (pc ((h2 : (!r1) = false)) <| pc ((rfl : false = false)) <| pc ((rfl : false = false)) <| pc ((rfl : true = true)) <| pc ((rfl : false = false)) <| pc ((rfl : false = false)) <| pc ((rfl : true = true)) <| pc ((rfl : false = false)) <| pc ((rfl : false = false)) <| pc ((rfl : true = true)) <| pc ((rfl : false = false)) <| pc ((rfl : false = false)) <| pc ((rfl : false = false)) <| pc ((rfl : false = false)) <| pc ((rfl : false = false)) <| pc ((rfl : true = true)) <| pc ((rfl : false = false)) <| pc ((rfl : false = false)) <| pc ((rfl : true = true)) <| pc ((rfl : true = true)) <| allP_nil) (by kernel_rfl) (by kernel_rfl)
    · rcases of_ifb h with ⟨h5, h⟩ | ⟨h5, h⟩
      · obtain ⟨r6, h6, h⟩ := of_bnd h
        replace h := Option.some.inj h
        subst h
        exact WM.retE mixed (e_F4 a0 a1 a2 (r6)) [R_ [o_], R_ [c_ (mkCall Tryz.call8 (F8_ok h1) [] (by kernel_rfl) (by kernel_rfl)), o_], F_, R_ [o_, o_, o_, c_ (mkCall Tryz.call9 (F9_ok h3) [0, 1, 2, 3, 4, 5, 6, 7, 8, 9, 10, 11, 12, 13] (by kernel_rfl) (by kernel_rfl)), o_, o_, o_, o_, o_], R_ [o_, o_, o_, m_, m_, .pk false, o_, o_, o_, o_, o_, o_, o_, o_, o_, o_, o_, o_, o_, o_, o_, o_, o_, o_, o_], T_, R_ [c_ (mkCall Tryz.call8 (F8_ok h6) [] (by kernel_rfl) (by kernel_rfl)), o_]] [] (pc ((h2 : (!r1) = false)) <| pc ((rfl : true = true)) <| pc ((rfl : true = true)) <| pc ((rfl : false = false)) <| pc ((fun h => h : ((!(!(decide (r4.2 = 0)))) = true → (!(!(decide (r4.2 = 0)))) = true))) <| pc ((fun k2 => (not_t k2) : ((!(decide (r4.2 = 0))) = false → (!(!(decide (r4.2 = 0)))) = true))) <| pc ((fun h => h : ((!((!(decide (r4.2 = 0))) || decide (a1 < 1))) = true → (!((!(decide (r4.2 = 0))) || decide (a1 < 1))) = true))) <| pc ((fun k2 => (not_t k2) : (((!(decide (r4.2 = 0))) || decide (a1 < 1)) = false → (!((!(decide (r4.2 = 0))) || decide (a1 < 1))) = true))) <| pc ((fun h => h : ((!(((!(decide (r4.2 = 0))) || decide (a1 < 1)) || decide (a2 < 0))) = true → (!(((!(decide (r4.2 = 0))) || decide (a1 < 1)) || decide (a2 < 0))) = true))) <| pc ((fun h => h : ((!(((!(decide (r4.2 = 0))) || decide (a1 < 1)) || decide (a2 < 0))) = true → (!(((!(decide (r4.2 = 0))) || decide (a1 < 1)) || decide (a2 < 0))) = true))) <| pc ((fun h => h : ((!(((!(decide (r4.2 = 0))) || decide (a1 < 1)) || decide (a2 < 0))) = true → (!(((!(decide (r4.2 = 0))) || decide (a1 < 1)) || decide (a2 < 0))) = true))) <| pc ((fun h => h : ((!(((!(decide (r4.2 = 0))) || decide (a1 < 1)) || decide (a2 < 0))) = true → (!(((!(decide (r4.2 = 0))) || decide (a1 < 1)) || decide (a2 < 0))) = true))) <| pc ((fun k2 => (not_t k2) : ((((!(decide (r4.2 = 0))) || decide (a1 < 1)) || decide (a2 < 0)) = false → (!(((!(decide (r4.2 = 0))) || decide (a1 < 1)) || decide (a2 < 0))) = true))) <| pc ((fun h => h : ((!((((!(decide (r4.2 = 0))) || decide (a1 < 1)) || decide (a2 < 0)) || decide (a2 > (wr (a0 * a1))))) = true → (!((((!(decide (r4.2 = 0))) || decide (a1 < 1)) || decide (a2 < 0)) || decide (a2 > (wr (a0 * a1))))) = true))) <| pc ((fun k2 => (not_t k2) : (((((!(decide (r4.2 = 0))) || decide (a1 < 1)) || decide (a2 < 0)) || decide (a2 > (wr (a0 * a1)))) = false → (!((((!(decide (r4.2 = 0))) || decide (a1 < 1)) || decide (a2 < 0)) || decide (a2 > (wr (a0 * a1))))) = true))) <| pc ((h5 : (((((!(decide (r4.2 = 0))) || decide (a1 < 1)) || decide (a2 < 0)) || decide (a2 > (wr (a0 * a1)))) || decide (a2 > 100)) = true)) <| allP_nil) (by kernel_rfl) (by kernel_rfl)
      · exact WM.cut mixed [R_ [o_], R_ [c_ (mkCall Tryz.call8 (F8_ok h1) [] (by kernel_rfl) (by kernel_rfl)), o_], F_, R_ [o_, o_, o_, c_ (mkCall Tryz.call9 (F9_ok h3) [0, 1, 2, 3, 4, 5, 6, 7, 8, 9, 10, 11, 12, 13] (by kernel_rfl) (by kernel_rfl)), o_, o_, o_, o_, o_], R_ [o_, o_, o_, m_, m_, .pk false, o_, o_, o_, o_, o_, o_, o_, o_, o_, o_, o_, o_, o_, o_, o_, o_, o_, o_, o_], F_, R_ [o_]] [some 0, some 1, some 2, some 3, some 4, some 5, some 6, some 7, some 8, some 9, some 10, some 11, some 12, some 13] (pc ((h2 : (!r1) = false)) <| pc ((rfl : true = true)) <| pc ((rfl : true = true)) <| pc ((rfl : false = false)) <| pc ((fun h => h : ((!(!(decide (r4.2 = 0)))) = true → (!(!(decide (r4.2 = 0)))) = true))) <| pc ((fun k2 => (not_t k2) : ((!(decide (r4.2 = 0))) = false → (!(!(decide (r4.2 = 0)))) = true))) <| pc ((fun h => h : ((!((!(decide (r4.2 = 0))) || decide (a1 < 1))) = true → (!((!(decide (r4.2 = 0))) || decide (a1 < 1))) = true))) <| pc ((fun k2 => (not_t k2) : (((!(decide (r4.2 = 0))) || decide (a1 < 1)) = false → (!((!(decide (r4.2 = 0))) || decide (a1 < 1))) = true))) <| pc ((fun h => h : ((!(((!(decide (r4.2 = 0))) || decide (a1 < 1)) || decide (a2 < 0))) = true → (!(((!(decide (r4.2 = 0))) || decide (a1 < 1)) || decide (a2 < 0))) = true))) <| pc ((fun h => h : ((!(((!(decide (r4.2 = 0))) || decide (a1 < 1)) || decide (a2 < 0))) = true → (!(((!(decide (r4.2 = 0))) || decide (a1 < 1)) || decide (a2 < 0))) = true))) <| pc ((fun h => h : ((!(((!(decide (r4.2 = 0))) || decide (a1 < 1)) || decide (a2 < 0))) = true → (!(((!(decide (r4.2 = 0))) || decide (a1 < 1)) || decide (a2 < 0))) = true))) <| pc ((fun h => h : ((!(((!(decide (r4.2 = 0))) || decide (a1 < 1)) || decide (a2 < 0))) = true → (!(((!(decide (r4.2 = 0))) || decide (a1 < 1)) || decide (a2 < 0))) = true))) <| pc ((fun k2 => (not_t k2) : ((((!(decide (r4.2 = 0))) || decide (a1 < 1)) || decide (a2 < 0)) = false → (!(((!(decide (r4.2 = 0))) || decide (a1 < 1)) || decide (a2 < 0))) = true))) <| pc ((fun h => h : ((!((((!(decide (r4.2 = 0))) || decide (a1 < 1)) || decide (a2 < 0)) || decide (a2 > (wr (a0 * a1))))) = true → (!((((!(decide (r4.2 = 0))) || decide (a1 < 1)) || decide (a2 < 0)) || decide (a2 > (wr (a0 * a1))))) = true))) <| pc ((fun k2 => (not_t k2) : (((((!(decide (r4.2 = 0))) || decide (a1 < 1)) || decide (a2 < 0)) || decide (a2 > (wr (a0 * a1)))) = false → (!((((!(decide (r4.2 = 0))) || decide (a1 < 1)) || decide (a2 < 0)) || decide (a2 > (wr (a0 * a1))))) = true))) <| pc ((h5 : (((((!(decide (r4.2 = 0))) || decide (a1 < 1)) || decide (a2 < 0)) || decide (a2 > (wr (a0 * a1)))) || decide (a2 > 100)) = false)) <| allP_nil) (F4_p1_ok h) (by kernel_rfl)
end Go.Proofs.YtiekchfipaiflaaGreatDoor
