/- Printed by program: what each function of the call computes, as a Lean function, and that the call computes it (part 3). -/
import Derived.Test.YtiekchfipaiflaaGreatDoorT2
namespace Go.Proofs.YtiekchfipaiflaaGreatDoor
open Go
set_option linter.unusedVariables false
/-! ### F129: function 129 tickertape/sgr.given -/
def F129_p2_b (f : Nat) (g2 : Int → Int → Option (Int × Int × Bool)) (a0 : List Int) (x5_1 : Int) (x6_2 : Int) (x33_2 : Int) : Option (Int × Int × Bool) :=
  ifb (decide (x33_2 < (((((a0.take x5_1.toNat).drop 1)).length : Nat) : Int))) (
    chk (0 ≤ x33_2) <|
    chk (x33_2 < (((((a0.take x5_1.toNat).drop 1)).length : Nat) : Int)) <|
    chk (x33_2.toNat < (((a0.take x5_1.toNat).drop 1)).length) <|
    ifb ((decide ((((a0.take x5_1.toNat).drop 1).getD x33_2.toNat 0) < (-1)) || decide ((((a0.take x5_1.toNat).drop 1).getD x33_2.toNat 0) ≥ 256))) (
      some ((0, x5_1, false))) (
      chk (inR ((wr (x6_2 * 256)) + (imax (((a0.take x5_1.toNat).drop 1).getD x33_2.toNat 0) 0))) <|
      chk (inR (x33_2 + 1)) <|
      g2 ((wr (x6_2 * 256)) + (imax (((a0.take x5_1.toNat).drop 1).getD x33_2.toNat 0) 0)) (x33_2 + 1))) (
    ifb (decide (x5_1 = 2)) (
      chk (inR (1 + x6_2)) <|
      some (((1 + x6_2), x5_1, true))) (
      chk (inR (16777216 + x6_2)) <|
      some (((16777216 + x6_2), x5_1, true))))
def F129_p2 (f : Nat) (a0 : List Int) (x5_1 : Int) : Nat → Int → Int → Option (Int × Int × Bool)
  | 0, _, _ => none
  | j + 1, x6_2, x33_2 => F129_p2_b f (F129_p2 f a0 x5_1 j) a0 x5_1 x6_2 x33_2
def F129_p1 (f : Nat) (a0 : List Int) (x5_1 : Int) : Option (Int × Int × Bool) :=
  chk (1 ≤ x5_1) <|
  chk (x5_1 ≤ ((a0.length : Nat) : Int)) <|
  F129_p2 f a0 x5_1 f 0 0
def F129 (f : Nat) (a0 : List Int) : Option (Int × Int × Bool) :=
  chk ((decide (((a0.length : Nat) : Int) ≥ 2) = true → (0 : Int) ≤ 0)) <|
  chk ((decide (((a0.length : Nat) : Int) ≥ 2) = true → 0 < ((a0.length : Nat) : Int))) <|
  chk ((decide (((a0.length : Nat) : Int) ≥ 2) = true → 0 < a0.length)) <|
  ifb ((decide (((a0.length : Nat) : Int) ≥ 2) && decide ((a0.getD 0 0) = 5))) (
    F129_p1 f a0 2) (
    chk ((decide (((a0.length : Nat) : Int) ≥ 4) = true → (0 : Int) ≤ 0)) <|
    chk ((decide (((a0.length : Nat) : Int) ≥ 4) = true → 0 < ((a0.length : Nat) : Int))) <|
    chk ((decide (((a0.length : Nat) : Int) ≥ 4) = true → 0 < a0.length)) <|
    ifb ((decide (((a0.length : Nat) : Int) ≥ 4) && decide ((a0.getD 0 0) = 2))) (
      F129_p1 f a0 4) (
      some ((0, 0, false))))
def v_F129 (a0 : List Int) (y : Int × Int × Bool) : V :=
  .tup [.i .i64 y.1, .i .i64 y.2.1, .b y.2.2]
def e_F129 (a0 : List Int) (y : Int × Int × Bool) : Env :=
  [(2, ⟨none, .i .i64 y.1⟩), (3, ⟨none, .i .i64 y.2.1⟩), (4, ⟨none, .b y.2.2⟩)]
def x_F129 (a0 : List Int) (y : Int × Int × Bool) : List (Option Blk) :=
  []
set_option maxRecDepth 100000 in
set_option maxHeartbeats 4000000 in
theorem F129_p2_bok {cx : Cx} {f : Nat} {I2 : Act → World → Prop} {g2 : Int → Int → Option (Int × Int × Bool)} {a0 : List Int} {x5_1 : Int} {x6_2 : Int} {x33_2 : Int} {y : Int × Int × Bool} (hg2 : ∀ (x6_2 : Int) (x33_2 : Int), g2 x6_2 x33_2 = some y → ∀ a w, cx.In G0 58 0 [(5, ⟨none, .i .i64 x5_1⟩), (6, ⟨none, .i .i64 x6_2⟩), (31, ⟨none, .ro Int 1 (fun n => [.i .i64 n]) 0 ((a0.take x5_1.toNat).drop 1)⟩), (32, ⟨none, .i .i64 (((((a0.take x5_1.toNat).drop 1)).length : Nat) : Int)⟩), (33, ⟨none, .i .i64 x33_2⟩)] [] a w → I2 a w) (h : F129_p2_b f g2 a0 x5_1 x6_2 x33_2 = some y) :
    WM Tryz.prog G0 58 0 Tryz.f129.results.toList (v_F129 a0 y) (x_F129 a0 y) cx (nav [.r, .r, .r, .t, .r, .r, .r, .l I2] [.code (bodyOf Tryz.f129)]) [(5, ⟨none, .i .i64 x5_1⟩), (6, ⟨none, .i .i64 x6_2⟩), (31, ⟨none, .ro Int 1 (fun n => [.i .i64 n]) 0 ((a0.take x5_1.toNat).drop 1)⟩), (32, ⟨none, .i .i64 (((((a0.take x5_1.toNat).drop 1)).length : Nat) : Int)⟩), (33, ⟨none, .i .i64 x33_2⟩)] [] := by
  unfold F129_p2_b at h
  rcases of_ifb h with ⟨h11, h⟩ | ⟨h11, h⟩
  · obtain ⟨h12, h⟩ := of_chk h
    obtain ⟨h13, h⟩ := of_chk h
    obtain ⟨h14, h⟩ := of_chk h
    rcases of_ifb h with ⟨h15, h⟩ | ⟨h15, h⟩
    · replace h := Option.some.inj h
      subst h
      exact WM.retE mixed (e_F129 a0 ((0, x5_1, false))) [R_ [o_], T_, R_ [o_, o_, o_], R_ [o_, o_, o_, o_, o_, o_], T_, R_ [o_, o_, o_, o_]] [] (pc ((h11 : decide (x33_2 < (((((a0.take x5_1.toNat).drop 1)).length : Nat) : Int)) = true)) <| pc h12 <| pc h13 <| pc h14 <| pc ((fun h => h : ((!(decide ((((a0.take x5_1.toNat).drop 1).getD x33_2.toNat 0) < (-1)))) = true → (!(decide ((((a0.take x5_1.toNat).drop 1).getD x33_2.toNat 0) < (-1)))) = true))) <| pc ((fun k2 => (not_t k2) : (decide ((((a0.take x5_1.toNat).drop 1).getD x33_2.toNat 0) < (-1)) = false → (!(decide ((((a0.take x5_1.toNat).drop 1).getD x33_2.toNat 0) < (-1)))) = true))) <| pc ((h15 : (decide ((((a0.take x5_1.toNat).drop 1).getD x33_2.toNat 0) < (-1)) || decide ((((a0.take x5_1.toNat).drop 1).getD x33_2.toNat 0) ≥ 256)) = true)) <| allP_nil) (by kernel_rfl) (by kernel_rfl)
    · obtain ⟨h16, h⟩ := of_chk h
      obtain ⟨h17, h⟩ := of_chk h
      exact WM.cut mixed [R_ [o_], T_, R_ [o_, o_, o_], R_ [o_, o_, o_, o_, o_, o_], F_, R_ [o_, o_, o_, o_, o_, o_], R_ [o_, o_]] [] (pc ((h11 : decide (x33_2 < (((((a0.take x5_1.toNat).drop 1)).length : Nat) : Int)) = true)) <| pc h12 <| pc h13 <| pc h14 <| pc ((fun h => h : ((!(decide ((((a0.take x5_1.toNat).drop 1).getD x33_2.toNat 0) < (-1)))) = true → (!(decide ((((a0.take x5_1.toNat).drop 1).getD x33_2.toNat 0) < (-1)))) = true))) <| pc ((fun k2 => (not_t k2) : (decide ((((a0.take x5_1.toNat).drop 1).getD x33_2.toNat 0) < (-1)) = false → (!(decide ((((a0.take x5_1.toNat).drop 1).getD x33_2.toNat 0) < (-1)))) = true))) <| pc ((h15 : (decide ((((a0.take x5_1.toNat).drop 1).getD x33_2.toNat 0) < (-1)) || decide ((((a0.take x5_1.toNat).drop 1).getD x33_2.toNat 0) ≥ 256)) = false)) <| pc h16 <| pc h17 <| allP_nil) (WM.again (k := (nav [.r, .r, .r, .t, .r, .r, .r, .n] [.code (bodyOf Tryz.f129)]).tail) (hg2 _ _ h)) (by kernel_rfl)
  · rcases of_ifb h with ⟨h18, h⟩ | ⟨h18, h⟩
    · obtain ⟨h19, h⟩ := of_chk h
      replace h := Option.some.inj h
      subst h
      exact WM.retE mixed (e_F129 a0 (((1 + x6_2), x5_1, true))) [R_ [o_], F_, R_ [o_, o_], T_, R_ [o_, o_, o_, o_, o_, o_]] [] (pc ((h11 : decide (x33_2 < (((((a0.take x5_1.toNat).drop 1)).length : Nat) : Int)) = false)) <| pc ((h18 : decide (x5_1 = 2) = true)) <| pc h19 <| allP_nil) (by kernel_rfl) (by kernel_rfl)
    · obtain ⟨h20, h⟩ := of_chk h
      replace h := Option.some.inj h
      subst h
      exact WM.retE mixed (e_F129 a0 (((16777216 + x6_2), x5_1, true))) [R_ [o_], F_, R_ [o_, o_], F_, R_ [o_, o_, o_, o_, o_, o_]] [] (pc ((h11 : decide (x33_2 < (((((a0.take x5_1.toNat).drop 1)).length : Nat) : Int)) = false)) <| pc ((h18 : decide (x5_1 = 2) = false)) <| pc h20 <| allP_nil) (by kernel_rfl) (by kernel_rfl)
set_option maxRecDepth 100000 in
set_option maxHeartbeats 4000000 in
theorem F129_p2_ok {cx : Cx} {f : Nat} {a0 : List Int} {x5_1 : Int} {x6_2 : Int} {x33_2 : Int} {j : Nat} {y : Int × Int × Bool} (h : F129_p2 f a0 x5_1 j x6_2 x33_2 = some y) :
    WM Tryz.prog G0 58 0 Tryz.f129.results.toList (v_F129 a0 y) (x_F129 a0 y) cx (nav [.r, .r, .r, .t, .r, .r, .r, .n] [.code (bodyOf Tryz.f129)]) [(5, ⟨none, .i .i64 x5_1⟩), (6, ⟨none, .i .i64 x6_2⟩), (31, ⟨none, .ro Int 1 (fun n => [.i .i64 n]) 0 ((a0.take x5_1.toNat).drop 1)⟩), (32, ⟨none, .i .i64 (((((a0.take x5_1.toNat).drop 1)).length : Nat) : Int)⟩), (33, ⟨none, .i .i64 x33_2⟩)] [] := by
  refine WM.loopN (X := Int × Int) (y := y) (kb := fun I2 => (nav [.r, .r, .r, .t, .r, .r, .r, .l I2] [.code (bodyOf Tryz.f129)])) (by intro I; kernel_rfl) (fun j x => F129_p2 f a0 x5_1 j x.1 x.2) (fun x => [(5, ⟨none, .i .i64 x5_1⟩), (6, ⟨none, .i .i64 x.1⟩), (31, ⟨none, .ro Int 1 (fun n => [.i .i64 n]) 0 ((a0.take x5_1.toNat).drop 1)⟩), (32, ⟨none, .i .i64 (((((a0.take x5_1.toNat).drop 1)).length : Nat) : Int)⟩), (33, ⟨none, .i .i64 x.2⟩)]) (fun x => []) ?_ (j := j) (x := (x6_2, x33_2)) h
  intro j x I2 h hI
  cases j with
  | zero => cases h
  | succ j => exact F129_p2_bok (fun x0 x1 => hI j (x0, x1) (Nat.lt_succ_self j)) h
set_option maxRecDepth 100000 in
set_option maxHeartbeats 4000000 in
theorem F129_p1_ok {cx : Cx} {f : Nat} {a0 : List Int} {x5_1 : Int} {y : Int × Int × Bool} (h : F129_p1 f a0 x5_1 = some y) :
    WM Tryz.prog G0 58 0 Tryz.f129.results.toList (v_F129 a0 y) (x_F129 a0 y) cx (nav [.r, .r, .r, .t, .r, .n] [.code (bodyOf Tryz.f129)]) [(0, ⟨none, .ro Int 1 (fun n => [.i .i64 n]) 0 a0⟩), (5, ⟨none, .i .i64 x5_1⟩)] [] := by
  unfold F129_p1 at h
  obtain ⟨h9, h⟩ := of_chk h
  obtain ⟨h10, h⟩ := of_chk h
  exact WM.cut mixed [R_ [o_], R_ [o_, o_, o_, o_, o_]] [] (pc ((by decide : (0 : Int) ≤ 1)) <| pc h9 <| pc h10 <| allP_nil) (F129_p2_ok h) (by kernel_rfl)
set_option maxRecDepth 100000 in
set_option maxHeartbeats 4000000 in
theorem F129_ok {f : Nat} {a0 : List Int} {y : Int × Int × Bool} (h : F129 f a0 = some y) :
    Spec Tryz.prog G0 129 [.ro Int 1 (fun n => [.i .i64 n]) 0 a0] [] (v_F129 a0 y) (x_F129 a0 y) :=
  Spec.ofM (fn := Tryz.f129) (c := bodyOf Tryz.f129) (n := 58) (rs := Tryz.f129.results.toList) Tryz.func129 (by kernel_rfl) (by kernel_rfl) (by kernel_rfl) (by kernel_rfl) fun cx => by
  unfold F129 at h
  obtain ⟨h1, h⟩ := of_chk h
  obtain ⟨h2, h⟩ := of_chk h
  obtain ⟨h3, h⟩ := of_chk h
  rcases of_ifb h with ⟨h4, h⟩ | ⟨h4, h⟩
  · exact WM.cut mixed [R_ [o_, o_, o_], R_ [o_], R_ [o_, o_, o_, o_, o_, o_, o_, o_, o_, o_], T_, R_ [o_]] [] (pc ((fun h => h : (decide (((a0.length : Nat) : Int) ≥ 2) = true → decide (((a0.length : Nat) : Int) ≥ 2) = true))) <| pc h1 <| pc h2 <| pc ((fun h => h : (decide (((a0.length : Nat) : Int) ≥ 2) = true → decide (((a0.length : Nat) : Int) ≥ 2) = true))) <| pc h3 <| pc ((fun h => h : (decide (((a0.length : Nat) : Int) ≥ 2) = true → decide (((a0.length : Nat) : Int) ≥ 2) = true))) <| pc ((fun k2 => k2 : (decide (((a0.length : Nat) : Int) ≥ 2) = true → decide (((a0.length : Nat) : Int) ≥ 2) = true))) <| pc ((h4 : (decide (((a0.length : Nat) : Int) ≥ 2) && decide ((a0.getD 0 0) = 5)) = true)) <| allP_nil) (F129_p1_ok h) (by kernel_rfl)
  · obtain ⟨h5, h⟩ := of_chk h
    obtain ⟨h6, h⟩ := of_chk h
    obtain ⟨h7, h⟩ := of_chk h
    rcases of_ifb h with ⟨h8, h⟩ | ⟨h8, h⟩
    · exact WM.cut mixed [R_ [o_, o_, o_], R_ [o_], R_ [o_, o_, o_, o_, o_, o_, o_, o_, o_, o_], F_, R_ [o_, o_, o_, o_, o_, o_, o_, o_, o_, o_], T_, R_ [o_]] [] (pc ((fun h => h : (decide (((a0.length : Nat) : Int) ≥ 2) = true → decide (((a0.length : Nat) : Int) ≥ 2) = true))) <| pc h1 <| pc h2 <| pc ((fun h => h : (decide (((a0.length : Nat) : Int) ≥ 2) = true → decide (((a0.length : Nat) : Int) ≥ 2) = true))) <| pc h3 <| pc ((fun h => h : (decide (((a0.length : Nat) : Int) ≥ 2) = true → decide (((a0.length : Nat) : Int) ≥ 2) = true))) <| pc ((fun k2 => k2 : (decide (((a0.length : Nat) : Int) ≥ 2) = true → decide (((a0.length : Nat) : Int) ≥ 2) = true))) <| pc ((h4 : (decide (((a0.length : Nat) : Int) ≥ 2) && decide ((a0.getD 0 0) = 5)) = false)) <| pc ((fun h => h : (decide (((a0.length : Nat) : Int) ≥ 4) = true → decide (((a0.length : Nat) : Int) ≥ 4) = true))) <| pc h5 <| pc h6 <| pc ((fun h => h : (decide (((a0.length : Nat) : Int) ≥ 4) = true → decide (((a0.length : Nat) : Int) ≥ 4) = true))) <| pc h7 <| pc ((fun h => h : (decide (((a0.length : Nat) : Int) ≥ 4) = true → decide (((a0.length : Nat) : Int) ≥ 4) = true))) <| pc ((fun k2 => k2 : (decide (((a0.length : Nat) : Int) ≥ 4) = true → decide (((a0.length : Nat) : Int) ≥ 4) = true))) <| pc ((h8 : (decide (((a0.length : Nat) : Int) ≥ 4) && decide ((a0.getD 0 0) = 2)) = true)) <| allP_nil) (F129_p1_ok h) (by kernel_rfl)
    · replace h := Option.some.inj h
      subst h
      exact WM.retE mixed (e_F129 a0 ((0, 0, false))) [R_ [o_, o_, o_], R_ [o_], R_ [o_, o_, o_, o_, o_, o_, o_, o_, o_, o_], F_, R_ [o_, o_, o_, o_, o_, o_, o_, o_, o_, o_], F_, R_ [o_, o_, o_]] [] (pc ((fun h => h : (decide (((a0.length : Nat) : Int) ≥ 2) = true → decide (((a0.length : Nat) : Int) ≥ 2) = true))) <| pc h1 <| pc h2 <| pc ((fun h => h : (decide (((a0.length : Nat) : Int) ≥ 2) = true → decide (((a0.length : Nat) : Int) ≥ 2) = true))) <| pc h3 <| pc ((fun h => h : (decide (((a0.length : Nat) : Int) ≥ 2) = true → decide (((a0.length : Nat) : Int) ≥ 2) = true))) <| pc ((fun k2 => k2 : (decide (((a0.length : Nat) : Int) ≥ 2) = true → decide (((a0.length : Nat) : Int) ≥ 2) = true))) <| pc ((h4 : (decide (((a0.length : Nat) : Int) ≥ 2) && decide ((a0.getD 0 0) = 5)) = false)) <| pc ((fun h => h : (decide (((a0.length : Nat) : Int) ≥ 4) = true → decide (((a0.length : Nat) : Int) ≥ 4) = true))) <| pc h5 <| pc h6 <| pc ((fun h => h : (decide (((a0.length : Nat) : Int) ≥ 4) = true → decide (((a0.length : Nat) : Int) ≥ 4) = true))) <| pc h7 <| pc ((fun h => h : (decide (((a0.length : Nat) : Int) ≥ 4) = true → decide (((a0.length : Nat) : Int) ≥ 4) = true))) <| pc ((fun k2 => k2 : (decide (((a0.length : Nat) : Int) ≥ 4) = true → decide (((a0.length : Nat) : Int) ≥ 4) = true))) <| pc ((h8 : (decide (((a0.length : Nat) : Int) ≥ 4) && decide ((a0.getD 0 0) = 2)) = false)) <| allP_nil) (by kernel_rfl) (by kernel_rfl)

/-! ### F118: function 118 tickertape/sgr.Apply -/
def F118_p1_b (f : Nat) (g1 : (List Int) → cell_Attr → Option (cell_Attr)) (x1_1 : List Int) (x2_1 : cell_Attr) : Option (cell_Attr) :=
  ifb (decide (((x1_1.length : Nat) : Int) > 0)) (
    chk (0 < ((x1_1.length : Nat) : Int)) <|
    chk (0 < x1_1.length) <|
    chk (1 ≤ ((x1_1.length : Nat) : Int)) <|
    ifb (((!(decide ((x1_1.getD 0 0) = 38))) && (!(decide ((x1_1.getD 0 0) = 48))))) (
      bnd (F128 f x2_1 (x1_1.getD 0 0)) fun r1 =>
      g1 ((x1_1.take x1_1.length).drop 1) r1) (
      bnd (F129 f ((x1_1.take x1_1.length).drop 1)) fun r2 =>
      ifb (decide (r2.2.1 = 0)) (
        some (x2_1)) (
        chk (0 ≤ r2.2.1) <|
        chk (r2.2.1 ≤ (((((x1_1.take x1_1.length).drop 1)).length : Nat) : Int)) <|
        ifb ((r2.2.2 && decide ((x1_1.getD 0 0) = 38))) (
          g1 ((((x1_1.take x1_1.length).drop 1).take ((((x1_1.take x1_1.length).drop 1)).length)).drop r2.2.1.toNat) ({ x2_1 with Fg := r2.1 } : cell_Attr)) (
          ifb (r2.2.2) (
            g1 ((((x1_1.take x1_1.length).drop 1).take ((((x1_1.take x1_1.length).drop 1)).length)).drop r2.2.1.toNat) ({ x2_1 with Bg := r2.1 } : cell_Attr)) (
            g1 ((((x1_1.take x1_1.length).drop 1).take ((((x1_1.take x1_1.length).drop 1)).length)).drop r2.2.1.toNat) x2_1))))) (
    some (x2_1))
def F118_p1 (f : Nat) : Nat → (List Int) → cell_Attr → Option (cell_Attr)
  | 0, _, _ => none
  | j + 1, x1_1, x2_1 => F118_p1_b f (F118_p1 f j) x1_1 x2_1
def F118 (f : Nat) (a0 : cell_Attr) (a1 : List Int) : Option (cell_Attr) :=
  ifb (decide (((a1.length : Nat) : Int) = 0)) (
    some ((cell_Attr.mk 0 0 0))) (
    F118_p1 f f a1 a0)
def v_F118 (a0 : cell_Attr) (a1 : List Int) (y : cell_Attr) : V :=
  .agg [.i .i64 y.Flags, .i .i64 y.Fg, .i .i64 y.Bg]
def e_F118 (a0 : cell_Attr) (a1 : List Int) (y : cell_Attr) : Env :=
  [(4, ⟨none, .p 0 0 0⟩)]
def x_F118 (a0 : cell_Attr) (a1 : List Int) (y : cell_Attr) : List (Option Blk) :=
  [some (svB 3 [.i .i64 y.Flags, .i .i64 y.Fg, .i .i64 y.Bg])]
set_option maxRecDepth 100000 in
set_option maxHeartbeats 4000000 in
theorem F118_p1_bok {cx : Cx} {f : Nat} {I1 : Act → World → Prop} {g1 : (List Int) → cell_Attr → Option (cell_Attr)} {a0 : cell_Attr} {a1 : List Int} {x1_1 : List Int} {x2_1 : cell_Attr} {y : cell_Attr} (hg1 : ∀ (x1_1 : List Int) (x2_1 : cell_Attr), g1 x1_1 x2_1 = some y → ∀ a w, cx.In G0 54 0 [(1, ⟨none, .ro Int 1 (fun n => [.i .i64 n]) 0 x1_1⟩), (2, ⟨none, .p 0 0 0⟩), (4, ⟨none, .p 1 0 0⟩)] [some (svB 3 [.i .i64 x2_1.Flags, .i .i64 x2_1.Fg, .i .i64 x2_1.Bg]), some (svB 3 [.i .i64 ((cell_Attr.mk 0 0 0).Flags), .i .i64 ((cell_Attr.mk 0 0 0).Fg), .i .i64 ((cell_Attr.mk 0 0 0).Bg)])] a w → I1 a w) (h : F118_p1_b f g1 x1_1 x2_1 = some y) :
    WM Tryz.prog G0 54 0 Tryz.f118.results.toList (v_F118 a0 a1 y) (x_F118 a0 a1 y) cx (nav [.r, .r, .f, .l I1] [.code (bodyOf Tryz.f118)]) [(1, ⟨none, .ro Int 1 (fun n => [.i .i64 n]) 0 x1_1⟩), (2, ⟨none, .p 0 0 0⟩), (4, ⟨none, .p 1 0 0⟩)] [some (svB 3 [.i .i64 x2_1.Flags, .i .i64 x2_1.Fg, .i .i64 x2_1.Bg]), some (svB 3 [.i .i64 ((cell_Attr.mk 0 0 0).Flags), .i .i64 ((cell_Attr.mk 0 0 0).Fg), .i .i64 ((cell_Attr.mk 0 0 0).Bg)])] := by
  unfold F118_p1_b at h
  rcases of_ifb h with ⟨h2, h⟩ | ⟨h2, h⟩
  · obtain ⟨h3, h⟩ := of_chk h
    obtain ⟨h4, h⟩ := of_chk h
    obtain ⟨h5, h⟩ := of_chk h
    rcases of_ifb h with ⟨h6, h⟩ | ⟨h6, h⟩
    · obtain ⟨r1, h7, h⟩ := of_bnd h
      exact WM.cut mixed [R_ [o_, o_, o_], T_, R_ [o_, o_, o_, o_], R_ [o_, o_, o_], R_ [o_, o_, o_, o_, o_, o_], T_, R_ [o_, o_, c_ (mkCall Tryz.call128 (F128_ok h7) [2] (by kernel_rfl) (by kernel_rfl)), o_]] [some 0, some 1] (pc ((h2 : decide (((x1_1.length : Nat) : Int) > 0) = true)) <| pc ((by decide : (0 : Int) ≤ 0)) <| pc h3 <| pc h4 <| pc ((by decide : (0 : Int) ≤ 1)) <| pc h5 <| pc ((fun h => h : ((!(decide ((x1_1.getD 0 0) = 38))) = true → (!(decide ((x1_1.getD 0 0) = 38))) = true))) <| pc ((fun k2 => k2 : ((!(decide ((x1_1.getD 0 0) = 38))) = true → (!(decide ((x1_1.getD 0 0) = 38))) = true))) <| pc ((h6 : ((!(decide ((x1_1.getD 0 0) = 38))) && (!(decide ((x1_1.getD 0 0) = 48)))) = true)) <| pc zlt1 <| pc zlt1 <| allP_nil) (WM.again (k := (nav [.r, .r, .f, .n] [.code (bodyOf Tryz.f118)]).tail) (hg1 _ _ h)) (by kernel_rfl)
    · obtain ⟨r2, h8, h⟩ := of_bnd h
      rcases of_ifb h with ⟨h9, h⟩ | ⟨h9, h⟩
      · replace h := Option.some.inj h
        subst h
        exact WM.retE mixed (e_F118 a0 a1 (x2_1)) [R_ [o_, o_, o_], T_, R_ [o_, o_, o_, o_], R_ [o_, o_, o_], R_ [o_, o_, o_, o_, o_, o_], F_, R_ [o_, c_ (mkCall Tryz.call129 (F129_ok h8) [] (by kernel_rfl) (by kernel_rfl)), o_, o_, o_, o_, o_, o_, o_], R_ [o_, o_], T_, R_ [o_, o_]] [some 1] (pc ((h2 : decide (((x1_1.length : Nat) : Int) > 0) = true)) <| pc ((by decide : (0 : Int) ≤ 0)) <| pc h3 <| pc h4 <| pc ((by decide : (0 : Int) ≤ 1)) <| pc h5 <| pc ((fun h => h : ((!(decide ((x1_1.getD 0 0) = 38))) = true → (!(decide ((x1_1.getD 0 0) = 38))) = true))) <| pc ((fun k2 => k2 : ((!(decide ((x1_1.getD 0 0) = 38))) = true → (!(decide ((x1_1.getD 0 0) = 38))) = true))) <| pc ((h6 : ((!(decide ((x1_1.getD 0 0) = 38))) && (!(decide ((x1_1.getD 0 0) = 48)))) = false)) <| pc ((h9 : decide (r2.2.1 = 0) = true)) <| pc zlt1 <| pc zlt1 <| allP_nil) (by kernel_rfl) (by kernel_rfl)
      · obtain ⟨h10, h⟩ := of_chk h
        obtain ⟨h11, h⟩ := of_chk h
        rcases of_ifb h with ⟨h12, h⟩ | ⟨h12, h⟩
        · exact WM.cut mixed [R_ [o_, o_, o_], T_, R_ [o_, o_, o_, o_], R_ [o_, o_, o_], R_ [o_, o_, o_, o_, o_, o_], F_, R_ [o_, c_ (mkCall Tryz.call129 (F129_ok h8) [] (by kernel_rfl) (by kernel_rfl)), o_, o_, o_, o_, o_, o_, o_], R_ [o_, o_], F_, R_ [o_, o_, o_, o_], R_ [o_, o_, o_, o_, o_, o_], T_, R_ [o_, o_, o_]] [some 0, some 1] (pc ((h2 : decide (((x1_1.length : Nat) : Int) > 0) = true)) <| pc ((by decide : (0 : Int) ≤ 0)) <| pc h3 <| pc h4 <| pc ((by decide : (0 : Int) ≤ 1)) <| pc h5 <| pc ((fun h => h : ((!(decide ((x1_1.getD 0 0) = 38))) = true → (!(decide ((x1_1.getD 0 0) = 38))) = true))) <| pc ((fun k2 => k2 : ((!(decide ((x1_1.getD 0 0) = 38))) = true → (!(decide ((x1_1.getD 0 0) = 38))) = true))) <| pc ((h6 : ((!(decide ((x1_1.getD 0 0) = 38))) && (!(decide ((x1_1.getD 0 0) = 48)))) = false)) <| pc ((h9 : decide (r2.2.1 = 0) = false)) <| pc h10 <| pc h11 <| pc ((fun h => h : (r2.2.2 = true → r2.2.2 = true))) <| pc ((fun k2 => k2 : (r2.2.2 = true → r2.2.2 = true))) <| pc ((h12 : (r2.2.2 && decide ((x1_1.getD 0 0) = 38)) = true)) <| pc zlt1 <| allP_nil) (WM.again (k := (nav [.r, .r, .f, .n] [.code (bodyOf Tryz.f118)]).tail) (hg1 _ _ h)) (by kernel_rfl)
        · rcases of_ifb h with ⟨h13, h⟩ | ⟨h13, h⟩
          · exact WM.cut mixed [R_ [o_, o_, o_], T_, R_ [o_, o_, o_, o_], R_ [o_, o_, o_], R_ [o_, o_, o_, o_, o_, o_], F_, R_ [o_, c_ (mkCall Tryz.call129 (F129_ok h8) [] (by kernel_rfl) (by kernel_rfl)), o_, o_, o_, o_, o_, o_, o_], R_ [o_, o_], F_, R_ [o_, o_, o_, o_], R_ [o_, o_, o_, o_, o_, o_], F_, R_ [o_, o_], T_, R_ [o_, o_, o_]] [some 0, some 1] (pc ((h2 : decide (((x1_1.length : Nat) : Int) > 0) = true)) <| pc ((by decide : (0 : Int) ≤ 0)) <| pc h3 <| pc h4 <| pc ((by decide : (0 : Int) ≤ 1)) <| pc h5 <| pc ((fun h => h : ((!(decide ((x1_1.getD 0 0) = 38))) = true → (!(decide ((x1_1.getD 0 0) = 38))) = true))) <| pc ((fun k2 => k2 : ((!(decide ((x1_1.getD 0 0) = 38))) = true → (!(decide ((x1_1.getD 0 0) = 38))) = true))) <| pc ((h6 : ((!(decide ((x1_1.getD 0 0) = 38))) && (!(decide ((x1_1.getD 0 0) = 48)))) = false)) <| pc ((h9 : decide (r2.2.1 = 0) = false)) <| pc h10 <| pc h11 <| pc ((fun h => h : (r2.2.2 = true → r2.2.2 = true))) <| pc ((fun k2 => k2 : (r2.2.2 = true → r2.2.2 = true))) <| pc ((h12 : (r2.2.2 && decide ((x1_1.getD 0 0) = 38)) = false)) <| pc ((h13 : r2.2.2 = true)) <| pc zlt1 <| allP_nil) (WM.again (k := (nav [.r, .r, .f, .n] [.code (bodyOf Tryz.f118)]).tail) (hg1 _ _ h)) (by kernel_rfl)
          · exact WM.cut mixed [R_ [o_, o_, o_], T_, R_ [o_, o_, o_, o_], R_ [o_, o_, o_], R_ [o_, o_, o_, o_, o_, o_], F_, R_ [o_, c_ (mkCall Tryz.call129 (F129_ok h8) [] (by kernel_rfl) (by kernel_rfl)), o_, o_, o_, o_, o_, o_, o_], R_ [o_, o_], F_, R_ [o_, o_, o_, o_], R_ [o_, o_, o_, o_, o_, o_], F_, R_ [o_, o_], F_] [some 0, some 1] (pc ((h2 : decide (((x1_1.length : Nat) : Int) > 0) = true)) <| pc ((by decide : (0 : Int) ≤ 0)) <| pc h3 <| pc h4 <| pc ((by decide : (0 : Int) ≤ 1)) <| pc h5 <| pc ((fun h => h : ((!(decide ((x1_1.getD 0 0) = 38))) = true → (!(decide ((x1_1.getD 0 0) = 38))) = true))) <| pc ((fun k2 => k2 : ((!(decide ((x1_1.getD 0 0) = 38))) = true → (!(decide ((x1_1.getD 0 0) = 38))) = true))) <| pc ((h6 : ((!(decide ((x1_1.getD 0 0) = 38))) && (!(decide ((x1_1.getD 0 0) = 48)))) = false)) <| pc ((h9 : decide (r2.2.1 = 0) = false)) <| pc h10 <| pc h11 <| pc ((fun h => h : (r2.2.2 = true → r2.2.2 = true))) <| pc ((fun k2 => k2 : (r2.2.2 = true → r2.2.2 = true))) <| pc ((h12 : (r2.2.2 && decide ((x1_1.getD 0 0) = 38)) = false)) <| pc ((h13 : r2.2.2 = false)) <| allP_nil) (WM.again (k := (nav [.r, .r, .f, .n] [.code (bodyOf Tryz.f118)]).tail) (hg1 _ _ h)) (by kernel_rfl)
  · replace h := Option.some.inj h
    subst h
    exact WM.retE mixed (e_F118 a0 a1 (x2_1)) [R_ [o_, o_, o_], F_, R_ [o_, o_]] [some 1] (pc ((h2 : decide (((x1_1.length : Nat) : Int) > 0) = false)) <| pc zlt1 <| pc zlt1 <| allP_nil) (by kernel_rfl) (by kernel_rfl)
set_option maxRecDepth 100000 in
set_option maxHeartbeats 4000000 in
theorem F118_p1_ok {cx : Cx} {f : Nat} {a0 : cell_Attr} {a1 : List Int} {x1_1 : List Int} {x2_1 : cell_Attr} {j : Nat} {y : cell_Attr} (h : F118_p1 f j x1_1 x2_1 = some y) :
    WM Tryz.prog G0 54 0 Tryz.f118.results.toList (v_F118 a0 a1 y) (x_F118 a0 a1 y) cx (nav [.r, .r, .f, .n] [.code (bodyOf Tryz.f118)]) [(1, ⟨none, .ro Int 1 (fun n => [.i .i64 n]) 0 x1_1⟩), (2, ⟨none, .p 0 0 0⟩), (4, ⟨none, .p 1 0 0⟩)] [some (svB 3 [.i .i64 x2_1.Flags, .i .i64 x2_1.Fg, .i .i64 x2_1.Bg]), some (svB 3 [.i .i64 ((cell_Attr.mk 0 0 0).Flags), .i .i64 ((cell_Attr.mk 0 0 0).Fg), .i .i64 ((cell_Attr.mk 0 0 0).Bg)])] := by
  refine WM.loopN (X := List Int × cell_Attr) (y := y) (kb := fun I1 => (nav [.r, .r, .f, .l I1] [.code (bodyOf Tryz.f118)])) (by intro I; kernel_rfl) (fun j x => F118_p1 f j x.1 x.2) (fun x => [(1, ⟨none, .ro Int 1 (fun n => [.i .i64 n]) 0 x.1⟩), (2, ⟨none, .p 0 0 0⟩), (4, ⟨none, .p 1 0 0⟩)]) (fun x => [some (svB 3 [.i .i64 x.2.Flags, .i .i64 x.2.Fg, .i .i64 x.2.Bg]), some (svB 3 [.i .i64 ((cell_Attr.mk 0 0 0).Flags), .i .i64 ((cell_Attr.mk 0 0 0).Fg), .i .i64 ((cell_Attr.mk 0 0 0).Bg)])]) ?_ (j := j) (x := (x1_1, x2_1)) h
  intro j x I1 h hI
  cases j with
  | zero => cases h
  | succ j => exact F118_p1_bok (fun x0 x1 => hI j (x0, x1) (Nat.lt_succ_self j)) h
set_option maxRecDepth 100000 in
set_option maxHeartbeats 4000000 in
theorem F118_ok {f : Nat} {a0 : cell_Attr} {a1 : List Int} {y : cell_Attr} (h : F118 f a0 a1 = some y) :
    Spec Tryz.prog G0 118 [.agg [.i .i64 a0.Flags, .i .i64 a0.Fg, .i .i64 a0.Bg], .ro Int 1 (fun n => [.i .i64 n]) 0 a1] [] (v_F118 a0 a1 y) (x_F118 a0 a1 y) :=
  Spec.ofM (fn := Tryz.f118) (c := bodyOf Tryz.f118) (n := 54) (rs := Tryz.f118.results.toList) Tryz.func118 (by kernel_rfl) (by kernel_rfl) (by kernel_rfl) (by kernel_rfl) fun cx => by
  unfold F118 at h
  rcases of_ifb h with ⟨h1, h⟩ | ⟨h1, h⟩
  · replace h := Option.some.inj h
    subst h
    exact WM.retE mixed (e_F118 a0 a1 ((cell_Attr.mk 0 0 0))) [R_ [.op (.fresh 0 (svB 3 [.i .i64 a0.Flags, .i .i64 a0.Fg, .i .i64 a0.Bg])), .op (.fresh 1 (svB 3 [.i .i64 0, .i .i64 0, .i .i64 0]))], R_ [o_, o_, o_], T_, R_ [o_, o_]] [some 1] (pc ((h1 : decide (((a1.length : Nat) : Int) = 0) = true)) <| pc zlt1 <| allP_nil) (by kernel_rfl) (by kernel_rfl)
  · exact WM.cut mixed [R_ [.op (.fresh 0 (svB 3 [.i .i64 a0.Flags, .i .i64 a0.Fg, .i .i64 a0.Bg])), .op (.fresh 1 (svB 3 [.i .i64 0, .i .i64 0, .i .i64 0]))], R_ [o_, o_, o_], F_] [some 0, some 1] (pc ((h1 : decide (((a1.length : Nat) : Int) = 0) = false)) <| allP_nil) (F118_p1_ok h) (by kernel_rfl)

/-! ### F119: function 119 (*tickertape/term.Term).region -/
def F119 (f : Nat) (a0 : term_TermO_2) (a1 : esc_Event) : Option (term_TermO_2) :=
  bnd (F84 f a1 0 1) fun r1 =>
  chk (inR (r1 - 1)) <|
  bnd (F84 f a1 1 a0.rows) fun r2 =>
  chk (inR ((imin r2 a0.rows) - 1)) <|
  ifb (decide ((r1 - 1) < ((imin r2 a0.rows) - 1))) (
    bnd (F79 f ({ a0 with top := (r1 - 1), bottom := ((imin r2 a0.rows) - 1) } : term_TermO_2) 0 0) fun r3 =>
    some (r3)) (
    some (a0))
def v_F119 (a0 : term_TermO_2) (a1 : esc_Event) (y : term_TermO_2) : V :=
  .tup []
def e_F119 (a0 : term_TermO_2) (a1 : esc_Event) (y : term_TermO_2) : Env :=
  []
def x_F119 (a0 : term_TermO_2) (a1 : esc_Event) (y : term_TermO_2) : List (Option Blk) :=
  [some (B_term_TermO_2 1 3 5 7 9 13 y), some (B_grid_GridO 2 y.grids_0), some (blk_cell_Cell y.grids_0.l), some (B_grid_GridO 4 y.grids_1), some (blk_cell_Cell y.grids_1.l), some (B_tabs_StopsO_1 6 y.stops), some (boolB y.stops.at_), some (B_utf_DecoderO 8 y.signs), some (intB .u8 y.signs.b), some (B_esc_ParserO 10 11 12 y.asks), some (intB .i64 y.asks.params), some (intB .i32 y.asks.text), some (blk_esc_Event y.asks.out), some (intB .u8 y.reply)]
set_option maxRecDepth 100000 in
set_option maxHeartbeats 4000000 in
theorem F119_ok {f : Nat} {a0 : term_TermO_2} {a1 : esc_Event} {y : term_TermO_2} (h : F119 f a0 a1 = some y) :
    Spec Tryz.prog G0 119 [.p 0 0 0, .agg [.i .i64 a1.Kind, .i .i32 a1.Rune, .ro Int 1 (fun n => [.i .i64 n]) 0 a1.Params, .i .i32 a1.Private, .i .i32 a1.Inter, .i .i32 a1.Final, .s a1.Text]] [some (B_term_TermO_2 1 3 5 7 9 13 a0), some (B_grid_GridO 2 a0.grids_0), some (blk_cell_Cell a0.grids_0.l), some (B_grid_GridO 4 a0.grids_1), some (blk_cell_Cell a0.grids_1.l), some (B_tabs_StopsO_1 6 a0.stops), some (boolB a0.stops.at_), some (B_utf_DecoderO 8 a0.signs), some (intB .u8 a0.signs.b), some (B_esc_ParserO 10 11 12 a0.asks), some (intB .i64 a0.asks.params), some (intB .i32 a0.asks.text), some (blk_esc_Event a0.asks.out), some (intB .u8 a0.reply)] (v_F119 a0 a1 y) (x_F119 a0 a1 y) :=
  Spec.ofM (fn := Tryz.f119) (c := bodyOf Tryz.f119) (n := 36) (rs := Tryz.f119.results.toList) Tryz.func119 (by kernel_rfl) (by kernel_rfl) (by kernel_rfl) (by kernel_rfl) fun cx => by
  unfold F119 at h
  obtain ⟨r1, h1, h⟩ := of_bnd h
  obtain ⟨h2, h⟩ := of_chk h
  obtain ⟨r2, h3, h⟩ := of_bnd h
  obtain ⟨h4, h⟩ := of_chk h
  rcases of_ifb h with ⟨h5, h⟩ | ⟨h5, h⟩
  · obtain ⟨r3, h6, h⟩ := of_bnd h
    replace h := Option.some.inj h
    subst h
    exact WM.retE mixed (e_F119 a0 a1 (r3)) [R_ [.op (.fresh 14 ((⟨esc_Event, 7, enc_esc_Event, (fun _ => a1), zero_esc_Event, [a1]⟩ : Blk)))], R_ [o_, c_ (mkCall Tryz.call84 (F84_ok h1) [] (by kernel_rfl) (by kernel_rfl)), o_, o_, o_, o_, o_, o_, c_ (mkCall Tryz.call84 (F84_ok h3) [] (by kernel_rfl) (by kernel_rfl)), o_, o_, o_, o_, o_, o_, o_, o_], R_ [o_, o_, o_], T_, R_ [o_, o_, o_, o_, o_, o_, o_, o_, o_, o_, o_, o_], R_ [o_, c_ (mkCall Tryz.call79 (F79_ok h6) [0, 1, 2, 3, 4, 5, 6, 7, 8, 9, 10, 11, 12, 13] (by kernel_rfl) (by kernel_rfl))]] [some 0, some 1, some 2, some 3, some 4, some 5, some 6, some 7, some 8, some 9, some 10, some 11, some 12, some 13] (pc zlt1 <| pc h2 <| pc zlt1 <| pc zlt1 <| pc zlt1 <| pc h4 <| pc ((h5 : decide ((r1 - 1) < ((imin r2 a0.rows) - 1)) = true)) <| pc zlt1 <| pc zlt1 <| allP_nil) (by kernel_rfl) (by kernel_rfl)
  · replace h := Option.some.inj h
    subst h
    exact WM.retE mixed (e_F119 a0 a1 (a0)) [R_ [.op (.fresh 14 ((⟨esc_Event, 7, enc_esc_Event, (fun _ => a1), zero_esc_Event, [a1]⟩ : Blk)))], R_ [o_, c_ (mkCall Tryz.call84 (F84_ok h1) [] (by kernel_rfl) (by kernel_rfl)), o_, o_, o_, o_, o_, o_, c_ (mkCall Tryz.call84 (F84_ok h3) [] (by kernel_rfl) (by kernel_rfl)), o_, o_, o_, o_, o_, o_, o_, o_], R_ [o_, o_, o_], F_] [some 0, some 1, some 2, some 3, some 4, some 5, some 6, some 7, some 8, some 9, some 10, some 11, some 12, some 13] (pc zlt1 <| pc h2 <| pc zlt1 <| pc zlt1 <| pc zlt1 <| pc h4 <| pc ((h5 : decide ((r1 - 1) < ((imin r2 a0.rows) - 1)) = false)) <| allP_nil) (by kernel_rfl) (by kernel_rfl)

/-! ### F121: function 121 (*tickertape/term.Term).replies -/
def F121 (f : Nat) (a0 : term_TermO_2) (a1 : List Int) : Option (term_TermO_2) :=
  chk (((2 + a1.length : Nat) : Int) ≤ i64max) <|
  chk (a0.reply_n = a0.reply.length) <|
  chk (((((a0.reply_n + (([27, 91] ++ a1)).length)) * 1 : Nat) : Int) ≤ 140737488355328) <|
  some (({ a0 with reply_n := (a0.reply_n + (([27, 91] ++ a1)).length), reply := (a0.reply ++ (([27, 91] ++ a1).map fun y => y)) } : term_TermO_2))
def v_F121 (a0 : term_TermO_2) (a1 : List Int) (y : term_TermO_2) : V :=
  .tup []
def e_F121 (a0 : term_TermO_2) (a1 : List Int) (y : term_TermO_2) : Env :=
  []
def x_F121 (a0 : term_TermO_2) (a1 : List Int) (y : term_TermO_2) : List (Option Blk) :=
  [some (B_term_TermO_2 1 3 5 7 9 14 y), some (B_grid_GridO 2 y.grids_0), some (blk_cell_Cell y.grids_0.l), some (B_grid_GridO 4 y.grids_1), some (blk_cell_Cell y.grids_1.l), some (B_tabs_StopsO_1 6 y.stops), some (boolB y.stops.at_), some (B_utf_DecoderO 8 y.signs), some (intB .u8 y.signs.b), some (B_esc_ParserO 10 11 12 y.asks), some (intB .i64 y.asks.params), some (intB .i32 y.asks.text), some (blk_esc_Event y.asks.out), none, some (intB .u8 y.reply)]
set_option maxRecDepth 100000 in
set_option maxHeartbeats 4000000 in
theorem F121_ok {f : Nat} {a0 : term_TermO_2} {a1 : List Int} {y : term_TermO_2} (h : F121 f a0 a1 = some y) :
    Spec Tryz.prog G0 121 [.p 0 0 0, .s a1] [some (B_term_TermO_2 1 3 5 7 9 13 a0), some (B_grid_GridO 2 a0.grids_0), some (blk_cell_Cell a0.grids_0.l), some (B_grid_GridO 4 a0.grids_1), some (blk_cell_Cell a0.grids_1.l), some (B_tabs_StopsO_1 6 a0.stops), some (boolB a0.stops.at_), some (B_utf_DecoderO 8 a0.signs), some (intB .u8 a0.signs.b), some (B_esc_ParserO 10 11 12 a0.asks), some (intB .i64 a0.asks.params), some (intB .i32 a0.asks.text), some (blk_esc_Event a0.asks.out), some (intB .u8 a0.reply)] (v_F121 a0 a1 y) (x_F121 a0 a1 y) :=
  Spec.ofM (fn := Tryz.f121) (c := bodyOf Tryz.f121) (n := 14) (rs := Tryz.f121.results.toList) Tryz.func121 (by kernel_rfl) (by kernel_rfl) (by kernel_rfl) (by kernel_rfl) fun cx => by
  unfold F121 at h
  obtain ⟨h1, h⟩ := of_chk h
  obtain ⟨h2, h⟩ := of_chk h
  obtain ⟨h3, h⟩ := of_chk h
  replace h := Option.some.inj h
  subst h
  exact WM.retE mixed (e_F121 a0 a1 (({ a0 with reply_n := (a0.reply_n + (([27, 91] ++ a1)).length), reply := (a0.reply ++ (([27, 91] ++ a1).map fun y => y)) } : term_TermO_2))) [R_ [o_, o_, o_, o_, o_, o_, o_, .op (.fresh 14 (intB .u8 [])), o_, o_, o_]] [some 0, some 1, some 2, some 3, some 4, some 5, some 6, some 7, some 8, some 9, some 10, some 11, some 12, some 13, some 14] (pc zlt1 <| pc h1 <| pc h2 <| pc h3 <| pc zlt1 <| allP_nil) (by kernel_rfl) (by kernel_rfl)

/-! ### F143: function 143 internal/strconv.small -/
def F143 (f : Nat) (a0 : Int) : Option (List Int) :=
  ifb (decide (a0 < 10)) (
    chk (inR (a0 + 1)) <|
    chk (0 ≤ a0) <|
    chk (a0 ≤ (a0 + 1)) <|
    chk ((a0 + 1) ≤ 36) <|
    some ((([48, 49, 50, 51, 52, 53, 54, 55, 56, 57, 97, 98, 99, 100, 101, 102, 103, 104, 105, 106, 107, 108, 109, 110, 111, 112, 113, 114, 115, 116, 117, 118, 119, 120, 121, 122].take (((a0 + 1)).toNat)).drop a0.toNat))) (
    chk (inR ((wr (a0 * 2)) + 2)) <|
    chk (0 ≤ (wr (a0 * 2))) <|
    chk ((wr (a0 * 2)) ≤ ((wr (a0 * 2)) + 2)) <|
    chk (((wr (a0 * 2)) + 2) ≤ 200) <|
    some ((([48, 48, 48, 49, 48, 50, 48, 51, 48, 52, 48, 53, 48, 54, 48, 55, 48, 56, 48, 57, 49, 48, 49, 49, 49, 50, 49, 51, 49, 52, 49, 53, 49, 54, 49, 55, 49, 56, 49, 57, 50, 48, 50, 49, 50, 50, 50, 51, 50, 52, 50, 53, 50, 54, 50, 55, 50, 56, 50, 57, 51, 48, 51, 49, 51, 50, 51, 51, 51, 52, 51, 53, 51, 54, 51, 55, 51, 56, 51, 57, 52, 48, 52, 49, 52, 50, 52, 51, 52, 52, 52, 53, 52, 54, 52, 55, 52, 56, 52, 57, 53, 48, 53, 49, 53, 50, 53, 51, 53, 52, 53, 53, 53, 54, 53, 55, 53, 56, 53, 57, 54, 48, 54, 49, 54, 50, 54, 51, 54, 52, 54, 53, 54, 54, 54, 55, 54, 56, 54, 57, 55, 48, 55, 49, 55, 50, 55, 51, 55, 52, 55, 53, 55, 54, 55, 55, 55, 56, 55, 57, 56, 48, 56, 49, 56, 50, 56, 51, 56, 52, 56, 53, 56, 54, 56, 55, 56, 56, 56, 57, 57, 48, 57, 49, 57, 50, 57, 51, 57, 52, 57, 53, 57, 54, 57, 55, 57, 56, 57, 57].take ((((wr (a0 * 2)) + 2)).toNat)).drop (((wr (a0 * 2))).toNat))))
def v_F143 (a0 : Int) (y : List Int) : V :=
  .s y
def e_F143 (a0 : Int) (y : List Int) : Env :=
  [(2, ⟨none, .s y⟩)]
def x_F143 (a0 : Int) (y : List Int) : List (Option Blk) :=
  []
set_option maxRecDepth 100000 in
set_option maxHeartbeats 4000000 in
theorem F143_ok {f : Nat} {a0 : Int} {y : List Int} (h : F143 f a0 = some y) :
    Spec Tryz.prog G0 143 [.i .i64 a0] [] (v_F143 a0 y) (x_F143 a0 y) :=
  Spec.ofM (fn := Tryz.f143) (c := bodyOf Tryz.f143) (n := 15) (rs := Tryz.f143.results.toList) Tryz.func143 (by kernel_rfl) (by kernel_rfl) (by kernel_rfl) (by kernel_rfl) fun cx => by
  unfold F143 at h
  rcases of_ifb h with ⟨h1, h⟩ | ⟨h1, h⟩
  · obtain ⟨h2, h⟩ := of_chk h
    obtain ⟨h3, h⟩ := of_chk h
    obtain ⟨h4, h⟩ := of_chk h
    obtain ⟨h5, h⟩ := of_chk h
    replace h := Option.some.inj h
    subst h
    exact WM.retE mixed (e_F143 a0 ((([48, 49, 50, 51, 52, 53, 54, 55, 56, 57, 97, 98, 99, 100, 101, 102, 103, 104, 105, 106, 107, 108, 109, 110, 111, 112, 113, 114, 115, 116, 117, 118, 119, 120, 121, 122].take (((a0 + 1)).toNat)).drop a0.toNat))) [R_ [o_], R_ [o_, o_], T_, R_ [o_, o_, o_, o_, o_]] [] (pc ((h1 : decide (a0 < 10) = true)) <| pc h2 <| pc h3 <| pc h4 <| pc h5 <| allP_nil) (by kernel_rfl) (by kernel_rfl)
  · obtain ⟨h6, h⟩ := of_chk h
    obtain ⟨h7, h⟩ := of_chk h
    obtain ⟨h8, h⟩ := of_chk h
    obtain ⟨h9, h⟩ := of_chk h
    replace h := Option.some.inj h
    subst h
    exact WM.retE mixed (e_F143 a0 ((([48, 48, 48, 49, 48, 50, 48, 51, 48, 52, 48, 53, 48, 54, 48, 55, 48, 56, 48, 57, 49, 48, 49, 49, 49, 50, 49, 51, 49, 52, 49, 53, 49, 54, 49, 55, 49, 56, 49, 57, 50, 48, 50, 49, 50, 50, 50, 51, 50, 52, 50, 53, 50, 54, 50, 55, 50, 56, 50, 57, 51, 48, 51, 49, 51, 50, 51, 51, 51, 52, 51, 53, 51, 54, 51, 55, 51, 56, 51, 57, 52, 48, 52, 49, 52, 50, 52, 51, 52, 52, 52, 53, 52, 54, 52, 55, 52, 56, 52, 57, 53, 48, 53, 49, 53, 50, 53, 51, 53, 52, 53, 53, 53, 54, 53, 55, 53, 56, 53, 57, 54, 48, 54, 49, 54, 50, 54, 51, 54, 52, 54, 53, 54, 54, 54, 55, 54, 56, 54, 57, 55, 48, 55, 49, 55, 50, 55, 51, 55, 52, 55, 53, 55, 54, 55, 55, 55, 56, 55, 57, 56, 48, 56, 49, 56, 50, 56, 51, 56, 52, 56, 53, 56, 54, 56, 55, 56, 56, 56, 57, 57, 48, 57, 49, 57, 50, 57, 51, 57, 52, 57, 53, 57, 54, 57, 55, 57, 56, 57, 57].take ((((wr (a0 * 2)) + 2)).toNat)).drop (((wr (a0 * 2))).toNat)))) [R_ [o_], R_ [o_, o_], F_, R_ [o_, o_, o_, o_, o_, o_, o_]] [] (pc ((h1 : decide (a0 < 10) = false)) <| pc h6 <| pc h7 <| pc h8 <| pc h9 <| allP_nil) (by kernel_rfl) (by kernel_rfl)

/-! ### F148: function 148 math/bits.Len64 -/
def F148_p3 (f : Nat) (x0_3 : Int) (x2_3 : Int) : Option (Int) :=
  chk (0 ≤ (IntKind.wrap .u8 x0_3)) <|
  chk ((IntKind.wrap .u8 x0_3) < 256) <|
  chk (inR ([0, 1, 2, 2, 3, 3, 3, 3, 4, 4, 4, 4, 4, 4, 4, 4, 5, 5, 5, 5, 5, 5, 5, 5, 5, 5, 5, 5, 5, 5, 5, 5, 6, 6, 6, 6, 6, 6, 6, 6, 6, 6, 6, 6, 6, 6, 6, 6, 6, 6, 6, 6, 6, 6, 6, 6, 6, 6, 6, 6, 6, 6, 6, 6, 7, 7, 7, 7, 7, 7, 7, 7, 7, 7, 7, 7, 7, 7, 7, 7, 7, 7, 7, 7, 7, 7, 7, 7, 7, 7, 7, 7, 7, 7, 7, 7, 7, 7, 7, 7, 7, 7, 7, 7, 7, 7, 7, 7, 7, 7, 7, 7, 7, 7, 7, 7, 7, 7, 7, 7, 7, 7, 7, 7, 7, 7, 7, 7, 8, 8, 8, 8, 8, 8, 8, 8, 8, 8, 8, 8, 8, 8, 8, 8, 8, 8, 8, 8, 8, 8, 8, 8, 8, 8, 8, 8, 8, 8, 8, 8, 8, 8, 8, 8, 8, 8, 8, 8, 8, 8, 8, 8, 8, 8, 8, 8, 8, 8, 8, 8, 8, 8, 8, 8, 8, 8, 8, 8, 8, 8, 8, 8, 8, 8, 8, 8, 8, 8, 8, 8, 8, 8, 8, 8, 8, 8, 8, 8, 8, 8, 8, 8, 8, 8, 8, 8, 8, 8, 8, 8, 8, 8, 8, 8, 8, 8, 8, 8, 8, 8, 8, 8, 8, 8, 8, 8, 8, 8, 8, 8, 8, 8, 8, 8, 8, 8, 8, 8, 8, 8, 8, 8, 8, 8, 8, 8].getD (((IntKind.wrap .u8 x0_3)).toNat) 0)) <|
  chk (inR (x2_3 + ([0, 1, 2, 2, 3, 3, 3, 3, 4, 4, 4, 4, 4, 4, 4, 4, 5, 5, 5, 5, 5, 5, 5, 5, 5, 5, 5, 5, 5, 5, 5, 5, 6, 6, 6, 6, 6, 6, 6, 6, 6, 6, 6, 6, 6, 6, 6, 6, 6, 6, 6, 6, 6, 6, 6, 6, 6, 6, 6, 6, 6, 6, 6, 6, 7, 7, 7, 7, 7, 7, 7, 7, 7, 7, 7, 7, 7, 7, 7, 7, 7, 7, 7, 7, 7, 7, 7, 7, 7, 7, 7, 7, 7, 7, 7, 7, 7, 7, 7, 7, 7, 7, 7, 7, 7, 7, 7, 7, 7, 7, 7, 7, 7, 7, 7, 7, 7, 7, 7, 7, 7, 7, 7, 7, 7, 7, 7, 7, 8, 8, 8, 8, 8, 8, 8, 8, 8, 8, 8, 8, 8, 8, 8, 8, 8, 8, 8, 8, 8, 8, 8, 8, 8, 8, 8, 8, 8, 8, 8, 8, 8, 8, 8, 8, 8, 8, 8, 8, 8, 8, 8, 8, 8, 8, 8, 8, 8, 8, 8, 8, 8, 8, 8, 8, 8, 8, 8, 8, 8, 8, 8, 8, 8, 8, 8, 8, 8, 8, 8, 8, 8, 8, 8, 8, 8, 8, 8, 8, 8, 8, 8, 8, 8, 8, 8, 8, 8, 8, 8, 8, 8, 8, 8, 8, 8, 8, 8, 8, 8, 8, 8, 8, 8, 8, 8, 8, 8, 8, 8, 8, 8, 8, 8, 8, 8, 8, 8, 8, 8, 8, 8, 8, 8, 8, 8, 8].getD (((IntKind.wrap .u8 x0_3)).toNat) 0))) <|
  some ((x2_3 + ([0, 1, 2, 2, 3, 3, 3, 3, 4, 4, 4, 4, 4, 4, 4, 4, 5, 5, 5, 5, 5, 5, 5, 5, 5, 5, 5, 5, 5, 5, 5, 5, 6, 6, 6, 6, 6, 6, 6, 6, 6, 6, 6, 6, 6, 6, 6, 6, 6, 6, 6, 6, 6, 6, 6, 6, 6, 6, 6, 6, 6, 6, 6, 6, 7, 7, 7, 7, 7, 7, 7, 7, 7, 7, 7, 7, 7, 7, 7, 7, 7, 7, 7, 7, 7, 7, 7, 7, 7, 7, 7, 7, 7, 7, 7, 7, 7, 7, 7, 7, 7, 7, 7, 7, 7, 7, 7, 7, 7, 7, 7, 7, 7, 7, 7, 7, 7, 7, 7, 7, 7, 7, 7, 7, 7, 7, 7, 7, 8, 8, 8, 8, 8, 8, 8, 8, 8, 8, 8, 8, 8, 8, 8, 8, 8, 8, 8, 8, 8, 8, 8, 8, 8, 8, 8, 8, 8, 8, 8, 8, 8, 8, 8, 8, 8, 8, 8, 8, 8, 8, 8, 8, 8, 8, 8, 8, 8, 8, 8, 8, 8, 8, 8, 8, 8, 8, 8, 8, 8, 8, 8, 8, 8, 8, 8, 8, 8, 8, 8, 8, 8, 8, 8, 8, 8, 8, 8, 8, 8, 8, 8, 8, 8, 8, 8, 8, 8, 8, 8, 8, 8, 8, 8, 8, 8, 8, 8, 8, 8, 8, 8, 8, 8, 8, 8, 8, 8, 8, 8, 8, 8, 8, 8, 8, 8, 8, 8, 8, 8, 8, 8, 8, 8, 8, 8, 8].getD (((IntKind.wrap .u8 x0_3)).toNat) 0)))
def F148_p2 (f : Nat) (x0_2 : Int) (x2_2 : Int) : Option (Int) :=
  ifb (decide (x0_2 ≥ 256)) (
    chk (IntKind.has .u64 (Int.fdiv x0_2 (2 ^ 8))) <|
    chk (inR (x2_2 + 8)) <|
    F148_p3 f (Int.fdiv x0_2 (2 ^ 8)) (x2_2 + 8)) (
    F148_p3 f x0_2 x2_2)
def F148_p1 (f : Nat) (x0_1 : Int) (x2_1 : Int) : Option (Int) :=
  ifb (decide (x0_1 ≥ 65536)) (
    chk (IntKind.has .u64 (Int.fdiv x0_1 (2 ^ 16))) <|
    chk (inR (x2_1 + 16)) <|
    F148_p2 f (Int.fdiv x0_1 (2 ^ 16)) (x2_1 + 16)) (
    F148_p2 f x0_1 x2_1)
def F148 (f : Nat) (a0 : Int) : Option (Int) :=
  ifb (decide (a0 ≥ 4294967296)) (
    chk (IntKind.has .u64 (Int.fdiv a0 (2 ^ 32))) <|
    F148_p1 f (Int.fdiv a0 (2 ^ 32)) 32) (
    F148_p1 f a0 0)
def v_F148 (a0 : Int) (y : Int) : V :=
  .i .i64 y
def e_F148 (a0 : Int) (y : Int) : Env :=
  [(2, ⟨none, .i .i64 y⟩)]
def x_F148 (a0 : Int) (y : Int) : List (Option Blk) :=
  []
set_option maxRecDepth 100000 in
set_option maxHeartbeats 4000000 in
theorem F148_p3_ok {cx : Cx} {f : Nat} {a0 : Int} {x0_3 : Int} {x2_3 : Int} {y : Int} (h : F148_p3 f x0_3 x2_3 = some y) :
    WM Tryz.prog G0 25 0 Tryz.f148.results.toList (v_F148 a0 y) (x_F148 a0 y) cx (nav [.r, .r, .t, .r, .r, .r, .t, .r, .r, .r, .t, .r, .r, .n] [.code (bodyOf Tryz.f148)]) [(0, ⟨none, .i .u64 x0_3⟩), (2, ⟨none, .i .i64 x2_3⟩)] [] := by
  unfold F148_p3 at h
  obtain ⟨h9, h⟩ := of_chk h
  obtain ⟨h10, h⟩ := of_chk h
  obtain ⟨h11, h⟩ := of_chk h
  obtain ⟨h12, h⟩ := of_chk h
  replace h := Option.some.inj h
  subst h
  exact WM.retE mixed (e_F148 a0 ((x2_3 + ([0, 1, 2, 2, 3, 3, 3, 3, 4, 4, 4, 4, 4, 4, 4, 4, 5, 5, 5, 5, 5, 5, 5, 5, 5, 5, 5, 5, 5, 5, 5, 5, 6, 6, 6, 6, 6, 6, 6, 6, 6, 6, 6, 6, 6, 6, 6, 6, 6, 6, 6, 6, 6, 6, 6, 6, 6, 6, 6, 6, 6, 6, 6, 6, 7, 7, 7, 7, 7, 7, 7, 7, 7, 7, 7, 7, 7, 7, 7, 7, 7, 7, 7, 7, 7, 7, 7, 7, 7, 7, 7, 7, 7, 7, 7, 7, 7, 7, 7, 7, 7, 7, 7, 7, 7, 7, 7, 7, 7, 7, 7, 7, 7, 7, 7, 7, 7, 7, 7, 7, 7, 7, 7, 7, 7, 7, 7, 7, 8, 8, 8, 8, 8, 8, 8, 8, 8, 8, 8, 8, 8, 8, 8, 8, 8, 8, 8, 8, 8, 8, 8, 8, 8, 8, 8, 8, 8, 8, 8, 8, 8, 8, 8, 8, 8, 8, 8, 8, 8, 8, 8, 8, 8, 8, 8, 8, 8, 8, 8, 8, 8, 8, 8, 8, 8, 8, 8, 8, 8, 8, 8, 8, 8, 8, 8, 8, 8, 8, 8, 8, 8, 8, 8, 8, 8, 8, 8, 8, 8, 8, 8, 8, 8, 8, 8, 8, 8, 8, 8, 8, 8, 8, 8, 8, 8, 8, 8, 8, 8, 8, 8, 8, 8, 8, 8, 8, 8, 8, 8, 8, 8, 8, 8, 8, 8, 8, 8, 8, 8, 8, 8, 8, 8, 8, 8, 8].getD (((IntKind.wrap .u8 x0_3)).toNat) 0)))) [R_ [o_, o_, o_, o_, o_, o_, o_]] [] (pc h9 <| pc h10 <| pc h11 <| pc h12 <| allP_nil) (by kernel_rfl) (by kernel_rfl)
set_option maxRecDepth 100000 in
set_option maxHeartbeats 4000000 in
theorem F148_p2_ok {cx : Cx} {f : Nat} {a0 : Int} {x0_2 : Int} {x2_2 : Int} {y : Int} (h : F148_p2 f x0_2 x2_2 = some y) :
    WM Tryz.prog G0 25 0 Tryz.f148.results.toList (v_F148 a0 y) (x_F148 a0 y) cx (nav [.r, .r, .t, .r, .r, .r, .t, .r, .r, .n] [.code (bodyOf Tryz.f148)]) [(0, ⟨none, .i .u64 x0_2⟩), (2, ⟨none, .i .i64 x2_2⟩)] [] := by
  unfold F148_p2 at h
  rcases of_ifb h with ⟨h6, h⟩ | ⟨h6, h⟩
  · obtain ⟨h7, h⟩ := of_chk h
    obtain ⟨h8, h⟩ := of_chk h
    exact WM.cut mixed [R_ [o_, o_], T_, R_ [o_, o_, o_], R_ [o_, o_, o_]] [] (pc ((h6 : decide (x0_2 ≥ 256) = true)) <| pc ((by decide : (0 : Int) ≤ 8)) <| pc h7 <| pc h8 <| allP_nil) (F148_p3_ok h) (by kernel_rfl)
  · exact WM.cut mixed [R_ [o_, o_], F_] [] (pc ((h6 : decide (x0_2 ≥ 256) = false)) <| allP_nil) (F148_p3_ok h) (by kernel_rfl)
set_option maxRecDepth 100000 in
set_option maxHeartbeats 4000000 in
theorem F148_p1_ok {cx : Cx} {f : Nat} {a0 : Int} {x0_1 : Int} {x2_1 : Int} {y : Int} (h : F148_p1 f x0_1 x2_1 = some y) :
    WM Tryz.prog G0 25 0 Tryz.f148.results.toList (v_F148 a0 y) (x_F148 a0 y) cx (nav [.r, .r, .t, .r, .r, .n] [.code (bodyOf Tryz.f148)]) [(0, ⟨none, .i .u64 x0_1⟩), (2, ⟨none, .i .i64 x2_1⟩)] [] := by
  unfold F148_p1 at h
  rcases of_ifb h with ⟨h3, h⟩ | ⟨h3, h⟩
  · obtain ⟨h4, h⟩ := of_chk h
    obtain ⟨h5, h⟩ := of_chk h
    exact WM.cut mixed [R_ [o_, o_], T_, R_ [o_, o_, o_], R_ [o_, o_, o_]] [] (pc ((h3 : decide (x0_1 ≥ 65536) = true)) <| pc ((by decide : (0 : Int) ≤ 16)) <| pc h4 <| pc h5 <| allP_nil) (F148_p2_ok h) (by kernel_rfl)
  · exact WM.cut mixed [R_ [o_, o_], F_] [] (pc ((h3 : decide (x0_1 ≥ 65536) = false)) <| allP_nil) (F148_p2_ok h) (by kernel_rfl)
set_option maxRecDepth 100000 in
set_option maxHeartbeats 4000000 in
theorem F148_ok {f : Nat} {a0 : Int} {y : Int} (h : F148 f a0 = some y) :
    Spec Tryz.prog G0 148 [.i .u64 a0] [] (v_F148 a0 y) (x_F148 a0 y) :=
  Spec.ofM (fn := Tryz.f148) (c := bodyOf Tryz.f148) (n := 25) (rs := Tryz.f148.results.toList) Tryz.func148 (by kernel_rfl) (by kernel_rfl) (by kernel_rfl) (by kernel_rfl) fun cx => by
  unfold F148 at h
  rcases of_ifb h with ⟨h1, h⟩ | ⟨h1, h⟩
  · obtain ⟨h2, h⟩ := of_chk h
    exact WM.cut mixed [R_ [o_], R_ [o_, o_], T_, R_ [o_, o_, o_], R_ [o_]] [] (pc ((h1 : decide (a0 ≥ 4294967296) = true)) <| pc ((by decide : (0 : Int) ≤ 32)) <| pc h2 <| allP_nil) (F148_p1_ok h) (by kernel_rfl)
  · exact WM.cut mixed [R_ [o_], R_ [o_, o_], F_] [] (pc ((h1 : decide (a0 ≥ 4294967296) = false)) <| allP_nil) (F148_p1_ok h) (by kernel_rfl)

/-! ### F147: function 147 internal/strconv.log10Pow2 -/
def F147 (f : Nat) (a0 : Int) : Option (Int) :=
  some ((Int.fdiv (wr (a0 * 78913)) (2 ^ 18)))
def v_F147 (a0 : Int) (y : Int) : V :=
  .i .i64 y
def e_F147 (a0 : Int) (y : Int) : Env :=
  [(2, ⟨none, .i .i64 y⟩)]
def x_F147 (a0 : Int) (y : Int) : List (Option Blk) :=
  []
set_option maxRecDepth 100000 in
set_option maxHeartbeats 4000000 in
theorem F147_ok {f : Nat} {a0 : Int} {y : Int} (h : F147 f a0 = some y) :
    Spec Tryz.prog G0 147 [.i .i64 a0] [] (v_F147 a0 y) (x_F147 a0 y) :=
  Spec.ofM (fn := Tryz.f147) (c := bodyOf Tryz.f147) (n := 6) (rs := Tryz.f147.results.toList) Tryz.func147 (by kernel_rfl) (by kernel_rfl) (by kernel_rfl) (by kernel_rfl) fun cx => by
  unfold F147 at h
  replace h := Option.some.inj h
  subst h
  exact WM.retE mixed (e_F147 a0 ((Int.fdiv (wr (a0 * 78913)) (2 ^ 18)))) [R_ [o_], R_ [o_, o_, o_, o_]] [] (pc ((by decide : (0 : Int) ≤ 18)) <| allP_nil) (by kernel_rfl) (by kernel_rfl)

/-! ### F141: function 141 internal/strconv.FormatInt -/
def F141_p1 (f : Nat) (a0 : Int) (x5_1 : T24_uint8) (x6_1 : Int) : Option (Int × List Int) :=
  none
def F141 (f : Nat) (a0 : Int) : Option (Int × List Int) :=
  ifb ((decide (0 ≤ a0) && decide (a0 < 100))) (
    bnd (F143 f a0) fun r1 =>
    some ((10, r1))) (
    ifb (decide (a0 < 0)) (
      F141_p1 f a0 (T24_uint8.mk 0 0 0 0 0 0 0 0 0 0 0 0 0 0 0 0 0 0 0 0 0 0 0 0) (IntKind.wrap .u64 (0 - (IntKind.wrap .u64 a0)))) (
      F141_p1 f a0 (T24_uint8.mk 0 0 0 0 0 0 0 0 0 0 0 0 0 0 0 0 0 0 0 0 0 0 0 0) (IntKind.wrap .u64 a0)))
def v_F141 (a0 : Int) (y : Int × List Int) : V :=
  .s y.2
def e_F141 (a0 : Int) (y : Int × List Int) : Env :=
  [(4, ⟨none, .s y.2⟩)]
def x_F141 (a0 : Int) (y : Int × List Int) : List (Option Blk) :=
  []
set_option maxRecDepth 100000 in
set_option maxHeartbeats 4000000 in
theorem F141_p1_ok {cx : Cx} {f : Nat} {a0 : Int} {x5_1 : T24_uint8} {x6_1 : Int} {y : Int × List Int} (h : F141_p1 f a0 x5_1 x6_1 = some y) :
    WM Tryz.prog G0 54 0 Tryz.f141.results.toList (v_F141 a0 y) (x_F141 a0 y) cx (nav [.r, .r, .t, .r, .f, .r, .r, .r, .t, .r, .n] [.code (bodyOf Tryz.f141)]) [(0, ⟨none, .i .i64 a0⟩), (5, ⟨none, .p 0 0 0⟩), (6, ⟨none, .i .u64 x6_1⟩)] [some (svB 24 [.i .u8 x5_1.e0, .i .u8 x5_1.e1, .i .u8 x5_1.e2, .i .u8 x5_1.e3, .i .u8 x5_1.e4, .i .u8 x5_1.e5, .i .u8 x5_1.e6, .i .u8 x5_1.e7, .i .u8 x5_1.e8, .i .u8 x5_1.e9, .i .u8 x5_1.e10, .i .u8 x5_1.e11, .i .u8 x5_1.e12, .i .u8 x5_1.e13, .i .u8 x5_1.e14, .i .u8 x5_1.e15, .i .u8 x5_1.e16, .i .u8 x5_1.e17, .i .u8 x5_1.e18, .i .u8 x5_1.e19, .i .u8 x5_1.e20, .i .u8 x5_1.e21, .i .u8 x5_1.e22, .i .u8 x5_1.e23])] := by
  unfold F141_p1 at h
  cases h
set_option maxRecDepth 100000 in
set_option maxHeartbeats 4000000 in
theorem F141_ok {f : Nat} {a0 : Int} {y : Int × List Int} (h : F141 f a0 = some y) :
    Spec Tryz.prog G0 141 [.i .i64 a0, .i .i64 10] [] (v_F141 a0 y) (x_F141 a0 y) :=
  Spec.ofM (fn := Tryz.f141) (c := bodyOf Tryz.f141) (n := 54) (rs := Tryz.f141.results.toList) Tryz.func141 (by kernel_rfl) (by kernel_rfl) (by kernel_rfl) (by kernel_rfl) fun cx => by
  unfold F141 at h
  rcases of_ifb h with ⟨h1, h⟩ | ⟨h1, h⟩
  · obtain ⟨r1, h2, h⟩ := of_bnd h
    replace h := Option.some.inj h
    subst h
    exact WM.retE mixed (e_F141 a0 ((10, r1))) [R_ [o_], R_ [o_, o_], T_, R_ [o_, o_, o_, o_, o_, o_], T_, R_ [o_, c_ (mkCall Tryz.call143 (F143_ok h2) [] (by kernel_rfl) (by kernel_rfl)), o_]] [] (pc ((rfl : true = true)) <| pc ((fun h => h : (decide (0 ≤ a0) = true → decide (0 ≤ a0) = true))) <| pc ((fun k2 => k2 : (decide (0 ≤ a0) = true → decide (0 ≤ a0) = true))) <| pc ((h1 : (decide (0 ≤ a0) && decide (a0 < 100)) = true)) <| allP_nil) (by kernel_rfl) (by kernel_rfl)
  · rcases of_ifb h with ⟨h3, h⟩ | ⟨h3, h⟩
    · exact WM.cut mixed [R_ [o_], R_ [o_, o_], T_, R_ [o_, o_, o_, o_, o_, o_], F_, R_ [.op (.fresh 0 (svB 24 [.i .u8 0, .i .u8 0, .i .u8 0, .i .u8 0, .i .u8 0, .i .u8 0, .i .u8 0, .i .u8 0, .i .u8 0, .i .u8 0, .i .u8 0, .i .u8 0, .i .u8 0, .i .u8 0, .i .u8 0, .i .u8 0, .i .u8 0, .i .u8 0, .i .u8 0, .i .u8 0, .i .u8 0, .i .u8 0, .i .u8 0, .i .u8 0]))], R_ [o_, o_, o_], R_ [o_, o_], T_, R_ [o_, o_, o_]] [some 0] (pc ((rfl : true = true)) <| pc ((fun h => h : (decide (0 ≤ a0) = true → decide (0 ≤ a0) = true))) <| pc ((fun k2 => k2 : (decide (0 ≤ a0) = true → decide (0 ≤ a0) = true))) <| pc ((h1 : (decide (0 ≤ a0) && decide (a0 < 100)) = false)) <| pc ((h3 : decide (a0 < 0) = true)) <| allP_nil) (F141_p1_ok h) (by kernel_rfl)
    · exact WM.cut mixed [R_ [o_], R_ [o_, o_], T_, R_ [o_, o_, o_, o_, o_, o_], F_, R_ [.op (.fresh 0 (svB 24 [.i .u8 0, .i .u8 0, .i .u8 0, .i .u8 0, .i .u8 0, .i .u8 0, .i .u8 0, .i .u8 0, .i .u8 0, .i .u8 0, .i .u8 0, .i .u8 0, .i .u8 0, .i .u8 0, .i .u8 0, .i .u8 0, .i .u8 0, .i .u8 0, .i .u8 0, .i .u8 0, .i .u8 0, .i .u8 0, .i .u8 0, .i .u8 0]))], R_ [o_, o_, o_], R_ [o_, o_], F_] [some 0] (pc ((rfl : true = true)) <| pc ((fun h => h : (decide (0 ≤ a0) = true → decide (0 ≤ a0) = true))) <| pc ((fun k2 => k2 : (decide (0 ≤ a0) = true → decide (0 ≤ a0) = true))) <| pc ((h1 : (decide (0 ≤ a0) && decide (a0 < 100)) = false)) <| pc ((h3 : decide (a0 < 0) = false)) <| allP_nil) (F141_p1_ok h) (by kernel_rfl)

/-! ### F139: function 139 internal/strconv.Itoa -/
def F139 (f : Nat) (a0 : Int) : Option (List Int) :=
  bnd (F141 f a0) fun r1 =>
  some (r1.2)
def v_F139 (a0 : Int) (y : List Int) : V :=
  .s y
def e_F139 (a0 : Int) (y : List Int) : Env :=
  [(2, ⟨none, .s y⟩)]
def x_F139 (a0 : Int) (y : List Int) : List (Option Blk) :=
  []
set_option maxRecDepth 100000 in
set_option maxHeartbeats 4000000 in
theorem F139_ok {f : Nat} {a0 : Int} {y : List Int} (h : F139 f a0 = some y) :
    Spec Tryz.prog G0 139 [.i .i64 a0] [] (v_F139 a0 y) (x_F139 a0 y) :=
  Spec.ofM (fn := Tryz.f139) (c := bodyOf Tryz.f139) (n := 5) (rs := Tryz.f139.results.toList) Tryz.func139 (by kernel_rfl) (by kernel_rfl) (by kernel_rfl) (by kernel_rfl) fun cx => by
  unfold F139 at h
  obtain ⟨r1, h1, h⟩ := of_bnd h
  replace h := Option.some.inj h
  subst h
  exact WM.retE mixed (e_F139 a0 (r1.2)) [R_ [o_], R_ [o_, c_ (mkCall Tryz.call141 (F141_ok h1) [] (by kernel_rfl) (by kernel_rfl)), o_]] [] (allP_nil) (by kernel_rfl) (by kernel_rfl)

/-! ### F130: function 130 strconv.Itoa -/
def F130 (f : Nat) (a0 : Int) : Option (List Int) :=
  bnd (F139 f a0) fun r1 =>
  some (r1)
def v_F130 (a0 : Int) (y : List Int) : V :=
  .s y
def e_F130 (a0 : Int) (y : List Int) : Env :=
  [(2, ⟨none, .s y⟩)]
def x_F130 (a0 : Int) (y : List Int) : List (Option Blk) :=
  []
set_option maxRecDepth 100000 in
set_option maxHeartbeats 4000000 in
theorem F130_ok {f : Nat} {a0 : Int} {y : List Int} (h : F130 f a0 = some y) :
    Spec Tryz.prog G0 130 [.i .i64 a0] [] (v_F130 a0 y) (x_F130 a0 y) :=
  Spec.ofM (fn := Tryz.f130) (c := bodyOf Tryz.f130) (n := 5) (rs := Tryz.f130.results.toList) Tryz.func130 (by kernel_rfl) (by kernel_rfl) (by kernel_rfl) (by kernel_rfl) fun cx => by
  unfold F130 at h
  obtain ⟨r1, h1, h⟩ := of_bnd h
  replace h := Option.some.inj h
  subst h
  exact WM.retE mixed (e_F130 a0 (r1)) [R_ [o_], R_ [o_, c_ (mkCall Tryz.call139 (F139_ok h1) [] (by kernel_rfl) (by kernel_rfl)), o_]] [] (allP_nil) (by kernel_rfl) (by kernel_rfl)

/-! ### F120: function 120 (*tickertape/term.Term).reports -/
def F120_p1 (f : Nat) (a0 : term_TermO_2) (x4_1 : Int) : Option (term_TermO_2) :=
  chk (inR (x4_1 + 1)) <|
  bnd (F130 f (x4_1 + 1)) fun r2 =>
  chk (((r2.length + 1 : Nat) : Int) ≤ i64max) <|
  chk (inR (a0.kept.cursor.col + 1)) <|
  bnd (F130 f (a0.kept.cursor.col + 1)) fun r3 =>
  chk (((((r2 ++ [59])).length + r3.length : Nat) : Int) ≤ i64max) <|
  chk ((((((r2 ++ [59]) ++ r3)).length + 1 : Nat) : Int) ≤ i64max) <|
  bnd (F121 f a0 (((r2 ++ [59]) ++ r3) ++ [82])) fun r4 =>
  some (r4)
def F120 (f : Nat) (a0 : term_TermO_2) (a1 : Int) : Option (term_TermO_2) :=
  ifb (decide (a1 = 5)) (
    bnd (F121 f a0 [48, 110]) fun r1 =>
    some (r1)) (
    ifb (decide (a1 = 6)) (
      ifb (a0.kept.origin) (
        chk (inR (a0.kept.cursor.row - a0.top)) <|
        F120_p1 f a0 (a0.kept.cursor.row - a0.top)) (
        F120_p1 f a0 a0.kept.cursor.row)) (
      some (a0)))
def v_F120 (a0 : term_TermO_2) (a1 : Int) (y : term_TermO_2) : V :=
  .tup []
def e_F120 (a0 : term_TermO_2) (a1 : Int) (y : term_TermO_2) : Env :=
  []
def x_F120 (a0 : term_TermO_2) (a1 : Int) (y : term_TermO_2) : List (Option Blk) :=
  [some (B_term_TermO_2 1 3 5 7 9 14 y), some (B_grid_GridO 2 y.grids_0), some (blk_cell_Cell y.grids_0.l), some (B_grid_GridO 4 y.grids_1), some (blk_cell_Cell y.grids_1.l), some (B_tabs_StopsO_1 6 y.stops), some (boolB y.stops.at_), some (B_utf_DecoderO 8 y.signs), some (intB .u8 y.signs.b), some (B_esc_ParserO 10 11 12 y.asks), some (intB .i64 y.asks.params), some (intB .i32 y.asks.text), some (blk_esc_Event y.asks.out), none, some (intB .u8 y.reply)]
set_option maxRecDepth 100000 in
set_option maxHeartbeats 4000000 in
theorem F120_p1_ok {cx : Cx} {f : Nat} {a0 : term_TermO_2} {a1 : Int} {x4_1 : Int} {y : term_TermO_2} (h : F120_p1 f a0 x4_1 = some y) :
    WM Tryz.prog G0 49 14 Tryz.f120.results.toList (v_F120 a0 a1 y) (x_F120 a0 a1 y) cx (nav [.r, .r, .f, .r, .t, .r, .r, .t, .r, .n] [.code (bodyOf Tryz.f120)]) [(0, ⟨none, .p 0 0 0⟩), (4, ⟨none, .i .i64 x4_1⟩)] [some (B_term_TermO_2 1 3 5 7 9 13 a0), some (B_grid_GridO 2 a0.grids_0), some (blk_cell_Cell a0.grids_0.l), some (B_grid_GridO 4 a0.grids_1), some (blk_cell_Cell a0.grids_1.l), some (B_tabs_StopsO_1 6 a0.stops), some (boolB a0.stops.at_), some (B_utf_DecoderO 8 a0.signs), some (intB .u8 a0.signs.b), some (B_esc_ParserO 10 11 12 a0.asks), some (intB .i64 a0.asks.params), some (intB .i32 a0.asks.text), some (blk_esc_Event a0.asks.out), some (intB .u8 a0.reply)] := by
  unfold F120_p1 at h
  obtain ⟨h6, h⟩ := of_chk h
  obtain ⟨r2, h7, h⟩ := of_bnd h
  obtain ⟨h8, h⟩ := of_chk h
  obtain ⟨h9, h⟩ := of_chk h
  obtain ⟨r3, h10, h⟩ := of_bnd h
  obtain ⟨h11, h⟩ := of_chk h
  obtain ⟨h12, h⟩ := of_chk h
  obtain ⟨r4, h13, h⟩ := of_bnd h
  replace h := Option.some.inj h
  subst h
  exact WM.retE mixed (e_F120 a0 a1 (r4)) [R_ [o_, o_, o_, c_ (mkCall Tryz.call130 (F130_ok h7) [] (by kernel_rfl) (by kernel_rfl)), o_, o_, o_, o_, o_, o_, o_, o_, o_, c_ (mkCall Tryz.call130 (F130_ok h10) [] (by kernel_rfl) (by kernel_rfl)), o_, o_, c_ (mkCall Tryz.call121 (F121_ok h13) [0, 1, 2, 3, 4, 5, 6, 7, 8, 9, 10, 11, 12, 13, 14] (by kernel_rfl) (by kernel_rfl))]] [some 0, some 1, some 2, some 3, some 4, some 5, some 6, some 7, some 8, some 9, some 10, some 11, some 12, some 13, some 14] (pc h6 <| pc h8 <| pc zlt1 <| pc h9 <| pc h11 <| pc h12 <| allP_nil) (by kernel_rfl) (by kernel_rfl)
set_option maxRecDepth 100000 in
set_option maxHeartbeats 4000000 in
theorem F120_ok {f : Nat} {a0 : term_TermO_2} {a1 : Int} {y : term_TermO_2} (h : F120 f a0 a1 = some y) :
    Spec Tryz.prog G0 120 [.p 0 0 0, .i .i64 a1] [some (B_term_TermO_2 1 3 5 7 9 13 a0), some (B_grid_GridO 2 a0.grids_0), some (blk_cell_Cell a0.grids_0.l), some (B_grid_GridO 4 a0.grids_1), some (blk_cell_Cell a0.grids_1.l), some (B_tabs_StopsO_1 6 a0.stops), some (boolB a0.stops.at_), some (B_utf_DecoderO 8 a0.signs), some (intB .u8 a0.signs.b), some (B_esc_ParserO 10 11 12 a0.asks), some (intB .i64 a0.asks.params), some (intB .i32 a0.asks.text), some (blk_esc_Event a0.asks.out), some (intB .u8 a0.reply)] (v_F120 a0 a1 y) (x_F120 a0 a1 y) :=
  Spec.ofM (fn := Tryz.f120) (c := bodyOf Tryz.f120) (n := 49) (rs := Tryz.f120.results.toList) Tryz.func120 (by kernel_rfl) (by kernel_rfl) (by kernel_rfl) (by kernel_rfl) fun cx => by
  unfold F120 at h
  rcases of_ifb h with ⟨h1, h⟩ | ⟨h1, h⟩
  · obtain ⟨r1, h2, h⟩ := of_bnd h
    replace h := Option.some.inj h
    subst h
    exact WM.retE mixed (e_F120 a0 a1 (r1)) [R_ [o_], R_ [o_, o_], T_, R_ [o_, c_ (mkCall Tryz.call121 (F121_ok h2) [0, 1, 2, 3, 4, 5, 6, 7, 8, 9, 10, 11, 12, 13, 14] (by kernel_rfl) (by kernel_rfl))]] [some 0, some 1, some 2, some 3, some 4, some 5, some 6, some 7, some 8, some 9, some 10, some 11, some 12, some 13, some 14] (pc ((h1 : decide (a1 = 5) = true)) <| allP_nil) (by kernel_rfl) (by kernel_rfl)
  · rcases of_ifb h with ⟨h3, h⟩ | ⟨h3, h⟩
    · rcases of_ifb h with ⟨h4, h⟩ | ⟨h4, h⟩
      · obtain ⟨h5, h⟩ := of_chk h
        exact WM.cut mixed [R_ [o_], R_ [o_, o_], F_, R_ [o_, o_], T_, R_ [o_, o_, o_, o_, o_, o_, o_, o_], R_ [o_, o_, o_, o_, o_, o_], T_, R_ [o_, o_, o_, o_, o_, o_, o_, o_]] [some 0, some 1, some 2, some 3, some 4, some 5, some 6, some 7, some 8, some 9, some 10, some 11, some 12, some 13] (pc ((h1 : decide (a1 = 5) = false)) <| pc ((h3 : decide (a1 = 6) = true)) <| pc zlt1 <| pc zlt1 <| pc ((h4 : a0.kept.origin = true)) <| pc zlt1 <| pc h5 <| allP_nil) (F120_p1_ok h) (by kernel_rfl)
      · exact WM.cut mixed [R_ [o_], R_ [o_, o_], F_, R_ [o_, o_], T_, R_ [o_, o_, o_, o_, o_, o_, o_, o_], R_ [o_, o_, o_, o_, o_, o_], F_] [some 0, some 1, some 2, some 3, some 4, some 5, some 6, some 7, some 8, some 9, some 10, some 11, some 12, some 13] (pc ((h1 : decide (a1 = 5) = false)) <| pc ((h3 : decide (a1 = 6) = true)) <| pc zlt1 <| pc zlt1 <| pc ((h4 : a0.kept.origin = false)) <| allP_nil) (F120_p1_ok h) (by kernel_rfl)
    · replace h := Option.some.inj h
      subst h
      exact WM.retE mixed (e_F120 a0 a1 (a0)) [R_ [o_], R_ [o_, o_], F_, R_ [o_, o_], F_] [some 0, some 1, some 2, some 3, some 4, some 5, some 6, some 7, some 8, some 9, some 10, some 11, some 12, some 13, some 13] (pc ((h1 : decide (a1 = 5) = false)) <| pc ((h3 : decide (a1 = 6) = false)) <| allP_nil) (by kernel_rfl) (by kernel_rfl)

/-! ### F122: function 122 (*tickertape/term.Term).modes -/
def F122_p1_b (f : Nat) (g1 : term_TermO_2 → Int → Option (term_TermO_2)) (a1 : List Int) (a2 : Bool) (a0_1 : term_TermO_2) (x10_1 : Int) : Option (term_TermO_2) :=
  ifb (decide (x10_1 < ((a1.length : Nat) : Int))) (
    chk (0 ≤ x10_1) <|
    chk (x10_1 < ((a1.length : Nat) : Int)) <|
    chk (x10_1.toNat < a1.length) <|
    ifb (decide ((a1.getD x10_1.toNat 0) = 4)) (
      chk (inR (x10_1 + 1)) <|
      g1 ({ a0_1 with insert := a2 } : term_TermO_2) (x10_1 + 1)) (
      ifb (decide ((a1.getD x10_1.toNat 0) = 20)) (
        chk (inR (x10_1 + 1)) <|
        g1 ({ a0_1 with newline := a2 } : term_TermO_2) (x10_1 + 1)) (
        chk (inR (x10_1 + 1)) <|
        g1 a0_1 (x10_1 + 1)))) (
    some (a0_1))
def F122_p1 (f : Nat) (a1 : List Int) (a2 : Bool) : Nat → term_TermO_2 → Int → Option (term_TermO_2)
  | 0, _, _ => none
  | j + 1, a0_1, x10_1 => F122_p1_b f (F122_p1 f a1 a2 j) a1 a2 a0_1 x10_1
def F122 (f : Nat) (a0 : term_TermO_2) (a1 : List Int) (a2 : Bool) : Option (term_TermO_2) :=
  F122_p1 f a1 a2 f a0 0
def v_F122 (a0 : term_TermO_2) (a1 : List Int) (a2 : Bool) (y : term_TermO_2) : V :=
  .tup []
def e_F122 (a0 : term_TermO_2) (a1 : List Int) (a2 : Bool) (y : term_TermO_2) : Env :=
  []
def x_F122 (a0 : term_TermO_2) (a1 : List Int) (a2 : Bool) (y : term_TermO_2) : List (Option Blk) :=
  [some (B_term_TermO_2 1 3 5 7 9 13 y), some (B_grid_GridO 2 y.grids_0), some (blk_cell_Cell y.grids_0.l), some (B_grid_GridO 4 y.grids_1), some (blk_cell_Cell y.grids_1.l), some (B_tabs_StopsO_1 6 y.stops), some (boolB y.stops.at_), some (B_utf_DecoderO 8 y.signs), some (intB .u8 y.signs.b), some (B_esc_ParserO 10 11 12 y.asks), some (intB .i64 y.asks.params), some (intB .i32 y.asks.text), some (blk_esc_Event y.asks.out), some (intB .u8 y.reply)]
set_option maxRecDepth 100000 in
set_option maxHeartbeats 4000000 in
theorem F122_p1_bok {cx : Cx} {f : Nat} {I1 : Act → World → Prop} {g1 : term_TermO_2 → Int → Option (term_TermO_2)} {a0 : term_TermO_2} {a1 : List Int} {a2 : Bool} {a0_1 : term_TermO_2} {x10_1 : Int} {y : term_TermO_2} (hg1 : ∀ (a0_1 : term_TermO_2) (x10_1 : Int), g1 a0_1 x10_1 = some y → ∀ a w, cx.In G0 30 14 [(0, ⟨none, .p 0 0 0⟩), (2, ⟨none, .b a2⟩), (8, ⟨none, .ro Int 1 (fun n => [.i .i64 n]) 0 a1⟩), (9, ⟨none, .i .i64 ((a1.length : Nat) : Int)⟩), (10, ⟨none, .i .i64 x10_1⟩)] [some (B_term_TermO_2 1 3 5 7 9 13 a0_1), some (B_grid_GridO 2 a0_1.grids_0), some (blk_cell_Cell a0_1.grids_0.l), some (B_grid_GridO 4 a0_1.grids_1), some (blk_cell_Cell a0_1.grids_1.l), some (B_tabs_StopsO_1 6 a0_1.stops), some (boolB a0_1.stops.at_), some (B_utf_DecoderO 8 a0_1.signs), some (intB .u8 a0_1.signs.b), some (B_esc_ParserO 10 11 12 a0_1.asks), some (intB .i64 a0_1.asks.params), some (intB .i32 a0_1.asks.text), some (blk_esc_Event a0_1.asks.out), some (intB .u8 a0_1.reply)] a w → I1 a w) (h : F122_p1_b f g1 a1 a2 a0_1 x10_1 = some y) :
    WM Tryz.prog G0 30 14 Tryz.f122.results.toList (v_F122 a0 a1 a2 y) (x_F122 a0 a1 a2 y) cx (nav [.r, .l I1] [.code (bodyOf Tryz.f122)]) [(0, ⟨none, .p 0 0 0⟩), (2, ⟨none, .b a2⟩), (8, ⟨none, .ro Int 1 (fun n => [.i .i64 n]) 0 a1⟩), (9, ⟨none, .i .i64 ((a1.length : Nat) : Int)⟩), (10, ⟨none, .i .i64 x10_1⟩)] [some (B_term_TermO_2 1 3 5 7 9 13 a0_1), some (B_grid_GridO 2 a0_1.grids_0), some (blk_cell_Cell a0_1.grids_0.l), some (B_grid_GridO 4 a0_1.grids_1), some (blk_cell_Cell a0_1.grids_1.l), some (B_tabs_StopsO_1 6 a0_1.stops), some (boolB a0_1.stops.at_), some (B_utf_DecoderO 8 a0_1.signs), some (intB .u8 a0_1.signs.b), some (B_esc_ParserO 10 11 12 a0_1.asks), some (intB .i64 a0_1.asks.params), some (intB .i32 a0_1.asks.text), some (blk_esc_Event a0_1.asks.out), some (intB .u8 a0_1.reply)] := by
  unfold F122_p1_b at h
  rcases of_ifb h with ⟨h1, h⟩ | ⟨h1, h⟩
  · obtain ⟨h2, h⟩ := of_chk h
    obtain ⟨h3, h⟩ := of_chk h
    obtain ⟨h4, h⟩ := of_chk h
    rcases of_ifb h with ⟨h5, h⟩ | ⟨h5, h⟩
    · obtain ⟨h6, h⟩ := of_chk h
      exact WM.cut mixed [R_ [o_], T_, R_ [o_, o_, o_], R_ [o_], R_ [o_, o_], T_, R_ [o_, o_, o_, o_, o_, o_], R_ [o_, o_]] [some 0, some 1, some 2, some 3, some 4, some 5, some 6, some 7, some 8, some 9, some 10, some 11, some 12, some 13] (pc ((h1 : decide (x10_1 < ((a1.length : Nat) : Int)) = true)) <| pc h2 <| pc h3 <| pc h4 <| pc ((h5 : decide ((a1.getD x10_1.toNat 0) = 4) = true)) <| pc zlt1 <| pc h6 <| allP_nil) (WM.again (k := (nav [.r, .n] [.code (bodyOf Tryz.f122)]).tail) (hg1 _ _ h)) (by kernel_rfl)
    · rcases of_ifb h with ⟨h7, h⟩ | ⟨h7, h⟩
      · obtain ⟨h8, h⟩ := of_chk h
        exact WM.cut mixed [R_ [o_], T_, R_ [o_, o_, o_], R_ [o_], R_ [o_, o_], F_, R_ [o_, o_], T_, R_ [o_, o_, o_, o_, o_, o_], R_ [o_, o_]] [some 0, some 1, some 2, some 3, some 4, some 5, some 6, some 7, some 8, some 9, some 10, some 11, some 12, some 13] (pc ((h1 : decide (x10_1 < ((a1.length : Nat) : Int)) = true)) <| pc h2 <| pc h3 <| pc h4 <| pc ((h5 : decide ((a1.getD x10_1.toNat 0) = 4) = false)) <| pc ((h7 : decide ((a1.getD x10_1.toNat 0) = 20) = true)) <| pc zlt1 <| pc h8 <| allP_nil) (WM.again (k := (nav [.r, .n] [.code (bodyOf Tryz.f122)]).tail) (hg1 _ _ h)) (by kernel_rfl)
      · obtain ⟨h9, h⟩ := of_chk h
        exact WM.cut mixed [R_ [o_], T_, R_ [o_, o_, o_], R_ [o_], R_ [o_, o_], F_, R_ [o_, o_], F_, R_ [o_, o_]] [some 0, some 1, some 2, some 3, some 4, some 5, some 6, some 7, some 8, some 9, some 10, some 11, some 12, some 13] (pc ((h1 : decide (x10_1 < ((a1.length : Nat) : Int)) = true)) <| pc h2 <| pc h3 <| pc h4 <| pc ((h5 : decide ((a1.getD x10_1.toNat 0) = 4) = false)) <| pc ((h7 : decide ((a1.getD x10_1.toNat 0) = 20) = false)) <| pc h9 <| allP_nil) (WM.again (k := (nav [.r, .n] [.code (bodyOf Tryz.f122)]).tail) (hg1 _ _ h)) (by kernel_rfl)
  · replace h := Option.some.inj h
    subst h
    exact WM.retE mixed (e_F122 a0 a1 a2 (a0_1)) [R_ [o_], F_] [some 0, some 1, some 2, some 3, some 4, some 5, some 6, some 7, some 8, some 9, some 10, some 11, some 12, some 13] (pc ((h1 : decide (x10_1 < ((a1.length : Nat) : Int)) = false)) <| allP_nil) (by kernel_rfl) (by kernel_rfl)
set_option maxRecDepth 100000 in
set_option maxHeartbeats 4000000 in
theorem F122_p1_ok {cx : Cx} {f : Nat} {a0 : term_TermO_2} {a1 : List Int} {a2 : Bool} {a0_1 : term_TermO_2} {x10_1 : Int} {j : Nat} {y : term_TermO_2} (h : F122_p1 f a1 a2 j a0_1 x10_1 = some y) :
    WM Tryz.prog G0 30 14 Tryz.f122.results.toList (v_F122 a0 a1 a2 y) (x_F122 a0 a1 a2 y) cx (nav [.r, .n] [.code (bodyOf Tryz.f122)]) [(0, ⟨none, .p 0 0 0⟩), (2, ⟨none, .b a2⟩), (8, ⟨none, .ro Int 1 (fun n => [.i .i64 n]) 0 a1⟩), (9, ⟨none, .i .i64 ((a1.length : Nat) : Int)⟩), (10, ⟨none, .i .i64 x10_1⟩)] [some (B_term_TermO_2 1 3 5 7 9 13 a0_1), some (B_grid_GridO 2 a0_1.grids_0), some (blk_cell_Cell a0_1.grids_0.l), some (B_grid_GridO 4 a0_1.grids_1), some (blk_cell_Cell a0_1.grids_1.l), some (B_tabs_StopsO_1 6 a0_1.stops), some (boolB a0_1.stops.at_), some (B_utf_DecoderO 8 a0_1.signs), some (intB .u8 a0_1.signs.b), some (B_esc_ParserO 10 11 12 a0_1.asks), some (intB .i64 a0_1.asks.params), some (intB .i32 a0_1.asks.text), some (blk_esc_Event a0_1.asks.out), some (intB .u8 a0_1.reply)] := by
  refine WM.loopN (X := term_TermO_2 × Int) (y := y) (kb := fun I1 => (nav [.r, .l I1] [.code (bodyOf Tryz.f122)])) (by intro I; kernel_rfl) (fun j x => F122_p1 f a1 a2 j x.1 x.2) (fun x => [(0, ⟨none, .p 0 0 0⟩), (2, ⟨none, .b a2⟩), (8, ⟨none, .ro Int 1 (fun n => [.i .i64 n]) 0 a1⟩), (9, ⟨none, .i .i64 ((a1.length : Nat) : Int)⟩), (10, ⟨none, .i .i64 x.2⟩)]) (fun x => [some (B_term_TermO_2 1 3 5 7 9 13 x.1), some (B_grid_GridO 2 x.1.grids_0), some (blk_cell_Cell x.1.grids_0.l), some (B_grid_GridO 4 x.1.grids_1), some (blk_cell_Cell x.1.grids_1.l), some (B_tabs_StopsO_1 6 x.1.stops), some (boolB x.1.stops.at_), some (B_utf_DecoderO 8 x.1.signs), some (intB .u8 x.1.signs.b), some (B_esc_ParserO 10 11 12 x.1.asks), some (intB .i64 x.1.asks.params), some (intB .i32 x.1.asks.text), some (blk_esc_Event x.1.asks.out), some (intB .u8 x.1.reply)]) ?_ (j := j) (x := (a0_1, x10_1)) h
  intro j x I1 h hI
  cases j with
  | zero => cases h
  | succ j => exact F122_p1_bok (fun x0 x1 => hI j (x0, x1) (Nat.lt_succ_self j)) h
set_option maxRecDepth 100000 in
set_option maxHeartbeats 4000000 in
theorem F122_ok {f : Nat} {a0 : term_TermO_2} {a1 : List Int} {a2 : Bool} {y : term_TermO_2} (h : F122 f a0 a1 a2 = some y) :
    Spec Tryz.prog G0 122 [.p 0 0 0, .ro Int 1 (fun n => [.i .i64 n]) 0 a1, .b a2] [some (B_term_TermO_2 1 3 5 7 9 13 a0), some (B_grid_GridO 2 a0.grids_0), some (blk_cell_Cell a0.grids_0.l), some (B_grid_GridO 4 a0.grids_1), some (blk_cell_Cell a0.grids_1.l), some (B_tabs_StopsO_1 6 a0.stops), some (boolB a0.stops.at_), some (B_utf_DecoderO 8 a0.signs), some (intB .u8 a0.signs.b), some (B_esc_ParserO 10 11 12 a0.asks), some (intB .i64 a0.asks.params), some (intB .i32 a0.asks.text), some (blk_esc_Event a0.asks.out), some (intB .u8 a0.reply)] (v_F122 a0 a1 a2 y) (x_F122 a0 a1 a2 y) :=
  Spec.ofM (fn := Tryz.f122) (c := bodyOf Tryz.f122) (n := 30) (rs := Tryz.f122.results.toList) Tryz.func122 (by kernel_rfl) (by kernel_rfl) (by kernel_rfl) (by kernel_rfl) fun cx => by
  unfold F122 at h
  exact WM.cut mixed [R_ [o_, o_, o_]] [some 0, some 1, some 2, some 3, some 4, some 5, some 6, some 7, some 8, some 9, some 10, some 11, some 12, some 13] (allP_nil) (F122_p1_ok h) (by kernel_rfl)

/-! ### F87: function 87 (*tickertape/term.Term).sets -/
def F87_p1 (f : Nat) (a0 : term_TermO_2) (a1 : esc_Event) (x81_1 : Bool) : Option (term_TermO_2) :=
  ifb (x81_1) (
    bnd (F122 f a0 a1.Params (decide (a1.Final = 104))) fun r8 =>
    some (r8)) (
    some (a0))
def F87 (f : Nat) (a0 : term_TermO_2) (a1 : esc_Event) (a2 : Int) : Option (term_TermO_2) :=
  ifb (decide (a1.Final = 103)) (
    ifb (decide (a2 = 0)) (
      bnd (F116 f a0.stops a0.kept.cursor.col) fun r1 =>
      some (({ a0 with stops := r1.1 } : term_TermO_2))) (
      ifb (decide (a2 = 3)) (
        bnd (F117 f a0.stops) fun r2 =>
        some (({ a0 with stops := r2 } : term_TermO_2))) (
        some (a0)))) (
    ifb (decide (a1.Final = 109)) (
      bnd (F118 f a0.kept.pen a1.Params) fun r3 =>
      some (({ a0 with kept := ({ a0.kept with pen := r3 } : term_kept) } : term_TermO_2))) (
      ifb (decide (a1.Final = 114)) (
        bnd (F119 f a0 a1) fun r4 =>
        some (r4)) (
        ifb (decide (a1.Final = 115)) (
          some (({ a0 with saved := a0.kept } : term_TermO_2))) (
          ifb (decide (a1.Final = 117)) (
            bnd (F82 f a0) fun r5 =>
            some (r5)) (
            ifb (decide (a1.Final = 110)) (
              bnd (F120 f a0 a2) fun r6 =>
              some (r6)) (
              ifb (decide (a1.Final = 99)) (
                ifb (decide (a2 = 0)) (
                  bnd (F121 f a0 [63, 54, 50, 99]) fun r7 =>
                  some (r7)) (
                  some (a0))) (
                ifb (decide (a1.Final = 104)) (
                  F87_p1 f a0 a1 (decide (a1.Final = 104))) (
                  F87_p1 f a0 a1 (decide (a1.Final = 108))))))))))
def v_F87 (a0 : term_TermO_2) (a1 : esc_Event) (a2 : Int) (y : term_TermO_2) : V :=
  .tup []
def e_F87 (a0 : term_TermO_2) (a1 : esc_Event) (a2 : Int) (y : term_TermO_2) : Env :=
  []
def x_F87 (a0 : term_TermO_2) (a1 : esc_Event) (a2 : Int) (y : term_TermO_2) : List (Option Blk) :=
  [some (B_term_TermO_2 1 3 5 7 9 14 y), some (B_grid_GridO 2 y.grids_0), some (blk_cell_Cell y.grids_0.l), some (B_grid_GridO 4 y.grids_1), some (blk_cell_Cell y.grids_1.l), some (B_tabs_StopsO_1 6 y.stops), some (boolB y.stops.at_), some (B_utf_DecoderO 8 y.signs), some (intB .u8 y.signs.b), some (B_esc_ParserO 10 11 12 y.asks), some (intB .i64 y.asks.params), some (intB .i32 y.asks.text), some (blk_esc_Event y.asks.out), none, some (intB .u8 y.reply)]
set_option maxRecDepth 100000 in
set_option maxHeartbeats 4000000 in
theorem F87_p1_ok {cx : Cx} {f : Nat} {a0 : term_TermO_2} {a1 : esc_Event} {a2 : Int} {x81_1 : Bool} {y : term_TermO_2} (h : F87_p1 f a0 a1 x81_1 = some y) :
    WM Tryz.prog G0 91 14 Tryz.f87.results.toList (v_F87 a0 a1 a2 y) (x_F87 a0 a1 a2 y) cx (nav [.r, .r, .r, .f, .r, .f, .r, .f, .r, .f, .r, .f, .r, .f, .r, .f, .r, .t, .n] [.code (bodyOf Tryz.f87)]) [(0, ⟨none, .p 0 0 0⟩), (4, ⟨none, .p 14 0 0⟩), (81, ⟨none, .b x81_1⟩)] [some (B_term_TermO_2 1 3 5 7 9 13 a0), some (B_grid_GridO 2 a0.grids_0), some (blk_cell_Cell a0.grids_0.l), some (B_grid_GridO 4 a0.grids_1), some (blk_cell_Cell a0.grids_1.l), some (B_tabs_StopsO_1 6 a0.stops), some (boolB a0.stops.at_), some (B_utf_DecoderO 8 a0.signs), some (intB .u8 a0.signs.b), some (B_esc_ParserO 10 11 12 a0.asks), some (intB .i64 a0.asks.params), some (intB .i32 a0.asks.text), some (blk_esc_Event a0.asks.out), some (intB .u8 a0.reply), some (blk_esc_Event [a1])] := by
  unfold F87_p1 at h
  rcases of_ifb h with ⟨h19, h⟩ | ⟨h19, h⟩
  · obtain ⟨r8, h20, h⟩ := of_bnd h
    replace h := Option.some.inj h
    subst h
    exact WM.retE mixed (e_F87 a0 a1 a2 (r8)) [T_, R_ [o_, o_, o_, o_, o_, o_, c_ (mkCall Tryz.call122 (F122_ok h20) [0, 1, 2, 3, 4, 5, 6, 7, 8, 9, 10, 11, 12, 13] (by kernel_rfl) (by kernel_rfl))]] [some 0, some 1, some 2, some 3, some 4, some 5, some 6, some 7, some 8, some 9, some 10, some 11, some 12, some 13, some 13] (pc ((h19 : x81_1 = true)) <| pc zlt1 <| pc zlt1 <| allP_nil) (by kernel_rfl) (by kernel_rfl)
  · replace h := Option.some.inj h
    subst h
    exact WM.retE mixed (e_F87 a0 a1 a2 (a0)) [F_] [some 0, some 1, some 2, some 3, some 4, some 5, some 6, some 7, some 8, some 9, some 10, some 11, some 12, some 13, some 13] (pc ((h19 : x81_1 = false)) <| allP_nil) (by kernel_rfl) (by kernel_rfl)
set_option maxRecDepth 100000 in
set_option maxHeartbeats 4000000 in
theorem F87_ok {f : Nat} {a0 : term_TermO_2} {a1 : esc_Event} {a2 : Int} {y : term_TermO_2} (h : F87 f a0 a1 a2 = some y) :
    Spec Tryz.prog G0 87 [.p 0 0 0, .agg [.i .i64 a1.Kind, .i .i32 a1.Rune, .ro Int 1 (fun n => [.i .i64 n]) 0 a1.Params, .i .i32 a1.Private, .i .i32 a1.Inter, .i .i32 a1.Final, .s a1.Text], .i .i64 a2] [some (B_term_TermO_2 1 3 5 7 9 13 a0), some (B_grid_GridO 2 a0.grids_0), some (blk_cell_Cell a0.grids_0.l), some (B_grid_GridO 4 a0.grids_1), some (blk_cell_Cell a0.grids_1.l), some (B_tabs_StopsO_1 6 a0.stops), some (boolB a0.stops.at_), some (B_utf_DecoderO 8 a0.signs), some (intB .u8 a0.signs.b), some (B_esc_ParserO 10 11 12 a0.asks), some (intB .i64 a0.asks.params), some (intB .i32 a0.asks.text), some (blk_esc_Event a0.asks.out), some (intB .u8 a0.reply)] (v_F87 a0 a1 a2 y) (x_F87 a0 a1 a2 y) :=
  Spec.ofM (fn := Tryz.f87) (c := bodyOf Tryz.f87) (n := 91) (rs := Tryz.f87.results.toList) Tryz.func87 (by kernel_rfl) (by kernel_rfl) (by kernel_rfl) (by kernel_rfl) fun cx => by
  unfold F87 at h
  rcases of_ifb h with ⟨h1, h⟩ | ⟨h1, h⟩
  · rcases of_ifb h with ⟨h2, h⟩ | ⟨h2, h⟩
    · obtain ⟨r1, h3, h⟩ := of_bnd h
      replace h := Option.some.inj h
      subst h
      exact WM.retE mixed (e_F87 a0 a1 a2 (({ a0 with stops := r1.1 } : term_TermO_2))) [R_ [.op (.fresh 14 ((⟨esc_Event, 7, enc_esc_Event, (fun _ => a1), zero_esc_Event, [a1]⟩ : Blk)))], R_ [o_, o_], R_ [o_, o_], T_, R_ [o_], R_ [o_, o_], T_, R_ [o_, o_, o_, o_, o_, o_, o_, o_, o_, o_, o_, o_, c_ (mkCall Tryz.call116 (F116_ok h3) [5, 6] (by kernel_rfl) (by kernel_rfl))]] [some 0, some 1, some 2, some 3, some 4, some 5, some 6, some 7, some 8, some 9, some 10, some 11, some 12, some 13, some 13] (pc zlt1 <| pc ((h1 : decide (a1.Final = 103) = true)) <| pc ((h2 : decide (a2 = 0) = true)) <| pc zlt1 <| pc zlt1 <| allP_nil) (by kernel_rfl) (by kernel_rfl)
    · rcases of_ifb h with ⟨h4, h⟩ | ⟨h4, h⟩
      · obtain ⟨r2, h5, h⟩ := of_bnd h
        replace h := Option.some.inj h
        subst h
        exact WM.retE mixed (e_F87 a0 a1 a2 (({ a0 with stops := r2 } : term_TermO_2))) [R_ [.op (.fresh 14 ((⟨esc_Event, 7, enc_esc_Event, (fun _ => a1), zero_esc_Event, [a1]⟩ : Blk)))], R_ [o_, o_], R_ [o_, o_], T_, R_ [o_], R_ [o_, o_], F_, R_ [o_, o_], T_, R_ [o_, o_, o_, o_, o_, c_ (mkCall Tryz.call117 (F117_ok h5) [5, 6] (by kernel_rfl) (by kernel_rfl))]] [some 0, some 1, some 2, some 3, some 4, some 5, some 6, some 7, some 8, some 9, some 10, some 11, some 12, some 13, some 13] (pc zlt1 <| pc ((h1 : decide (a1.Final = 103) = true)) <| pc ((h2 : decide (a2 = 0) = false)) <| pc ((h4 : decide (a2 = 3) = true)) <| pc zlt1 <| allP_nil) (by kernel_rfl) (by kernel_rfl)
      · replace h := Option.some.inj h
        subst h
        exact WM.retE mixed (e_F87 a0 a1 a2 (a0)) [R_ [.op (.fresh 14 ((⟨esc_Event, 7, enc_esc_Event, (fun _ => a1), zero_esc_Event, [a1]⟩ : Blk)))], R_ [o_, o_], R_ [o_, o_], T_, R_ [o_], R_ [o_, o_], F_, R_ [o_, o_], F_] [some 0, some 1, some 2, some 3, some 4, some 5, some 6, some 7, some 8, some 9, some 10, some 11, some 12, some 13, some 13] (pc zlt1 <| pc ((h1 : decide (a1.Final = 103) = true)) <| pc ((h2 : decide (a2 = 0) = false)) <| pc ((h4 : decide (a2 = 3) = false)) <| allP_nil) (by kernel_rfl) (by kernel_rfl)
  · rcases of_ifb h with ⟨h6, h⟩ | ⟨h6, h⟩
    · obtain ⟨r3, h7, h⟩ := of_bnd h
      replace h := Option.some.inj h
      subst h
      exact WM.retE mixed (e_F87 a0 a1 a2 (({ a0 with kept := ({ a0.kept with pen := r3 } : term_kept) } : term_TermO_2))) [R_ [.op (.fresh 14 ((⟨esc_Event, 7, enc_esc_Event, (fun _ => a1), zero_esc_Event, [a1]⟩ : Blk)))], R_ [o_, o_], R_ [o_, o_], F_, R_ [o_, o_], T_, R_ [o_, o_, o_, o_, o_, o_, o_, o_, o_, c_ (mkCall Tryz.call118 (F118_ok h7) [15] (by kernel_rfl) (by kernel_rfl)), o_, o_, o_, o_, o_]] [some 0, some 1, some 2, some 3, some 4, some 5, some 6, some 7, some 8, some 9, some 10, some 11, some 12, some 13, some 13] (pc zlt1 <| pc ((h1 : decide (a1.Final = 103) = false)) <| pc ((h6 : decide (a1.Final = 109) = true)) <| pc zlt1 <| pc zlt1 <| pc zlt1 <| allP_nil) (by kernel_rfl) (by kernel_rfl)
    · rcases of_ifb h with ⟨h8, h⟩ | ⟨h8, h⟩
      · obtain ⟨r4, h9, h⟩ := of_bnd h
        replace h := Option.some.inj h
        subst h
        exact WM.retE mixed (e_F87 a0 a1 a2 (r4)) [R_ [.op (.fresh 14 ((⟨esc_Event, 7, enc_esc_Event, (fun _ => a1), zero_esc_Event, [a1]⟩ : Blk)))], R_ [o_, o_], R_ [o_, o_], F_, R_ [o_, o_], F_, R_ [o_, o_], T_, R_ [o_, o_, c_ (mkCall Tryz.call119 (F119_ok h9) [0, 1, 2, 3, 4, 5, 6, 7, 8, 9, 10, 11, 12, 13] (by kernel_rfl) (by kernel_rfl))]] [some 0, some 1, some 2, some 3, some 4, some 5, some 6, some 7, some 8, some 9, some 10, some 11, some 12, some 13, some 13] (pc zlt1 <| pc ((h1 : decide (a1.Final = 103) = false)) <| pc ((h6 : decide (a1.Final = 109) = false)) <| pc ((h8 : decide (a1.Final = 114) = true)) <| pc zlt1 <| allP_nil) (by kernel_rfl) (by kernel_rfl)
      · rcases of_ifb h with ⟨h10, h⟩ | ⟨h10, h⟩
        · replace h := Option.some.inj h
          subst h
          exact WM.retE mixed (e_F87 a0 a1 a2 (({ a0 with saved := a0.kept } : term_TermO_2))) [R_ [.op (.fresh 14 ((⟨esc_Event, 7, enc_esc_Event, (fun _ => a1), zero_esc_Event, [a1]⟩ : Blk)))], R_ [o_, o_], R_ [o_, o_], F_, R_ [o_, o_], F_, R_ [o_, o_], F_, R_ [o_, o_], T_, R_ [o_, o_, o_, o_, o_, o_, o_, o_, o_, o_]] [some 0, some 1, some 2, some 3, some 4, some 5, some 6, some 7, some 8, some 9, some 10, some 11, some 12, some 13, some 13] (pc zlt1 <| pc ((h1 : decide (a1.Final = 103) = false)) <| pc ((h6 : decide (a1.Final = 109) = false)) <| pc ((h8 : decide (a1.Final = 114) = false)) <| pc ((h10 : decide (a1.Final = 115) = true)) <| pc zlt1 <| pc zlt1 <| allP_nil) (by kernel_rfl) (by kernel_rfl)
        · rcases of_ifb h with ⟨h11, h⟩ | ⟨h11, h⟩
          · obtain ⟨r5, h12, h⟩ := of_bnd h
            replace h := Option.some.inj h
            subst h
            exact WM.retE mixed (e_F87 a0 a1 a2 (r5)) [R_ [.op (.fresh 14 ((⟨esc_Event, 7, enc_esc_Event, (fun _ => a1), zero_esc_Event, [a1]⟩ : Blk)))], R_ [o_, o_], R_ [o_, o_], F_, R_ [o_, o_], F_, R_ [o_, o_], F_, R_ [o_, o_], F_, R_ [o_, o_], T_, R_ [o_, c_ (mkCall Tryz.call82 (F82_ok h12) [0, 1, 2, 3, 4, 5, 6, 7, 8, 9, 10, 11, 12, 13] (by kernel_rfl) (by kernel_rfl))]] [some 0, some 1, some 2, some 3, some 4, some 5, some 6, some 7, some 8, some 9, some 10, some 11, some 12, some 13, some 13] (pc zlt1 <| pc ((h1 : decide (a1.Final = 103) = false)) <| pc ((h6 : decide (a1.Final = 109) = false)) <| pc ((h8 : decide (a1.Final = 114) = false)) <| pc ((h10 : decide (a1.Final = 115) = false)) <| pc ((h11 : decide (a1.Final = 117) = true)) <| allP_nil) (by kernel_rfl) (by kernel_rfl)
          · rcases of_ifb h with ⟨h13, h⟩ | ⟨h13, h⟩
            · obtain ⟨r6, h14, h⟩ := of_bnd h
              replace h := Option.some.inj h
              subst h
              exact WM.retE mixed (e_F87 a0 a1 a2 (r6)) [R_ [.op (.fresh 14 ((⟨esc_Event, 7, enc_esc_Event, (fun _ => a1), zero_esc_Event, [a1]⟩ : Blk)))], R_ [o_, o_], R_ [o_, o_], F_, R_ [o_, o_], F_, R_ [o_, o_], F_, R_ [o_, o_], F_, R_ [o_, o_], F_, R_ [o_, o_], T_, R_ [o_, o_, c_ (mkCall Tryz.call120 (F120_ok h14) [0, 1, 2, 3, 4, 5, 6, 7, 8, 9, 10, 11, 12, 13, 15] (by kernel_rfl) (by kernel_rfl))]] [some 0, some 1, some 2, some 3, some 4, some 5, some 6, some 7, some 8, some 9, some 10, some 11, some 12, some 13, some 15] (pc zlt1 <| pc ((h1 : decide (a1.Final = 103) = false)) <| pc ((h6 : decide (a1.Final = 109) = false)) <| pc ((h8 : decide (a1.Final = 114) = false)) <| pc ((h10 : decide (a1.Final = 115) = false)) <| pc ((h11 : decide (a1.Final = 117) = false)) <| pc ((h13 : decide (a1.Final = 110) = true)) <| allP_nil) (by kernel_rfl) (by kernel_rfl)
            · rcases of_ifb h with ⟨h15, h⟩ | ⟨h15, h⟩
              · rcases of_ifb h with ⟨h16, h⟩ | ⟨h16, h⟩
                · obtain ⟨r7, h17, h⟩ := of_bnd h
                  replace h := Option.some.inj h
                  subst h
                  exact WM.retE mixed (e_F87 a0 a1 a2 (r7)) [R_ [.op (.fresh 14 ((⟨esc_Event, 7, enc_esc_Event, (fun _ => a1), zero_esc_Event, [a1]⟩ : Blk)))], R_ [o_, o_], R_ [o_, o_], F_, R_ [o_, o_], F_, R_ [o_, o_], F_, R_ [o_, o_], F_, R_ [o_, o_], F_, R_ [o_, o_], F_, R_ [o_, o_], T_, R_ [o_, o_], T_, R_ [o_, c_ (mkCall Tryz.call121 (F121_ok h17) [0, 1, 2, 3, 4, 5, 6, 7, 8, 9, 10, 11, 12, 13, 15] (by kernel_rfl) (by kernel_rfl))]] [some 0, some 1, some 2, some 3, some 4, some 5, some 6, some 7, some 8, some 9, some 10, some 11, some 12, some 13, some 15] (pc zlt1 <| pc ((h1 : decide (a1.Final = 103) = false)) <| pc ((h6 : decide (a1.Final = 109) = false)) <| pc ((h8 : decide (a1.Final = 114) = false)) <| pc ((h10 : decide (a1.Final = 115) = false)) <| pc ((h11 : decide (a1.Final = 117) = false)) <| pc ((h13 : decide (a1.Final = 110) = false)) <| pc ((h15 : decide (a1.Final = 99) = true)) <| pc ((h16 : decide (a2 = 0) = true)) <| allP_nil) (by kernel_rfl) (by kernel_rfl)
                · replace h := Option.some.inj h
                  subst h
                  exact WM.retE mixed (e_F87 a0 a1 a2 (a0)) [R_ [.op (.fresh 14 ((⟨esc_Event, 7, enc_esc_Event, (fun _ => a1), zero_esc_Event, [a1]⟩ : Blk)))], R_ [o_, o_], R_ [o_, o_], F_, R_ [o_, o_], F_, R_ [o_, o_], F_, R_ [o_, o_], F_, R_ [o_, o_], F_, R_ [o_, o_], F_, R_ [o_, o_], T_, R_ [o_, o_], F_] [some 0, some 1, some 2, some 3, some 4, some 5, some 6, some 7, some 8, some 9, some 10, some 11, some 12, some 13, some 13] (pc zlt1 <| pc ((h1 : decide (a1.Final = 103) = false)) <| pc ((h6 : decide (a1.Final = 109) = false)) <| pc ((h8 : decide (a1.Final = 114) = false)) <| pc ((h10 : decide (a1.Final = 115) = false)) <| pc ((h11 : decide (a1.Final = 117) = false)) <| pc ((h13 : decide (a1.Final = 110) = false)) <| pc ((h15 : decide (a1.Final = 99) = true)) <| pc ((h16 : decide (a2 = 0) = false)) <| allP_nil) (by kernel_rfl) (by kernel_rfl)
              · rcases of_ifb h with ⟨h18, h⟩ | ⟨h18, h⟩
                · exact WM.cut mixed [R_ [.op (.fresh 14 ((⟨esc_Event, 7, enc_esc_Event, (fun _ => a1), zero_esc_Event, [a1]⟩ : Blk)))], R_ [o_, o_], R_ [o_, o_], F_, R_ [o_, o_], F_, R_ [o_, o_], F_, R_ [o_, o_], F_, R_ [o_, o_], F_, R_ [o_, o_], F_, R_ [o_, o_], F_, R_ [o_, o_], T_] [some 0, some 1, some 2, some 3, some 4, some 5, some 6, some 7, some 8, some 9, some 10, some 11, some 12, some 13, some 14] (pc zlt1 <| pc ((h1 : decide (a1.Final = 103) = false)) <| pc ((h6 : decide (a1.Final = 109) = false)) <| pc ((h8 : decide (a1.Final = 114) = false)) <| pc ((h10 : decide (a1.Final = 115) = false)) <| pc ((h11 : decide (a1.Final = 117) = false)) <| pc ((h13 : decide (a1.Final = 110) = false)) <| pc ((h15 : decide (a1.Final = 99) = false)) <| pc ((h18 : decide (a1.Final = 104) = true)) <| allP_nil) (F87_p1_ok h) (by kernel_rfl)
                · exact WM.cut mixed [R_ [.op (.fresh 14 ((⟨esc_Event, 7, enc_esc_Event, (fun _ => a1), zero_esc_Event, [a1]⟩ : Blk)))], R_ [o_, o_], R_ [o_, o_], F_, R_ [o_, o_], F_, R_ [o_, o_], F_, R_ [o_, o_], F_, R_ [o_, o_], F_, R_ [o_, o_], F_, R_ [o_, o_], F_, R_ [o_, o_], F_, R_ [o_, o_]] [some 0, some 1, some 2, some 3, some 4, some 5, some 6, some 7, some 8, some 9, some 10, some 11, some 12, some 13, some 14] (pc zlt1 <| pc ((h1 : decide (a1.Final = 103) = false)) <| pc ((h6 : decide (a1.Final = 109) = false)) <| pc ((h8 : decide (a1.Final = 114) = false)) <| pc ((h10 : decide (a1.Final = 115) = false)) <| pc ((h11 : decide (a1.Final = 117) = false)) <| pc ((h13 : decide (a1.Final = 110) = false)) <| pc ((h15 : decide (a1.Final = 99) = false)) <| pc ((h18 : decide (a1.Final = 104) = false)) <| allP_nil) (F87_p1_ok h) (by kernel_rfl)

/-! ### F108: function 108 (*tickertape/term.Term).shows -/
def F108 (f : Nat) (a0 : term_TermO_2) (a1 : Int) (a2 : Bool) : Option (term_TermO_2) :=
  ifb (a2) (
    bnd (F13 f (cell_Attr.mk 0 0 0)) fun r1 =>
    bnd (F77 f a0.grids_1 r1) fun r2 =>
    some (({ a0 with grids_1 := r2, shown := a1 } : term_TermO_2))) (
    some (({ a0 with shown := a1 } : term_TermO_2)))
def v_F108 (a0 : term_TermO_2) (a1 : Int) (a2 : Bool) (y : term_TermO_2) : V :=
  .tup []
def e_F108 (a0 : term_TermO_2) (a1 : Int) (a2 : Bool) (y : term_TermO_2) : Env :=
  []
def x_F108 (a0 : term_TermO_2) (a1 : Int) (a2 : Bool) (y : term_TermO_2) : List (Option Blk) :=
  [some (B_term_TermO_2 1 3 5 7 9 13 y), some (B_grid_GridO 2 y.grids_0), some (blk_cell_Cell y.grids_0.l), some (B_grid_GridO 4 y.grids_1), some (blk_cell_Cell y.grids_1.l), some (B_tabs_StopsO_1 6 y.stops), some (boolB y.stops.at_), some (B_utf_DecoderO 8 y.signs), some (intB .u8 y.signs.b), some (B_esc_ParserO 10 11 12 y.asks), some (intB .i64 y.asks.params), some (intB .i32 y.asks.text), some (blk_esc_Event y.asks.out), some (intB .u8 y.reply)]
set_option maxRecDepth 100000 in
set_option maxHeartbeats 4000000 in
theorem F108_ok {f : Nat} {a0 : term_TermO_2} {a1 : Int} {a2 : Bool} {y : term_TermO_2} (h : F108 f a0 a1 a2 = some y) :
    Spec Tryz.prog G0 108 [.p 0 0 0, .i .i64 a1, .b a2] [some (B_term_TermO_2 1 3 5 7 9 13 a0), some (B_grid_GridO 2 a0.grids_0), some (blk_cell_Cell a0.grids_0.l), some (B_grid_GridO 4 a0.grids_1), some (blk_cell_Cell a0.grids_1.l), some (B_tabs_StopsO_1 6 a0.stops), some (boolB a0.stops.at_), some (B_utf_DecoderO 8 a0.signs), some (intB .u8 a0.signs.b), some (B_esc_ParserO 10 11 12 a0.asks), some (intB .i64 a0.asks.params), some (intB .i32 a0.asks.text), some (blk_esc_Event a0.asks.out), some (intB .u8 a0.reply)] (v_F108 a0 a1 a2 y) (x_F108 a0 a1 a2 y) :=
  Spec.ofM (fn := Tryz.f108) (c := bodyOf Tryz.f108) (n := 21) (rs := Tryz.f108.results.toList) Tryz.func108 (by kernel_rfl) (by kernel_rfl) (by kernel_rfl) (by kernel_rfl) fun cx => by
  unfold F108 at h
  rcases of_ifb h with ⟨h1, h⟩ | ⟨h1, h⟩
  · obtain ⟨r1, h2, h⟩ := of_bnd h
    obtain ⟨r2, h3, h⟩ := of_bnd h
    replace h := Option.some.inj h
    subst h
    exact WM.retE mixed (e_F108 a0 a1 a2 (({ a0 with grids_1 := r2, shown := a1 } : term_TermO_2))) [R_ [o_, o_, o_, o_, o_, o_], R_ [o_], T_, R_ [o_, o_, o_, o_, o_, o_, o_, c_ (mkCall Tryz.call13 (F13_ok h2) [14] (by kernel_rfl) (by kernel_rfl)), c_ (mkCall Tryz.call77 (F77_ok h3) [3, 4] (by kernel_rfl) (by kernel_rfl))]] [some 0, some 1, some 2, some 3, some 4, some 5, some 6, some 7, some 8, some 9, some 10, some 11, some 12, some 13] (pc zlt1 <| pc ((h1 : a2 = true)) <| pc ((by decide : (0 : Int) ≤ 1)) <| pc ((by decide : (1 : Int) < 2)) <| pc zlt1 <| allP_nil) (by kernel_rfl) (by kernel_rfl)
  · replace h := Option.some.inj h
    subst h
    exact WM.retE mixed (e_F108 a0 a1 a2 (({ a0 with shown := a1 } : term_TermO_2))) [R_ [o_, o_, o_, o_, o_, o_], R_ [o_], F_] [some 0, some 1, some 2, some 3, some 4, some 5, some 6, some 7, some 8, some 9, some 10, some 11, some 12, some 13] (pc zlt1 <| pc ((h1 : a2 = false)) <| allP_nil) (by kernel_rfl) (by kernel_rfl)

/-! ### F83: function 83 (*tickertape/term.Term).privates -/
def F83 (f : Nat) (a0 : term_TermO_2) (a1 : Int) (a2 : Bool) : Option (term_TermO_2) :=
  ifb (decide (a1 = 6)) (
    bnd (F79 f ({ a0 with kept := ({ a0.kept with origin := a2 } : term_kept) } : term_TermO_2) 0 0) fun r1 =>
    some (r1)) (
    ifb (decide (a1 = 7)) (
      some (({ a0 with kept := ({ a0.kept with cursor := ({ a0.kept.cursor with pending := (a0.kept.cursor.pending && a2) } : term_cursor) } : term_kept), unwraps := (!a2) } : term_TermO_2))) (
      ifb (decide (a1 = 25)) (
        some (({ a0 with hidden := (!a2) } : term_TermO_2))) (
        ifb (((decide (a1 = 47) || decide (a1 = 1047)) && a2)) (
          bnd (F108 f a0 1 false) fun r2 =>
          some (r2)) (
          ifb ((decide (a1 = 47) || decide (a1 = 1047))) (
            bnd (F108 f a0 0 (decide (a1 = 1047) && decide (a0.shown = 1))) fun r3 =>
            some (r3)) (
            ifb ((decide (a1 = 1049) && a2)) (
              bnd (F108 f ({ a0 with saved := a0.kept } : term_TermO_2) 1 true) fun r4 =>
              some (r4)) (
              ifb (decide (a1 = 1049)) (
                bnd (F108 f a0 0 false) fun r5 =>
                bnd (F82 f r5) fun r6 =>
                some (r6)) (
                some (a0))))))))
def v_F83 (a0 : term_TermO_2) (a1 : Int) (a2 : Bool) (y : term_TermO_2) : V :=
  .tup []
def e_F83 (a0 : term_TermO_2) (a1 : Int) (a2 : Bool) (y : term_TermO_2) : Env :=
  []
def x_F83 (a0 : term_TermO_2) (a1 : Int) (a2 : Bool) (y : term_TermO_2) : List (Option Blk) :=
  [some (B_term_TermO_2 1 3 5 7 9 13 y), some (B_grid_GridO 2 y.grids_0), some (blk_cell_Cell y.grids_0.l), some (B_grid_GridO 4 y.grids_1), some (blk_cell_Cell y.grids_1.l), some (B_tabs_StopsO_1 6 y.stops), some (boolB y.stops.at_), some (B_utf_DecoderO 8 y.signs), some (intB .u8 y.signs.b), some (B_esc_ParserO 10 11 12 y.asks), some (intB .i64 y.asks.params), some (intB .i32 y.asks.text), some (blk_esc_Event y.asks.out), some (intB .u8 y.reply)]
set_option maxRecDepth 100000 in
set_option maxHeartbeats 4000000 in
theorem F83_ok {f : Nat} {a0 : term_TermO_2} {a1 : Int} {a2 : Bool} {y : term_TermO_2} (h : F83 f a0 a1 a2 = some y) :
    Spec Tryz.prog G0 83 [.p 0 0 0, .i .i64 a1, .b a2] [some (B_term_TermO_2 1 3 5 7 9 13 a0), some (B_grid_GridO 2 a0.grids_0), some (blk_cell_Cell a0.grids_0.l), some (B_grid_GridO 4 a0.grids_1), some (blk_cell_Cell a0.grids_1.l), some (B_tabs_StopsO_1 6 a0.stops), some (boolB a0.stops.at_), some (B_utf_DecoderO 8 a0.signs), some (intB .u8 a0.signs.b), some (B_esc_ParserO 10 11 12 a0.asks), some (intB .i64 a0.asks.params), some (intB .i32 a0.asks.text), some (blk_esc_Event a0.asks.out), some (intB .u8 a0.reply)] (v_F83 a0 a1 a2 y) (x_F83 a0 a1 a2 y) :=
  Spec.ofM (fn := Tryz.f83) (c := bodyOf Tryz.f83) (n := 106) (rs := Tryz.f83.results.toList) Tryz.func83 (by kernel_rfl) (by kernel_rfl) (by kernel_rfl) (by kernel_rfl) fun cx => by
  unfold F83 at h
  rcases of_ifb h with ⟨h1, h⟩ | ⟨h1, h⟩
  · obtain ⟨r1, h2, h⟩ := of_bnd h
    replace h := Option.some.inj h
    subst h
    exact WM.retE mixed (e_F83 a0 a1 a2 (r1)) [R_ [o_, o_, o_], T_, R_ [o_, o_, o_, o_, o_, o_, o_], R_ [o_, c_ (mkCall Tryz.call79 (F79_ok h2) [0, 1, 2, 3, 4, 5, 6, 7, 8, 9, 10, 11, 12, 13] (by kernel_rfl) (by kernel_rfl))]] [some 0, some 1, some 2, some 3, some 4, some 5, some 6, some 7, some 8, some 9, some 10, some 11, some 12, some 13] (pc ((h1 : decide (a1 = 6) = true)) <| pc zlt1 <| allP_nil) (by kernel_rfl) (by kernel_rfl)
  · rcases of_ifb h with ⟨h3, h⟩ | ⟨h3, h⟩
    · replace h := Option.some.inj h
      subst h
      exact WM.retE mixed (e_F83 a0 a1 a2 (({ a0 with kept := ({ a0.kept with cursor := ({ a0.kept.cursor with pending := (a0.kept.cursor.pending && a2) } : term_cursor) } : term_kept), unwraps := (!a2) } : term_TermO_2))) [R_ [o_, o_, o_], F_, R_ [o_, o_, o_], T_, R_ [o_, o_, o_, o_, o_, o_, o_], R_ [o_, o_, o_, o_, o_, o_, o_, o_, o_, o_, o_, o_, o_, o_, o_, o_, o_]] [some 0, some 1, some 2, some 3, some 4, some 5, some 6, some 7, some 8, some 9, some 10, some 11, some 12, some 13] (pc ((h1 : decide (a1 = 6) = false)) <| pc ((h3 : decide (a1 = 7) = true)) <| pc zlt1 <| pc zlt1 <| pc ((fun k2 => k2 : (a0.kept.cursor.pending = true → a0.kept.cursor.pending = true))) <| pc zlt1 <| allP_nil) (by kernel_rfl) (by kernel_rfl)
    · rcases of_ifb h with ⟨h4, h⟩ | ⟨h4, h⟩
      · replace h := Option.some.inj h
        subst h
        exact WM.retE mixed (e_F83 a0 a1 a2 (({ a0 with hidden := (!a2) } : term_TermO_2))) [R_ [o_, o_, o_], F_, R_ [o_, o_, o_], F_, R_ [o_, o_, o_], T_, R_ [o_, o_, o_, o_, o_, o_, o_]] [some 0, some 1, some 2, some 3, some 4, some 5, some 6, some 7, some 8, some 9, some 10, some 11, some 12, some 13] (pc ((h1 : decide (a1 = 6) = false)) <| pc ((h3 : decide (a1 = 7) = false)) <| pc ((h4 : decide (a1 = 25) = true)) <| pc zlt1 <| allP_nil) (by kernel_rfl) (by kernel_rfl)
      · rcases of_ifb h with ⟨h5, h⟩ | ⟨h5, h⟩
        · obtain ⟨r2, h6, h⟩ := of_bnd h
          replace h := Option.some.inj h
          subst h
          exact WM.retE mixed (e_F83 a0 a1 a2 (r2)) [R_ [o_, o_, o_], F_, R_ [o_, o_, o_], F_, R_ [o_, o_, o_], F_, R_ [o_, o_, o_, o_, o_, o_, o_, o_, o_, o_], T_, R_ [o_, c_ (mkCall Tryz.call108 (F108_ok h6) [0, 1, 2, 3, 4, 5, 6, 7, 8, 9, 10, 11, 12, 13] (by kernel_rfl) (by kernel_rfl))]] [some 0, some 1, some 2, some 3, some 4, some 5, some 6, some 7, some 8, some 9, some 10, some 11, some 12, some 13] (pc ((h1 : decide (a1 = 6) = false)) <| pc ((h3 : decide (a1 = 7) = false)) <| pc ((h4 : decide (a1 = 25) = false)) <| pc ((fun h => h : ((!(decide (a1 = 47))) = true → (!(decide (a1 = 47))) = true))) <| pc ((fun k2 => (not_t k2) : (decide (a1 = 47) = false → (!(decide (a1 = 47))) = true))) <| pc ((fun k2 => k2 : ((decide (a1 = 47) || decide (a1 = 1047)) = true → (decide (a1 = 47) || decide (a1 = 1047)) = true))) <| pc ((h5 : ((decide (a1 = 47) || decide (a1 = 1047)) && a2) = true)) <| allP_nil) (by kernel_rfl) (by kernel_rfl)
        · rcases of_ifb h with ⟨h7, h⟩ | ⟨h7, h⟩
          · obtain ⟨r3, h8, h⟩ := of_bnd h
            replace h := Option.some.inj h
            subst h
            exact WM.retE mixed (e_F83 a0 a1 a2 (r3)) [R_ [o_, o_, o_], F_, R_ [o_, o_, o_], F_, R_ [o_, o_, o_], F_, R_ [o_, o_, o_, o_, o_, o_, o_, o_, o_, o_], F_, R_ [o_, o_, o_, o_, o_, o_, o_], T_, R_ [o_, o_, o_, o_, o_, o_, o_, o_, o_, o_, o_, c_ (mkCall Tryz.call108 (F108_ok h8) [0, 1, 2, 3, 4, 5, 6, 7, 8, 9, 10, 11, 12, 13] (by kernel_rfl) (by kernel_rfl))]] [some 0, some 1, some 2, some 3, some 4, some 5, some 6, some 7, some 8, some 9, some 10, some 11, some 12, some 13] (pc ((h1 : decide (a1 = 6) = false)) <| pc ((h3 : decide (a1 = 7) = false)) <| pc ((h4 : decide (a1 = 25) = false)) <| pc ((fun h => h : ((!(decide (a1 = 47))) = true → (!(decide (a1 = 47))) = true))) <| pc ((fun k2 => (not_t k2) : (decide (a1 = 47) = false → (!(decide (a1 = 47))) = true))) <| pc ((fun k2 => k2 : ((decide (a1 = 47) || decide (a1 = 1047)) = true → (decide (a1 = 47) || decide (a1 = 1047)) = true))) <| pc ((h5 : ((decide (a1 = 47) || decide (a1 = 1047)) && a2) = false)) <| pc ((fun h => h : ((!(decide (a1 = 47))) = true → (!(decide (a1 = 47))) = true))) <| pc ((fun k2 => (not_t k2) : (decide (a1 = 47) = false → (!(decide (a1 = 47))) = true))) <| pc ((h7 : (decide (a1 = 47) || decide (a1 = 1047)) = true)) <| pc ((fun h => h : (decide (a1 = 1047) = true → decide (a1 = 1047) = true))) <| pc ((fun h => h : (decide (a1 = 1047) = true → decide (a1 = 1047) = true))) <| pc ((fun h => h : (decide (a1 = 1047) = true → decide (a1 = 1047) = true))) <| pc ((fun h => h : (decide (a1 = 1047) = true → decide (a1 = 1047) = true))) <| pc ((fun _ => zlt1 : (decide (a1 = 1047) = true → 0 < 1))) <| pc ((fun h => h : (decide (a1 = 1047) = true → decide (a1 = 1047) = true))) <| pc ((fun k2 => k2 : (decide (a1 = 1047) = true → decide (a1 = 1047) = true))) <| allP_nil) (by kernel_rfl) (by kernel_rfl)
          · rcases of_ifb h with ⟨h9, h⟩ | ⟨h9, h⟩
            · obtain ⟨r4, h10, h⟩ := of_bnd h
              replace h := Option.some.inj h
              subst h
              exact WM.retE mixed (e_F83 a0 a1 a2 (r4)) [R_ [o_, o_, o_], F_, R_ [o_, o_, o_], F_, R_ [o_, o_, o_], F_, R_ [o_, o_, o_, o_, o_, o_, o_, o_, o_, o_], F_, R_ [o_, o_, o_, o_, o_, o_, o_], F_, R_ [o_, o_, o_, o_, o_, o_], T_, R_ [o_, o_, o_, o_, o_, o_, o_, o_, o_, o_], R_ [o_, c_ (mkCall Tryz.call108 (F108_ok h10) [0, 1, 2, 3, 4, 5, 6, 7, 8, 9, 10, 11, 12, 13] (by kernel_rfl) (by kernel_rfl))]] [some 0, some 1, some 2, some 3, some 4, some 5, some 6, some 7, some 8, some 9, some 10, some 11, some 12, some 13] (pc ((h1 : decide (a1 = 6) = false)) <| pc ((h3 : decide (a1 = 7) = false)) <| pc ((h4 : decide (a1 = 25) = false)) <| pc ((fun h => h : ((!(decide (a1 = 47))) = true → (!(decide (a1 = 47))) = true))) <| pc ((fun k2 => (not_t k2) : (decide (a1 = 47) = false → (!(decide (a1 = 47))) = true))) <| pc ((fun k2 => k2 : ((decide (a1 = 47) || decide (a1 = 1047)) = true → (decide (a1 = 47) || decide (a1 = 1047)) = true))) <| pc ((h5 : ((decide (a1 = 47) || decide (a1 = 1047)) && a2) = false)) <| pc ((fun h => h : ((!(decide (a1 = 47))) = true → (!(decide (a1 = 47))) = true))) <| pc ((fun k2 => (not_t k2) : (decide (a1 = 47) = false → (!(decide (a1 = 47))) = true))) <| pc ((h7 : (decide (a1 = 47) || decide (a1 = 1047)) = false)) <| pc ((fun k2 => k2 : (decide (a1 = 1049) = true → decide (a1 = 1049) = true))) <| pc ((h9 : (decide (a1 = 1049) && a2) = true)) <| pc zlt1 <| pc zlt1 <| allP_nil) (by kernel_rfl) (by kernel_rfl)
            · rcases of_ifb h with ⟨h11, h⟩ | ⟨h11, h⟩
              · obtain ⟨r5, h12, h⟩ := of_bnd h
                obtain ⟨r6, h13, h⟩ := of_bnd h
                replace h := Option.some.inj h
                subst h
                exact WM.retE mixed (e_F83 a0 a1 a2 (r6)) [R_ [o_, o_, o_], F_, R_ [o_, o_, o_], F_, R_ [o_, o_, o_], F_, R_ [o_, o_, o_, o_, o_, o_, o_, o_, o_, o_], F_, R_ [o_, o_, o_, o_, o_, o_, o_], F_, R_ [o_, o_, o_, o_, o_, o_], F_, R_ [o_, o_, o_], T_, R_ [o_, c_ (mkCall Tryz.call108 (F108_ok h12) [0, 1, 2, 3, 4, 5, 6, 7, 8, 9, 10, 11, 12, 13] (by kernel_rfl) (by kernel_rfl))], R_ [o_, c_ (mkCall Tryz.call82 (F82_ok h13) [0, 1, 2, 3, 4, 5, 6, 7, 8, 9, 10, 11, 12, 13] (by kernel_rfl) (by kernel_rfl))]] [some 0, some 1, some 2, some 3, some 4, some 5, some 6, some 7, some 8, some 9, some 10, some 11, some 12, some 13] (pc ((h1 : decide (a1 = 6) = false)) <| pc ((h3 : decide (a1 = 7) = false)) <| pc ((h4 : decide (a1 = 25) = false)) <| pc ((fun h => h : ((!(decide (a1 = 47))) = true → (!(decide (a1 = 47))) = true))) <| pc ((fun k2 => (not_t k2) : (decide (a1 = 47) = false → (!(decide (a1 = 47))) = true))) <| pc ((fun k2 => k2 : ((decide (a1 = 47) || decide (a1 = 1047)) = true → (decide (a1 = 47) || decide (a1 = 1047)) = true))) <| pc ((h5 : ((decide (a1 = 47) || decide (a1 = 1047)) && a2) = false)) <| pc ((fun h => h : ((!(decide (a1 = 47))) = true → (!(decide (a1 = 47))) = true))) <| pc ((fun k2 => (not_t k2) : (decide (a1 = 47) = false → (!(decide (a1 = 47))) = true))) <| pc ((h7 : (decide (a1 = 47) || decide (a1 = 1047)) = false)) <| pc ((fun k2 => k2 : (decide (a1 = 1049) = true → decide (a1 = 1049) = true))) <| pc ((h9 : (decide (a1 = 1049) && a2) = false)) <| pc ((h11 : decide (a1 = 1049) = true)) <| allP_nil) (by kernel_rfl) (by kernel_rfl)
              · replace h := Option.some.inj h
                subst h
                exact WM.retE mixed (e_F83 a0 a1 a2 (a0)) [R_ [o_, o_, o_], F_, R_ [o_, o_, o_], F_, R_ [o_, o_, o_], F_, R_ [o_, o_, o_, o_, o_, o_, o_, o_, o_, o_], F_, R_ [o_, o_, o_, o_, o_, o_, o_], F_, R_ [o_, o_, o_, o_, o_, o_], F_, R_ [o_, o_, o_], F_] [some 0, some 1, some 2, some 3, some 4, some 5, some 6, some 7, some 8, some 9, some 10, some 11, some 12, some 13] (pc ((h1 : decide (a1 = 6) = false)) <| pc ((h3 : decide (a1 = 7) = false)) <| pc ((h4 : decide (a1 = 25) = false)) <| pc ((fun h => h : ((!(decide (a1 = 47))) = true → (!(decide (a1 = 47))) = true))) <| pc ((fun k2 => (not_t k2) : (decide (a1 = 47) = false → (!(decide (a1 = 47))) = true))) <| pc ((fun k2 => k2 : ((decide (a1 = 47) || decide (a1 = 1047)) = true → (decide (a1 = 47) || decide (a1 = 1047)) = true))) <| pc ((h5 : ((decide (a1 = 47) || decide (a1 = 1047)) && a2) = false)) <| pc ((fun h => h : ((!(decide (a1 = 47))) = true → (!(decide (a1 = 47))) = true))) <| pc ((fun k2 => (not_t k2) : (decide (a1 = 47) = false → (!(decide (a1 = 47))) = true))) <| pc ((h7 : (decide (a1 = 47) || decide (a1 = 1047)) = false)) <| pc ((fun k2 => k2 : (decide (a1 = 1049) = true → decide (a1 = 1049) = true))) <| pc ((h9 : (decide (a1 = 1049) && a2) = false)) <| pc ((h11 : decide (a1 = 1049) = false)) <| allP_nil) (by kernel_rfl) (by kernel_rfl)

/-! ### F45: function 45 (*tickertape/term.Term).controls -/
def F45_p1_b (f : Nat) (g1 : term_TermO_2 → Int → Option (term_TermO_2)) (a1 : esc_Event) (a0_1 : term_TermO_2) (x51_1 : Int) : Option (term_TermO_2) :=
  ifb (decide (x51_1 < ((a1.Params.length : Nat) : Int))) (
    chk (0 ≤ x51_1) <|
    chk (x51_1 < ((a1.Params.length : Nat) : Int)) <|
    chk (x51_1.toNat < a1.Params.length) <|
    bnd (F83 f a0_1 (a1.Params.getD x51_1.toNat 0) (decide (a1.Final = 104))) fun r6 =>
    chk (inR (x51_1 + 1)) <|
    g1 r6 (x51_1 + 1)) (
    some (a0_1))
def F45_p1 (f : Nat) (a1 : esc_Event) : Nat → term_TermO_2 → Int → Option (term_TermO_2)
  | 0, _, _ => none
  | j + 1, a0_1, x51_1 => F45_p1_b f (F45_p1 f a1 j) a1 a0_1 x51_1
def F45 (f : Nat) (a0 : term_TermO_2) (a1 : esc_Event) : Option (term_TermO_2) :=
  ifb ((!(decide (a1.Inter = 0)))) (
    some (a0)) (
    ifb ((decide (a1.Private = 63) && (decide (a1.Final = 104) || decide (a1.Final = 108)))) (
      F45_p1 f a1 f a0 0) (
      ifb ((!(decide (a1.Private = 0)))) (
        some (a0)) (
        bnd (F84 f a1 0 1) fun r1 =>
        bnd (F84 f a1 0 0) fun r2 =>
        bnd (F85 f a0 a1 r1) fun r3 =>
        ifb ((!r3.2)) (
          bnd (F86 f r3.1 a1.Final r1 r2) fun r4 =>
          ifb ((!r4.2)) (
            bnd (F87 f r4.1 a1 r2) fun r5 =>
            some (r5)) (
            some (r4.1))) (
          some (r3.1)))))
def v_F45 (a0 : term_TermO_2) (a1 : esc_Event) (y : term_TermO_2) : V :=
  .tup []
def e_F45 (a0 : term_TermO_2) (a1 : esc_Event) (y : term_TermO_2) : Env :=
  []
def x_F45 (a0 : term_TermO_2) (a1 : esc_Event) (y : term_TermO_2) : List (Option Blk) :=
  [some (B_term_TermO_2 1 3 5 7 9 14 y), some (B_grid_GridO 2 y.grids_0), some (blk_cell_Cell y.grids_0.l), some (B_grid_GridO 4 y.grids_1), some (blk_cell_Cell y.grids_1.l), some (B_tabs_StopsO_1 6 y.stops), some (boolB y.stops.at_), some (B_utf_DecoderO 8 y.signs), some (intB .u8 y.signs.b), some (B_esc_ParserO 10 11 12 y.asks), some (intB .i64 y.asks.params), some (intB .i32 y.asks.text), some (blk_esc_Event y.asks.out), none, some (intB .u8 y.reply)]
set_option maxRecDepth 100000 in
set_option maxHeartbeats 4000000 in
theorem F45_p1_bok {cx : Cx} {f : Nat} {I1 : Act → World → Prop} {g1 : term_TermO_2 → Int → Option (term_TermO_2)} {a0 : term_TermO_2} {a1 : esc_Event} {a0_1 : term_TermO_2} {x51_1 : Int} {y : term_TermO_2} (hg1 : ∀ (a0_1 : term_TermO_2) (x51_1 : Int), g1 a0_1 x51_1 = some y → ∀ a w, cx.In G0 66 14 [(0, ⟨none, .p 0 0 0⟩), (3, ⟨none, .p 14 0 0⟩), (49, ⟨none, .ro Int 1 (fun n => [.i .i64 n]) 0 a1.Params⟩), (50, ⟨none, .i .i64 ((a1.Params.length : Nat) : Int)⟩), (51, ⟨none, .i .i64 x51_1⟩)] [some (B_term_TermO_2 1 3 5 7 9 13 a0_1), some (B_grid_GridO 2 a0_1.grids_0), some (blk_cell_Cell a0_1.grids_0.l), some (B_grid_GridO 4 a0_1.grids_1), some (blk_cell_Cell a0_1.grids_1.l), some (B_tabs_StopsO_1 6 a0_1.stops), some (boolB a0_1.stops.at_), some (B_utf_DecoderO 8 a0_1.signs), some (intB .u8 a0_1.signs.b), some (B_esc_ParserO 10 11 12 a0_1.asks), some (intB .i64 a0_1.asks.params), some (intB .i32 a0_1.asks.text), some (blk_esc_Event a0_1.asks.out), some (intB .u8 a0_1.reply), some (blk_esc_Event [a1])] a w → I1 a w) (h : F45_p1_b f g1 a1 a0_1 x51_1 = some y) :
    WM Tryz.prog G0 66 14 Tryz.f45.results.toList (v_F45 a0 a1 y) (x_F45 a0 a1 y) cx (nav [.r, .r, .f, .r, .t, .r, .l I1] [.code (bodyOf Tryz.f45)]) [(0, ⟨none, .p 0 0 0⟩), (3, ⟨none, .p 14 0 0⟩), (49, ⟨none, .ro Int 1 (fun n => [.i .i64 n]) 0 a1.Params⟩), (50, ⟨none, .i .i64 ((a1.Params.length : Nat) : Int)⟩), (51, ⟨none, .i .i64 x51_1⟩)] [some (B_term_TermO_2 1 3 5 7 9 13 a0_1), some (B_grid_GridO 2 a0_1.grids_0), some (blk_cell_Cell a0_1.grids_0.l), some (B_grid_GridO 4 a0_1.grids_1), some (blk_cell_Cell a0_1.grids_1.l), some (B_tabs_StopsO_1 6 a0_1.stops), some (boolB a0_1.stops.at_), some (B_utf_DecoderO 8 a0_1.signs), some (intB .u8 a0_1.signs.b), some (B_esc_ParserO 10 11 12 a0_1.asks), some (intB .i64 a0_1.asks.params), some (intB .i32 a0_1.asks.text), some (blk_esc_Event a0_1.asks.out), some (intB .u8 a0_1.reply), some (blk_esc_Event [a1])] := by
  unfold F45_p1_b at h
  rcases of_ifb h with ⟨h11, h⟩ | ⟨h11, h⟩
  · obtain ⟨h12, h⟩ := of_chk h
    obtain ⟨h13, h⟩ := of_chk h
    obtain ⟨h14, h⟩ := of_chk h
    obtain ⟨r6, h15, h⟩ := of_bnd h
    obtain ⟨h16, h⟩ := of_chk h
    exact WM.cut mixed [R_ [o_], T_, R_ [o_, o_, o_], R_ [o_, o_, o_, o_, o_, c_ (mkCall Tryz.call83 (F83_ok h15) [0, 1, 2, 3, 4, 5, 6, 7, 8, 9, 10, 11, 12, 13] (by kernel_rfl) (by kernel_rfl))], R_ [o_, o_]] [some 0, some 1, some 2, some 3, some 4, some 5, some 6, some 7, some 8, some 9, some 10, some 11, some 12, some 13, some 14] (pc ((h11 : decide (x51_1 < ((a1.Params.length : Nat) : Int)) = true)) <| pc h12 <| pc h13 <| pc h14 <| pc zlt1 <| pc h16 <| allP_nil) (WM.again (k := (nav [.r, .r, .f, .r, .t, .r, .n] [.code (bodyOf Tryz.f45)]).tail) (hg1 _ _ h)) (by kernel_rfl)
  · replace h := Option.some.inj h
    subst h
    exact WM.retE mixed (e_F45 a0 a1 (a0_1)) [R_ [o_], F_] [some 0, some 1, some 2, some 3, some 4, some 5, some 6, some 7, some 8, some 9, some 10, some 11, some 12, some 13, some 13] (pc ((h11 : decide (x51_1 < ((a1.Params.length : Nat) : Int)) = false)) <| allP_nil) (by kernel_rfl) (by kernel_rfl)
set_option maxRecDepth 100000 in
set_option maxHeartbeats 4000000 in
theorem F45_p1_ok {cx : Cx} {f : Nat} {a0 : term_TermO_2} {a1 : esc_Event} {a0_1 : term_TermO_2} {x51_1 : Int} {j : Nat} {y : term_TermO_2} (h : F45_p1 f a1 j a0_1 x51_1 = some y) :
    WM Tryz.prog G0 66 14 Tryz.f45.results.toList (v_F45 a0 a1 y) (x_F45 a0 a1 y) cx (nav [.r, .r, .f, .r, .t, .r, .n] [.code (bodyOf Tryz.f45)]) [(0, ⟨none, .p 0 0 0⟩), (3, ⟨none, .p 14 0 0⟩), (49, ⟨none, .ro Int 1 (fun n => [.i .i64 n]) 0 a1.Params⟩), (50, ⟨none, .i .i64 ((a1.Params.length : Nat) : Int)⟩), (51, ⟨none, .i .i64 x51_1⟩)] [some (B_term_TermO_2 1 3 5 7 9 13 a0_1), some (B_grid_GridO 2 a0_1.grids_0), some (blk_cell_Cell a0_1.grids_0.l), some (B_grid_GridO 4 a0_1.grids_1), some (blk_cell_Cell a0_1.grids_1.l), some (B_tabs_StopsO_1 6 a0_1.stops), some (boolB a0_1.stops.at_), some (B_utf_DecoderO 8 a0_1.signs), some (intB .u8 a0_1.signs.b), some (B_esc_ParserO 10 11 12 a0_1.asks), some (intB .i64 a0_1.asks.params), some (intB .i32 a0_1.asks.text), some (blk_esc_Event a0_1.asks.out), some (intB .u8 a0_1.reply), some (blk_esc_Event [a1])] := by
  refine WM.loopN (X := term_TermO_2 × Int) (y := y) (kb := fun I1 => (nav [.r, .r, .f, .r, .t, .r, .l I1] [.code (bodyOf Tryz.f45)])) (by intro I; kernel_rfl) (fun j x => F45_p1 f a1 j x.1 x.2) (fun x => [(0, ⟨none, .p 0 0 0⟩), (3, ⟨none, .p 14 0 0⟩), (49, ⟨none, .ro Int 1 (fun n => [.i .i64 n]) 0 a1.Params⟩), (50, ⟨none, .i .i64 ((a1.Params.length : Nat) : Int)⟩), (51, ⟨none, .i .i64 x.2⟩)]) (fun x => [some (B_term_TermO_2 1 3 5 7 9 13 x.1), some (B_grid_GridO 2 x.1.grids_0), some (blk_cell_Cell x.1.grids_0.l), some (B_grid_GridO 4 x.1.grids_1), some (blk_cell_Cell x.1.grids_1.l), some (B_tabs_StopsO_1 6 x.1.stops), some (boolB x.1.stops.at_), some (B_utf_DecoderO 8 x.1.signs), some (intB .u8 x.1.signs.b), some (B_esc_ParserO 10 11 12 x.1.asks), some (intB .i64 x.1.asks.params), some (intB .i32 x.1.asks.text), some (blk_esc_Event x.1.asks.out), some (intB .u8 x.1.reply), some (blk_esc_Event [a1])]) ?_ (j := j) (x := (a0_1, x51_1)) h
  intro j x I1 h hI
  cases j with
  | zero => cases h
  | succ j => exact F45_p1_bok (fun x0 x1 => hI j (x0, x1) (Nat.lt_succ_self j)) h
set_option maxRecDepth 100000 in
set_option maxHeartbeats 4000000 in
theorem F45_ok {f : Nat} {a0 : term_TermO_2} {a1 : esc_Event} {y : term_TermO_2} (h : F45 f a0 a1 = some y) :
    Spec Tryz.prog G0 45 [.p 0 0 0, .agg [.i .i64 a1.Kind, .i .i32 a1.Rune, .ro Int 1 (fun n => [.i .i64 n]) 0 a1.Params, .i .i32 a1.Private, .i .i32 a1.Inter, .i .i32 a1.Final, .s a1.Text]] [some (B_term_TermO_2 1 3 5 7 9 13 a0), some (B_grid_GridO 2 a0.grids_0), some (blk_cell_Cell a0.grids_0.l), some (B_grid_GridO 4 a0.grids_1), some (blk_cell_Cell a0.grids_1.l), some (B_tabs_StopsO_1 6 a0.stops), some (boolB a0.stops.at_), some (B_utf_DecoderO 8 a0.signs), some (intB .u8 a0.signs.b), some (B_esc_ParserO 10 11 12 a0.asks), some (intB .i64 a0.asks.params), some (intB .i32 a0.asks.text), some (blk_esc_Event a0.asks.out), some (intB .u8 a0.reply)] (v_F45 a0 a1 y) (x_F45 a0 a1 y) :=
  Spec.ofM (fn := Tryz.f45) (c := bodyOf Tryz.f45) (n := 66) (rs := Tryz.f45.results.toList) Tryz.func45 (by kernel_rfl) (by kernel_rfl) (by kernel_rfl) (by kernel_rfl) fun cx => by
  unfold F45 at h
  rcases of_ifb h with ⟨h1, h⟩ | ⟨h1, h⟩
  · replace h := Option.some.inj h
    subst h
    exact WM.retE mixed (e_F45 a0 a1 (a0)) [R_ [.op (.fresh 14 ((⟨esc_Event, 7, enc_esc_Event, (fun _ => a1), zero_esc_Event, [a1]⟩ : Blk)))], R_ [o_, o_, o_, o_], T_] [some 0, some 1, some 2, some 3, some 4, some 5, some 6, some 7, some 8, some 9, some 10, some 11, some 12, some 13, some 13] (pc zlt1 <| pc ((h1 : (!(decide (a1.Inter = 0))) = true)) <| allP_nil) (by kernel_rfl) (by kernel_rfl)
  · rcases of_ifb h with ⟨h2, h⟩ | ⟨h2, h⟩
    · exact WM.cut mixed [R_ [.op (.fresh 14 ((⟨esc_Event, 7, enc_esc_Event, (fun _ => a1), zero_esc_Event, [a1]⟩ : Blk)))], R_ [o_, o_, o_, o_], F_, R_ [o_, o_, o_, o_, o_, o_, o_, o_, o_, o_, o_, o_, o_, o_], T_, R_ [o_, o_, o_, o_]] [some 0, some 1, some 2, some 3, some 4, some 5, some 6, some 7, some 8, some 9, some 10, some 11, some 12, some 13, some 14] (pc zlt1 <| pc ((h1 : (!(decide (a1.Inter = 0))) = false)) <| pc zlt1 <| pc ((fun h => h : (decide (a1.Private = 63) = true → decide (a1.Private = 63) = true))) <| pc ((fun _ => zlt1 : (decide (a1.Private = 63) = true → 0 < 1))) <| pc ((fun h => h : (decide (a1.Private = 63) = true → decide (a1.Private = 63) = true))) <| pc ((fun h => h : (decide (a1.Private = 63) = true → decide (a1.Private = 63) = true))) <| pc ((fun h => h : ((decide (a1.Private = 63) && (!(decide (a1.Final = 104)))) = true → (decide (a1.Private = 63) && (!(decide (a1.Final = 104)))) = true))) <| pc ((fun _ => zlt1 : ((decide (a1.Private = 63) && (!(decide (a1.Final = 104)))) = true → 0 < 1))) <| pc ((fun h => h : ((decide (a1.Private = 63) && (!(decide (a1.Final = 104)))) = true → (decide (a1.Private = 63) && (!(decide (a1.Final = 104)))) = true))) <| pc ((fun h => h : (decide (a1.Private = 63) = true → decide (a1.Private = 63) = true))) <| pc ((fun k1 k2 => (and_t k1 (not_t k2)) : (decide (a1.Private = 63) = true → (decide (a1.Final = 104) = false → (decide (a1.Private = 63) && (!(decide (a1.Final = 104)))) = true)))) <| pc ((fun k2 => k2 : (decide (a1.Private = 63) = true → decide (a1.Private = 63) = true))) <| pc ((h2 : (decide (a1.Private = 63) && (decide (a1.Final = 104) || decide (a1.Final = 108))) = true)) <| pc zlt1 <| allP_nil) (F45_p1_ok h) (by kernel_rfl)
    · rcases of_ifb h with ⟨h3, h⟩ | ⟨h3, h⟩
      · replace h := Option.some.inj h
        subst h
        exact WM.retE mixed (e_F45 a0 a1 (a0)) [R_ [.op (.fresh 14 ((⟨esc_Event, 7, enc_esc_Event, (fun _ => a1), zero_esc_Event, [a1]⟩ : Blk)))], R_ [o_, o_, o_, o_], F_, R_ [o_, o_, o_, o_, o_, o_, o_, o_, o_, o_, o_, o_, o_, o_], F_, R_ [o_, o_, o_, o_], T_] [some 0, some 1, some 2, some 3, some 4, some 5, some 6, some 7, some 8, some 9, some 10, some 11, some 12, some 13, some 13] (pc zlt1 <| pc ((h1 : (!(decide (a1.Inter = 0))) = false)) <| pc zlt1 <| pc ((fun h => h : (decide (a1.Private = 63) = true → decide (a1.Private = 63) = true))) <| pc ((fun _ => zlt1 : (decide (a1.Private = 63) = true → 0 < 1))) <| pc ((fun h => h : (decide (a1.Private = 63) = true → decide (a1.Private = 63) = true))) <| pc ((fun h => h : (decide (a1.Private = 63) = true → decide (a1.Private = 63) = true))) <| pc ((fun h => h : ((decide (a1.Private = 63) && (!(decide (a1.Final = 104)))) = true → (decide (a1.Private = 63) && (!(decide (a1.Final = 104)))) = true))) <| pc ((fun _ => zlt1 : ((decide (a1.Private = 63) && (!(decide (a1.Final = 104)))) = true → 0 < 1))) <| pc ((fun h => h : ((decide (a1.Private = 63) && (!(decide (a1.Final = 104)))) = true → (decide (a1.Private = 63) && (!(decide (a1.Final = 104)))) = true))) <| pc ((fun h => h : (decide (a1.Private = 63) = true → decide (a1.Private = 63) = true))) <| pc ((fun k1 k2 => (and_t k1 (not_t k2)) : (decide (a1.Private = 63) = true → (decide (a1.Final = 104) = false → (decide (a1.Private = 63) && (!(decide (a1.Final = 104)))) = true)))) <| pc ((fun k2 => k2 : (decide (a1.Private = 63) = true → decide (a1.Private = 63) = true))) <| pc ((h2 : (decide (a1.Private = 63) && (decide (a1.Final = 104) || decide (a1.Final = 108))) = false)) <| pc zlt1 <| pc ((h3 : (!(decide (a1.Private = 0))) = true)) <| allP_nil) (by kernel_rfl) (by kernel_rfl)
      · obtain ⟨r1, h4, h⟩ := of_bnd h
        obtain ⟨r2, h5, h⟩ := of_bnd h
        obtain ⟨r3, h6, h⟩ := of_bnd h
        rcases of_ifb h with ⟨h7, h⟩ | ⟨h7, h⟩
        · obtain ⟨r4, h8, h⟩ := of_bnd h
          rcases of_ifb h with ⟨h9, h⟩ | ⟨h9, h⟩
          · obtain ⟨r5, h10, h⟩ := of_bnd h
            replace h := Option.some.inj h
            subst h
            exact WM.retE mixed (e_F45 a0 a1 (r5)) [R_ [.op (.fresh 14 ((⟨esc_Event, 7, enc_esc_Event, (fun _ => a1), zero_esc_Event, [a1]⟩ : Blk)))], R_ [o_, o_, o_, o_], F_, R_ [o_, o_, o_, o_, o_, o_, o_, o_, o_, o_, o_, o_, o_, o_], F_, R_ [o_, o_, o_, o_], F_, R_ [o_, c_ (mkCall Tryz.call84 (F84_ok h4) [] (by kernel_rfl) (by kernel_rfl)), o_, c_ (mkCall Tryz.call84 (F84_ok h5) [] (by kernel_rfl) (by kernel_rfl)), o_, o_], R_ [o_, o_, o_, c_ (mkCall Tryz.call85 (F85_ok h6) [0, 1, 2, 3, 4, 5, 6, 7, 8, 9, 10, 11, 12, 13] (by kernel_rfl) (by kernel_rfl)), o_, o_, o_, o_, o_, o_, o_, c_ (mkCall Tryz.call86 (F86_ok h8) [0, 1, 2, 3, 4, 5, 6, 7, 8, 9, 10, 11, 12, 13] (by kernel_rfl) (by kernel_rfl)), m_, .pk true], T_, R_ [o_, o_, o_, c_ (mkCall Tryz.call87 (F87_ok h10) [0, 1, 2, 3, 4, 5, 6, 7, 8, 9, 10, 11, 12, 13, 15] (by kernel_rfl) (by kernel_rfl))]] [some 0, some 1, some 2, some 3, some 4, some 5, some 6, some 7, some 8, some 9, some 10, some 11, some 12, some 13, some 15] (pc zlt1 <| pc ((h1 : (!(decide (a1.Inter = 0))) = false)) <| pc zlt1 <| pc ((fun h => h : (decide (a1.Private = 63) = true → decide (a1.Private = 63) = true))) <| pc ((fun _ => zlt1 : (decide (a1.Private = 63) = true → 0 < 1))) <| pc ((fun h => h : (decide (a1.Private = 63) = true → decide (a1.Private = 63) = true))) <| pc ((fun h => h : (decide (a1.Private = 63) = true → decide (a1.Private = 63) = true))) <| pc ((fun h => h : ((decide (a1.Private = 63) && (!(decide (a1.Final = 104)))) = true → (decide (a1.Private = 63) && (!(decide (a1.Final = 104)))) = true))) <| pc ((fun _ => zlt1 : ((decide (a1.Private = 63) && (!(decide (a1.Final = 104)))) = true → 0 < 1))) <| pc ((fun h => h : ((decide (a1.Private = 63) && (!(decide (a1.Final = 104)))) = true → (decide (a1.Private = 63) && (!(decide (a1.Final = 104)))) = true))) <| pc ((fun h => h : (decide (a1.Private = 63) = true → decide (a1.Private = 63) = true))) <| pc ((fun k1 k2 => (and_t k1 (not_t k2)) : (decide (a1.Private = 63) = true → (decide (a1.Final = 104) = false → (decide (a1.Private = 63) && (!(decide (a1.Final = 104)))) = true)))) <| pc ((fun k2 => k2 : (decide (a1.Private = 63) = true → decide (a1.Private = 63) = true))) <| pc ((h2 : (decide (a1.Private = 63) && (decide (a1.Final = 104) || decide (a1.Final = 108))) = false)) <| pc zlt1 <| pc ((h3 : (!(decide (a1.Private = 0))) = false)) <| pc zlt1 <| pc zlt1 <| pc zlt1 <| pc ((fun h => h : ((!r3.2) = true → (!r3.2) = true))) <| pc ((fun _ => zlt1 : ((!r3.2) = true → 0 < 1))) <| pc ((h7 : (!r3.2) = true)) <| pc ((h7 : (!r3.2) = true)) <| pc ((h7 : (!r3.2) = true)) <| pc ((h7 : (!r3.2) = true)) <| pc ((h7 : (!r3.2) = true)) <| pc ((h7 : (!r3.2) = true)) <| pc ((h7 : (!r3.2) = true)) <| pc ((h9 : (!r4.2) = true)) <| pc zlt1 <| allP_nil) (by kernel_rfl) (by kernel_rfl)
          · replace h := Option.some.inj h
            subst h
            exact WM.retE mixed (e_F45 a0 a1 (r4.1)) [R_ [.op (.fresh 14 ((⟨esc_Event, 7, enc_esc_Event, (fun _ => a1), zero_esc_Event, [a1]⟩ : Blk)))], R_ [o_, o_, o_, o_], F_, R_ [o_, o_, o_, o_, o_, o_, o_, o_, o_, o_, o_, o_, o_, o_], F_, R_ [o_, o_, o_, o_], F_, R_ [o_, c_ (mkCall Tryz.call84 (F84_ok h4) [] (by kernel_rfl) (by kernel_rfl)), o_, c_ (mkCall Tryz.call84 (F84_ok h5) [] (by kernel_rfl) (by kernel_rfl)), o_, o_], R_ [o_, o_, o_, c_ (mkCall Tryz.call85 (F85_ok h6) [0, 1, 2, 3, 4, 5, 6, 7, 8, 9, 10, 11, 12, 13] (by kernel_rfl) (by kernel_rfl)), o_, o_, o_, o_, o_, o_, o_, c_ (mkCall Tryz.call86 (F86_ok h8) [0, 1, 2, 3, 4, 5, 6, 7, 8, 9, 10, 11, 12, 13] (by kernel_rfl) (by kernel_rfl)), m_, .pk true], F_] [some 0, some 1, some 2, some 3, some 4, some 5, some 6, some 7, some 8, some 9, some 10, some 11, some 12, some 13, some 13] (pc zlt1 <| pc ((h1 : (!(decide (a1.Inter = 0))) = false)) <| pc zlt1 <| pc ((fun h => h : (decide (a1.Private = 63) = true → decide (a1.Private = 63) = true))) <| pc ((fun _ => zlt1 : (decide (a1.Private = 63) = true → 0 < 1))) <| pc ((fun h => h : (decide (a1.Private = 63) = true → decide (a1.Private = 63) = true))) <| pc ((fun h => h : (decide (a1.Private = 63) = true → decide (a1.Private = 63) = true))) <| pc ((fun h => h : ((decide (a1.Private = 63) && (!(decide (a1.Final = 104)))) = true → (decide (a1.Private = 63) && (!(decide (a1.Final = 104)))) = true))) <| pc ((fun _ => zlt1 : ((decide (a1.Private = 63) && (!(decide (a1.Final = 104)))) = true → 0 < 1))) <| pc ((fun h => h : ((decide (a1.Private = 63) && (!(decide (a1.Final = 104)))) = true → (decide (a1.Private = 63) && (!(decide (a1.Final = 104)))) = true))) <| pc ((fun h => h : (decide (a1.Private = 63) = true → decide (a1.Private = 63) = true))) <| pc ((fun k1 k2 => (and_t k1 (not_t k2)) : (decide (a1.Private = 63) = true → (decide (a1.Final = 104) = false → (decide (a1.Private = 63) && (!(decide (a1.Final = 104)))) = true)))) <| pc ((fun k2 => k2 : (decide (a1.Private = 63) = true → decide (a1.Private = 63) = true))) <| pc ((h2 : (decide (a1.Private = 63) && (decide (a1.Final = 104) || decide (a1.Final = 108))) = false)) <| pc zlt1 <| pc ((h3 : (!(decide (a1.Private = 0))) = false)) <| pc zlt1 <| pc zlt1 <| pc zlt1 <| pc ((fun h => h : ((!r3.2) = true → (!r3.2) = true))) <| pc ((fun _ => zlt1 : ((!r3.2) = true → 0 < 1))) <| pc ((h7 : (!r3.2) = true)) <| pc ((h7 : (!r3.2) = true)) <| pc ((h7 : (!r3.2) = true)) <| pc ((h7 : (!r3.2) = true)) <| pc ((h7 : (!r3.2) = true)) <| pc ((h7 : (!r3.2) = true)) <| pc ((h7 : (!r3.2) = true)) <| pc ((h9 : (!r4.2) = false)) <| allP_nil) (by kernel_rfl) (by kernel_rfl)
        · replace h := Option.some.inj h
          subst h
          exact WM.retE mixed (e_F45 a0 a1 (r3.1)) [R_ [.op (.fresh 14 ((⟨esc_Event, 7, enc_esc_Event, (fun _ => a1), zero_esc_Event, [a1]⟩ : Blk)))], R_ [o_, o_, o_, o_], F_, R_ [o_, o_, o_, o_, o_, o_, o_, o_, o_, o_, o_, o_, o_, o_], F_, R_ [o_, o_, o_, o_], F_, R_ [o_, c_ (mkCall Tryz.call84 (F84_ok h4) [] (by kernel_rfl) (by kernel_rfl)), o_, c_ (mkCall Tryz.call84 (F84_ok h5) [] (by kernel_rfl) (by kernel_rfl)), o_, o_], R_ [o_, o_, o_, c_ (mkCall Tryz.call85 (F85_ok h6) [0, 1, 2, 3, 4, 5, 6, 7, 8, 9, 10, 11, 12, 13] (by kernel_rfl) (by kernel_rfl)), o_, o_, o_, o_, o_, o_, o_, s_, s_, .pk false], F_] [some 0, some 1, some 2, some 3, some 4, some 5, some 6, some 7, some 8, some 9, some 10, some 11, some 12, some 13, some 13] (pc zlt1 <| pc ((h1 : (!(decide (a1.Inter = 0))) = false)) <| pc zlt1 <| pc ((fun h => h : (decide (a1.Private = 63) = true → decide (a1.Private = 63) = true))) <| pc ((fun _ => zlt1 : (decide (a1.Private = 63) = true → 0 < 1))) <| pc ((fun h => h : (decide (a1.Private = 63) = true → decide (a1.Private = 63) = true))) <| pc ((fun h => h : (decide (a1.Private = 63) = true → decide (a1.Private = 63) = true))) <| pc ((fun h => h : ((decide (a1.Private = 63) && (!(decide (a1.Final = 104)))) = true → (decide (a1.Private = 63) && (!(decide (a1.Final = 104)))) = true))) <| pc ((fun _ => zlt1 : ((decide (a1.Private = 63) && (!(decide (a1.Final = 104)))) = true → 0 < 1))) <| pc ((fun h => h : ((decide (a1.Private = 63) && (!(decide (a1.Final = 104)))) = true → (decide (a1.Private = 63) && (!(decide (a1.Final = 104)))) = true))) <| pc ((fun h => h : (decide (a1.Private = 63) = true → decide (a1.Private = 63) = true))) <| pc ((fun k1 k2 => (and_t k1 (not_t k2)) : (decide (a1.Private = 63) = true → (decide (a1.Final = 104) = false → (decide (a1.Private = 63) && (!(decide (a1.Final = 104)))) = true)))) <| pc ((fun k2 => k2 : (decide (a1.Private = 63) = true → decide (a1.Private = 63) = true))) <| pc ((h2 : (decide (a1.Private = 63) && (decide (a1.Final = 104) || decide (a1.Final = 108))) = false)) <| pc zlt1 <| pc ((h3 : (!(decide (a1.Private = 0))) = false)) <| pc zlt1 <| pc zlt1 <| pc zlt1 <| pc ((fun h => h : ((!r3.2) = true → (!r3.2) = true))) <| pc ((fun _ => zlt1 : ((!r3.2) = true → 0 < 1))) <| pc ((h7 : (!r3.2) = false)) <| pc ((h7 : (!r3.2) = false)) <| pc ((h7 : (!r3.2) = false)) <| pc ((rfl : false = false)) <| allP_nil) (by kernel_rfl) (by kernel_rfl)

/-! ### F46: function 46 (*tickertape/term.Term).names -/
def F46_p1_b (f : Nat) (g1 : List Int → Nat → (List Int) → Option (term_TermO_2)) (a0 : term_TermO_2) (rest1_ : List Int) (x4_n_1 : Nat) (x4_1 : List Int) : Option (term_TermO_2) :=
  match rest1_ with
  | [] =>
    chk ((0 + x4_n_1) ≤ x4_1.length) <|
    some (({ a0 with title := ((ints ((x4_1.drop 0).take x4_n_1)).flatMap utf8) } : term_TermO_2))
  | c1 :: rest1 =>
    ifb (((decide (c1 ≥ 32) && (decide (c1 < 127) || decide (c1 > 159))) && decide (((x4_n_1 : Nat) : Int) < 64))) (
      chk (x4_n_1 = x4_1.length) <|
      chk (((((x4_n_1 + 1)) * 4 : Nat) : Int) ≤ 140737488355328) <|
      (g1 rest1) (x4_n_1 + 1) (x4_1 ++ [c1])) (
      (g1 rest1) x4_n_1 x4_1)
def F46_p1 (f : Nat) (a0 : term_TermO_2) : Nat → List Int → Nat → (List Int) → Option (term_TermO_2)
  | 0, _, _, _ => none
  | j + 1, rest1_, x4_n_1, x4_1 => F46_p1_b f (F46_p1 f a0 j) a0 rest1_ x4_n_1 x4_1
def F46 (f : Nat) (a0 : term_TermO_2) (a1 : List Int) : Option (term_TermO_2) :=
  chk (((!(decide ((a1.length : Int) < 2))) = true → (0 : Int) ≤ 2)) <|
  chk (((!(decide ((a1.length : Int) < 2))) = true → 2 ≤ (a1.length : Int))) <|
  chk ((((!(decide ((a1.length : Int) < 2))) && (!(decide ((a1.take 2) = [48, 59])))) = true → (0 : Int) ≤ 2)) <|
  chk ((((!(decide ((a1.length : Int) < 2))) && (!(decide ((a1.take 2) = [48, 59])))) = true → 2 ≤ (a1.length : Int))) <|
  ifb ((decide ((a1.length : Int) < 2) || ((!(decide ((a1.take 2) = [48, 59]))) && (!(decide ((a1.take 2) = [50, 59])))))) (
    some (a0)) (
    chk (2 ≤ (a1.length : Int)) <|
    F46_p1 f a0 f (runesOf (a1.drop 2)) 0 [])
def v_F46 (a0 : term_TermO_2) (a1 : List Int) (y : term_TermO_2) : V :=
  .tup []
def e_F46 (a0 : term_TermO_2) (a1 : List Int) (y : term_TermO_2) : Env :=
  []
def x_F46 (a0 : term_TermO_2) (a1 : List Int) (y : term_TermO_2) : List (Option Blk) :=
  [some (B_term_TermO_2 1 3 5 7 9 13 y), some (B_grid_GridO 2 y.grids_0), some (blk_cell_Cell y.grids_0.l), some (B_grid_GridO 4 y.grids_1), some (blk_cell_Cell y.grids_1.l), some (B_tabs_StopsO_1 6 y.stops), some (boolB y.stops.at_), some (B_utf_DecoderO 8 y.signs), some (intB .u8 y.signs.b), some (B_esc_ParserO 10 11 12 y.asks), some (intB .i64 y.asks.params), some (intB .i32 y.asks.text), some (blk_esc_Event y.asks.out), some (intB .u8 y.reply)]
set_option maxRecDepth 100000 in
set_option maxHeartbeats 4000000 in
theorem F46_p1_bok {cx : Cx} {f : Nat} {I1 : Act → World → Prop} {g1 : List Int → Nat → (List Int) → Option (term_TermO_2)} {a0 : term_TermO_2} {a1 : List Int} {it1 : Nat} {x4_n_1 : Nat} {x4_1 : List Int} {rest1_ : List Int} {y : term_TermO_2} (hg1 : ∀ (r_ : List Int) (x4_n_1 : Nat) (x4_1 : List Int), g1 r_ x4_n_1 x4_1 = some y → ∀ s pos, iterR s pos r_ → ∀ a w, (cx.it it1 s pos).In G0 51 14 [(0, ⟨none, .p 0 0 0⟩), (4, ⟨none, .sl 14 0 x4_n_1⟩), (22, ⟨none, .val (ptrV it1)⟩)] [some (B_term_TermO_2 1 3 5 7 9 13 a0), some (B_grid_GridO 2 a0.grids_0), some (blk_cell_Cell a0.grids_0.l), some (B_grid_GridO 4 a0.grids_1), some (blk_cell_Cell a0.grids_1.l), some (B_tabs_StopsO_1 6 a0.stops), some (boolB a0.stops.at_), some (B_utf_DecoderO 8 a0.signs), some (intB .u8 a0.signs.b), some (B_esc_ParserO 10 11 12 a0.asks), some (intB .i64 a0.asks.params), some (intB .i32 a0.asks.text), some (blk_esc_Event a0.asks.out), some (intB .u8 a0.reply), some (intB .i32 x4_1)] a w → I1 a w) (h : F46_p1_b f g1 a0 rest1_ x4_n_1 x4_1 = some y) :
    WMI Tryz.prog G0 51 14 Tryz.f46.results.toList (v_F46 a0 a1 y) (x_F46 a0 a1 y) cx it1 rest1_ (nav [.r, .f, .r, .r, .l I1] [.code (bodyOf Tryz.f46)]) [(0, ⟨none, .p 0 0 0⟩), (4, ⟨none, .sl 14 0 x4_n_1⟩), (22, ⟨none, .val (ptrV it1)⟩)] [some (B_term_TermO_2 1 3 5 7 9 13 a0), some (B_grid_GridO 2 a0.grids_0), some (blk_cell_Cell a0.grids_0.l), some (B_grid_GridO 4 a0.grids_1), some (blk_cell_Cell a0.grids_1.l), some (B_tabs_StopsO_1 6 a0.stops), some (boolB a0.stops.at_), some (B_utf_DecoderO 8 a0.signs), some (intB .u8 a0.signs.b), some (B_esc_ParserO 10 11 12 a0.asks), some (intB .i64 a0.asks.params), some (intB .i32 a0.asks.text), some (blk_esc_Event a0.asks.out), some (intB .u8 a0.reply), some (intB .i32 x4_1)] := by
  unfold F46_p1_b at h
  refine WMI.cut (E' := [(0, ⟨none, .p 0 0 0⟩), (4, ⟨none, .sl 14 0 x4_n_1⟩), (22, ⟨none, .val (ptrV it1)⟩)]) (hs' := [some (B_term_TermO_2 1 3 5 7 9 13 a0), some (B_grid_GridO 2 a0.grids_0), some (blk_cell_Cell a0.grids_0.l), some (B_grid_GridO 4 a0.grids_1), some (blk_cell_Cell a0.grids_1.l), some (B_tabs_StopsO_1 6 a0.stops), some (boolB a0.stops.at_), some (B_utf_DecoderO 8 a0.signs), some (intB .u8 a0.signs.b), some (B_esc_ParserO 10 11 12 a0.asks), some (intB .i64 a0.asks.params), some (intB .i32 a0.asks.text), some (blk_esc_Event a0.asks.out), some (intB .u8 a0.reply), some (intB .i32 x4_1)]) (k' := (nav [.r, .f, .r, .r, .l I1, .n] [.code (bodyOf Tryz.f46)])) mixed [] [some 0, some 1, some 2, some 3, some 4, some 5, some 6, some 7, some 8, some 9, some 10, some 11, some 12, some 13, some 14] allP_nil ?_ (by kernel_rfl)
  refine WMI.next (k := (nav [.r, .f, .r, .r, .l I1, .n] [.code (bodyOf Tryz.f46)]).tail) (c := hcode (nav [.r, .f, .r, .r, .l I1, .n] [.code (bodyOf Tryz.f46)])) (ti := 22) (t := 23) (t' := 24) (by kernel_rfl) (by kernel_rfl) (by kernel_rfl) ?_ ?_
  · intro hz
    subst hz
    dsimp only at h
    obtain ⟨h7, h⟩ := of_chk h
    replace h := Option.some.inj h
    subst h
    exact WM.retE mixed (e_F46 a0 a1 (({ a0 with title := ((ints ((x4_1.drop 0).take x4_n_1)).flatMap utf8) } : term_TermO_2))) [F_, R_ [o_, o_, o_, o_, o_, o_, o_]] [some 0, some 1, some 2, some 3, some 4, some 5, some 6, some 7, some 8, some 9, some 10, some 11, some 12, some 13] (pc ((rfl : false = false)) <| pc h7 <| pc zlt1 <| allP_nil) (by kernel_rfl) (by kernel_rfl)
  · intro c1 rest1 hz s pos hF hρ hi
    subst hz
    dsimp only at h
    rcases of_ifb h with ⟨h8, h⟩ | ⟨h8, h⟩
    · obtain ⟨h9, h⟩ := of_chk h
      obtain ⟨h10, h⟩ := of_chk h
      exact WM.cut mixed [T_, R_ [o_, o_], R_ [o_, o_, o_, o_, o_, o_, o_, o_, o_, o_, o_, o_, o_, o_, o_], T_, R_ [o_, o_, .op (.fresh 15 (intB .i32 [c1])), .op (.fresh 16 (intB .u8 [])), o_]] [some 0, some 1, some 2, some 3, some 4, some 5, some 6, some 7, some 8, some 9, some 10, some 11, some 12, some 13, some 16] (pc ((rfl : true = true)) <| pc ((fun h => h : (decide (c1 ≥ 32) = true → decide (c1 ≥ 32) = true))) <| pc ((fun h => h : (decide (c1 ≥ 32) = true → decide (c1 ≥ 32) = true))) <| pc ((fun h => h : ((decide (c1 ≥ 32) && (!(decide (c1 < 127)))) = true → (decide (c1 ≥ 32) && (!(decide (c1 < 127)))) = true))) <| pc ((fun h => h : (decide (c1 ≥ 32) = true → decide (c1 ≥ 32) = true))) <| pc ((fun k1 k2 => (and_t k1 (not_t k2)) : (decide (c1 ≥ 32) = true → (decide (c1 < 127) = false → (decide (c1 ≥ 32) && (!(decide (c1 < 127)))) = true)))) <| pc ((fun k2 => k2 : (decide (c1 ≥ 32) = true → decide (c1 ≥ 32) = true))) <| pc ((fun h => h : ((decide (c1 ≥ 32) && (decide (c1 < 127) || decide (c1 > 159))) = true → (decide (c1 ≥ 32) && (decide (c1 < 127) || decide (c1 > 159))) = true))) <| pc ((fun h => h : ((decide (c1 ≥ 32) && (decide (c1 < 127) || decide (c1 > 159))) = true → (decide (c1 ≥ 32) && (decide (c1 < 127) || decide (c1 > 159))) = true))) <| pc ((fun k2 => k2 : ((decide (c1 ≥ 32) && (decide (c1 < 127) || decide (c1 > 159))) = true → (decide (c1 ≥ 32) && (decide (c1 < 127) || decide (c1 > 159))) = true))) <| pc ((h8 : ((decide (c1 ≥ 32) && (decide (c1 < 127) || decide (c1 > 159))) && decide (((x4_n_1 : Nat) : Int) < 64)) = true)) <| pc h9 <| pc h10 <| pc ((by decide : 1 ≤ 1)) <| allP_nil) (WM.again (k := (nav [.r, .f, .r, .r, .n] [.code (bodyOf Tryz.f46)]).tail) ((fun x0 x1 hh a w hin => hg1 _ x0 x1 hh s pos hi a w hin) _ _ h)) (by kernel_rfl)
    · exact WM.cut mixed [T_, R_ [o_, o_], R_ [o_, o_, o_, o_, o_, o_, o_, o_, o_, o_, o_, o_, o_, o_, o_], F_] [some 0, some 1, some 2, some 3, some 4, some 5, some 6, some 7, some 8, some 9, some 10, some 11, some 12, some 13, some 14] (pc ((rfl : true = true)) <| pc ((fun h => h : (decide (c1 ≥ 32) = true → decide (c1 ≥ 32) = true))) <| pc ((fun h => h : (decide (c1 ≥ 32) = true → decide (c1 ≥ 32) = true))) <| pc ((fun h => h : ((decide (c1 ≥ 32) && (!(decide (c1 < 127)))) = true → (decide (c1 ≥ 32) && (!(decide (c1 < 127)))) = true))) <| pc ((fun h => h : (decide (c1 ≥ 32) = true → decide (c1 ≥ 32) = true))) <| pc ((fun k1 k2 => (and_t k1 (not_t k2)) : (decide (c1 ≥ 32) = true → (decide (c1 < 127) = false → (decide (c1 ≥ 32) && (!(decide (c1 < 127)))) = true)))) <| pc ((fun k2 => k2 : (decide (c1 ≥ 32) = true → decide (c1 ≥ 32) = true))) <| pc ((fun h => h : ((decide (c1 ≥ 32) && (decide (c1 < 127) || decide (c1 > 159))) = true → (decide (c1 ≥ 32) && (decide (c1 < 127) || decide (c1 > 159))) = true))) <| pc ((fun h => h : ((decide (c1 ≥ 32) && (decide (c1 < 127) || decide (c1 > 159))) = true → (decide (c1 ≥ 32) && (decide (c1 < 127) || decide (c1 > 159))) = true))) <| pc ((fun k2 => k2 : ((decide (c1 ≥ 32) && (decide (c1 < 127) || decide (c1 > 159))) = true → (decide (c1 ≥ 32) && (decide (c1 < 127) || decide (c1 > 159))) = true))) <| pc ((h8 : ((decide (c1 ≥ 32) && (decide (c1 < 127) || decide (c1 > 159))) && decide (((x4_n_1 : Nat) : Int) < 64)) = false)) <| allP_nil) (WM.again (k := (nav [.r, .f, .r, .r, .n] [.code (bodyOf Tryz.f46)]).tail) ((fun x0 x1 hh a w hin => hg1 _ x0 x1 hh s pos hi a w hin) _ _ h)) (by kernel_rfl)
set_option maxRecDepth 100000 in
set_option maxHeartbeats 4000000 in
theorem F46_p1_ok {cx : Cx} {f : Nat} {a0 : term_TermO_2} {a1 : List Int} {it1 : Nat} {x4_n_1 : Nat} {x4_1 : List Int} {rest1_ : List Int} {j : Nat} {y : term_TermO_2} (h : F46_p1 f a0 j rest1_ x4_n_1 x4_1 = some y) :
    WMI Tryz.prog G0 51 14 Tryz.f46.results.toList (v_F46 a0 a1 y) (x_F46 a0 a1 y) cx it1 rest1_ (nav [.r, .f, .r, .r, .n] [.code (bodyOf Tryz.f46)]) [(0, ⟨none, .p 0 0 0⟩), (4, ⟨none, .sl 14 0 x4_n_1⟩), (22, ⟨none, .val (ptrV it1)⟩)] [some (B_term_TermO_2 1 3 5 7 9 13 a0), some (B_grid_GridO 2 a0.grids_0), some (blk_cell_Cell a0.grids_0.l), some (B_grid_GridO 4 a0.grids_1), some (blk_cell_Cell a0.grids_1.l), some (B_tabs_StopsO_1 6 a0.stops), some (boolB a0.stops.at_), some (B_utf_DecoderO 8 a0.signs), some (intB .u8 a0.signs.b), some (B_esc_ParserO 10 11 12 a0.asks), some (intB .i64 a0.asks.params), some (intB .i32 a0.asks.text), some (blk_esc_Event a0.asks.out), some (intB .u8 a0.reply), some (intB .i32 x4_1)] := by
  refine WMI.loop (X := Nat × List Int) (y := y) (kb := fun I1 => (nav [.r, .f, .r, .r, .l I1] [.code (bodyOf Tryz.f46)])) (by intro I; kernel_rfl) (fun j r_ x => F46_p1 f a0 j r_ x.1 x.2) (fun x => [(0, ⟨none, .p 0 0 0⟩), (4, ⟨none, .sl 14 0 x.1⟩), (22, ⟨none, .val (ptrV it1)⟩)]) (fun x => [some (B_term_TermO_2 1 3 5 7 9 13 a0), some (B_grid_GridO 2 a0.grids_0), some (blk_cell_Cell a0.grids_0.l), some (B_grid_GridO 4 a0.grids_1), some (blk_cell_Cell a0.grids_1.l), some (B_tabs_StopsO_1 6 a0.stops), some (boolB a0.stops.at_), some (B_utf_DecoderO 8 a0.signs), some (intB .u8 a0.signs.b), some (B_esc_ParserO 10 11 12 a0.asks), some (intB .i64 a0.asks.params), some (intB .i32 a0.asks.text), some (blk_esc_Event a0.asks.out), some (intB .u8 a0.reply), some (intB .i32 x.2)]) ?_ (j := j) (rest := rest1_) (x := (x4_n_1, x4_1)) h
  intro j rest1_ x I1 h hI
  cases j with
  | zero => cases h
  | succ j => exact F46_p1_bok (fun r_ x0 x1 => hI j r_ (x0, x1) (Nat.lt_succ_self j)) h
set_option maxRecDepth 100000 in
set_option maxHeartbeats 4000000 in
theorem F46_ok {f : Nat} {a0 : term_TermO_2} {a1 : List Int} {y : term_TermO_2} (h : F46 f a0 a1 = some y) :
    Spec Tryz.prog G0 46 [.p 0 0 0, .s a1] [some (B_term_TermO_2 1 3 5 7 9 13 a0), some (B_grid_GridO 2 a0.grids_0), some (blk_cell_Cell a0.grids_0.l), some (B_grid_GridO 4 a0.grids_1), some (blk_cell_Cell a0.grids_1.l), some (B_tabs_StopsO_1 6 a0.stops), some (boolB a0.stops.at_), some (B_utf_DecoderO 8 a0.signs), some (intB .u8 a0.signs.b), some (B_esc_ParserO 10 11 12 a0.asks), some (intB .i64 a0.asks.params), some (intB .i32 a0.asks.text), some (blk_esc_Event a0.asks.out), some (intB .u8 a0.reply)] (v_F46 a0 a1 y) (x_F46 a0 a1 y) :=
  Spec.ofM (fn := Tryz.f46) (c := bodyOf Tryz.f46) (n := 51) (rs := Tryz.f46.results.toList) Tryz.func46 (by kernel_rfl) (by kernel_rfl) (by kernel_rfl) (by kernel_rfl) fun cx => by
  unfold F46 at h
  obtain ⟨h1, h⟩ := of_chk h
  obtain ⟨h2, h⟩ := of_chk h
  obtain ⟨h3, h⟩ := of_chk h
  obtain ⟨h4, h⟩ := of_chk h
  rcases of_ifb h with ⟨h5, h⟩ | ⟨h5, h⟩
  · replace h := Option.some.inj h
    subst h
    exact WM.retE mixed (e_F46 a0 a1 (a0)) [R_ [o_, o_, o_, o_, o_, o_, o_, o_, o_, o_, o_, o_, o_], T_] [some 0, some 1, some 2, some 3, some 4, some 5, some 6, some 7, some 8, some 9, some 10, some 11, some 12, some 13] (pc ((fun h => h : ((!(decide ((a1.length : Int) < 2))) = true → (!(decide ((a1.length : Int) < 2))) = true))) <| pc h1 <| pc h2 <| pc ((fun h => h : ((!(decide ((a1.length : Int) < 2))) = true → (!(decide ((a1.length : Int) < 2))) = true))) <| pc ((fun h => h : ((!(decide ((a1.length : Int) < 2))) = true → (!(decide ((a1.length : Int) < 2))) = true))) <| pc ((fun h => h : (((!(decide ((a1.length : Int) < 2))) && (!(decide ((a1.take 2) = [48, 59])))) = true → ((!(decide ((a1.length : Int) < 2))) && (!(decide ((a1.take 2) = [48, 59])))) = true))) <| pc h3 <| pc h4 <| pc ((fun h => h : (((!(decide ((a1.length : Int) < 2))) && (!(decide ((a1.take 2) = [48, 59])))) = true → ((!(decide ((a1.length : Int) < 2))) && (!(decide ((a1.take 2) = [48, 59])))) = true))) <| pc ((fun h => h : ((!(decide ((a1.length : Int) < 2))) = true → (!(decide ((a1.length : Int) < 2))) = true))) <| pc ((fun k1 k2 => (and_t k1 k2) : ((!(decide ((a1.length : Int) < 2))) = true → ((!(decide ((a1.take 2) = [48, 59]))) = true → ((!(decide ((a1.length : Int) < 2))) && (!(decide ((a1.take 2) = [48, 59])))) = true)))) <| pc ((fun k2 => (not_t k2) : (decide ((a1.length : Int) < 2) = false → (!(decide ((a1.length : Int) < 2))) = true))) <| pc ((h5 : (decide ((a1.length : Int) < 2) || ((!(decide ((a1.take 2) = [48, 59]))) && (!(decide ((a1.take 2) = [50, 59]))))) = true)) <| allP_nil) (by kernel_rfl) (by kernel_rfl)
  · obtain ⟨h6, h⟩ := of_chk h
    refine WM.cut (E' := [(0, ⟨none, .p 0 0 0⟩), (1, ⟨none, .s a1⟩), (4, ⟨none, .nils⟩)]) (hs' := [some (B_term_TermO_2 1 3 5 7 9 13 a0), some (B_grid_GridO 2 a0.grids_0), some (blk_cell_Cell a0.grids_0.l), some (B_grid_GridO 4 a0.grids_1), some (blk_cell_Cell a0.grids_1.l), some (B_tabs_StopsO_1 6 a0.stops), some (boolB a0.stops.at_), some (B_utf_DecoderO 8 a0.signs), some (intB .u8 a0.signs.b), some (B_esc_ParserO 10 11 12 a0.asks), some (intB .i64 a0.asks.params), some (intB .i32 a0.asks.text), some (blk_esc_Event a0.asks.out), some (intB .u8 a0.reply)]) (k' := (nav [.r, .f, .r, .n] [.code (bodyOf Tryz.f46)])) mixed [R_ [o_, o_, o_, o_, o_, o_, o_, o_, o_, o_, o_, o_, o_], F_, R_ [o_]] [some 0, some 1, some 2, some 3, some 4, some 5, some 6, some 7, some 8, some 9, some 10, some 11, some 12, some 13] (pc ((fun h => h : ((!(decide ((a1.length : Int) < 2))) = true → (!(decide ((a1.length : Int) < 2))) = true))) <| pc h1 <| pc h2 <| pc ((fun h => h : ((!(decide ((a1.length : Int) < 2))) = true → (!(decide ((a1.length : Int) < 2))) = true))) <| pc ((fun h => h : ((!(decide ((a1.length : Int) < 2))) = true → (!(decide ((a1.length : Int) < 2))) = true))) <| pc ((fun h => h : (((!(decide ((a1.length : Int) < 2))) && (!(decide ((a1.take 2) = [48, 59])))) = true → ((!(decide ((a1.length : Int) < 2))) && (!(decide ((a1.take 2) = [48, 59])))) = true))) <| pc h3 <| pc h4 <| pc ((fun h => h : (((!(decide ((a1.length : Int) < 2))) && (!(decide ((a1.take 2) = [48, 59])))) = true → ((!(decide ((a1.length : Int) < 2))) && (!(decide ((a1.take 2) = [48, 59])))) = true))) <| pc ((fun h => h : ((!(decide ((a1.length : Int) < 2))) = true → (!(decide ((a1.length : Int) < 2))) = true))) <| pc ((fun k1 k2 => (and_t k1 k2) : ((!(decide ((a1.length : Int) < 2))) = true → ((!(decide ((a1.take 2) = [48, 59]))) = true → ((!(decide ((a1.length : Int) < 2))) && (!(decide ((a1.take 2) = [48, 59])))) = true)))) <| pc ((fun k2 => (not_t k2) : (decide ((a1.length : Int) < 2) = false → (!(decide ((a1.length : Int) < 2))) = true))) <| pc ((h5 : (decide ((a1.length : Int) < 2) || ((!(decide ((a1.take 2) = [48, 59]))) && (!(decide ((a1.take 2) = [50, 59]))))) = false)) <| allP_nil) ?_ (by kernel_rfl)
    refine WM.range (k := (nav [.r, .f, .r, .n] [.code (bodyOf Tryz.f46)]).tail) (c := hcode (nav [.r, .f, .r, .n] [.code (bodyOf Tryz.f46)])) (E1 := [(21, ⟨none, .s (a1.drop 2)⟩), (20, ⟨none, .s a1⟩), (0, ⟨none, .p 0 0 0⟩), (1, ⟨none, .s a1⟩), (4, ⟨none, .nils⟩)]) (ti := 22) (T := 9) (l := (a1.drop 2)) [o_, o_] (pc ((by decide : (0 : Int) ≤ 2)) <| pc h6 <| allP_nil) (by kernel_rfl) (by kernel_rfl) ?_
    intro it1
    exact WMI.cut mixed [] [some 0, some 1, some 2, some 3, some 4, some 5, some 6, some 7, some 8, some 9, some 10, some 11, some 12, some 13, none] (allP_nil) (F46_p1_ok h) (by kernel_rfl)

/-! ### F27: function 27 (*tickertape/term.Term).takes -/
def F27 (f : Nat) (a0 : term_TermO_2) (a1 : esc_Event) : Option (term_TermO_2) :=
  ifb (decide (a1.Kind = 1)) (
    bnd (F42 f a0 a1.Rune) fun r1 =>
    some (r1)) (
    ifb (decide (a1.Kind = 2)) (
      bnd (F43 f a0 a1.Rune) fun r2 =>
      some (r2)) (
      ifb (decide (a1.Kind = 3)) (
        bnd (F44 f a0 a1) fun r3 =>
        some (r3)) (
        ifb (decide (a1.Kind = 4)) (
          bnd (F45 f a0 a1) fun r4 =>
          some (r4)) (
          ifb (decide (a1.Kind = 5)) (
            bnd (F46 f a0 a1.Text) fun r5 =>
            some (r5)) (
            some (a0))))))
def v_F27 (a0 : term_TermO_2) (a1 : esc_Event) (y : term_TermO_2) : V :=
  .tup []
def e_F27 (a0 : term_TermO_2) (a1 : esc_Event) (y : term_TermO_2) : Env :=
  []
def x_F27 (a0 : term_TermO_2) (a1 : esc_Event) (y : term_TermO_2) : List (Option Blk) :=
  [some (B_term_TermO_2 14 16 18 7 9 20 y), none, none, none, none, none, none, some (B_utf_DecoderO 8 y.signs), some (intB .u8 y.signs.b), some (B_esc_ParserO 10 11 12 y.asks), some (intB .i64 y.asks.params), some (intB .i32 y.asks.text), some (blk_esc_Event y.asks.out), none, some (B_grid_GridO 15 y.grids_0), some (blk_cell_Cell y.grids_0.l), some (B_grid_GridO 17 y.grids_1), some (blk_cell_Cell y.grids_1.l), some (B_tabs_StopsO_1 19 y.stops), some (boolB y.stops.at_), some (intB .u8 y.reply)]
set_option maxRecDepth 100000 in
set_option maxHeartbeats 4000000 in
theorem F27_ok {f : Nat} {a0 : term_TermO_2} {a1 : esc_Event} {y : term_TermO_2} (h : F27 f a0 a1 = some y) :
    Spec Tryz.prog G0 27 [.p 0 0 0, .agg [.i .i64 a1.Kind, .i .i32 a1.Rune, .ro Int 1 (fun n => [.i .i64 n]) 0 a1.Params, .i .i32 a1.Private, .i .i32 a1.Inter, .i .i32 a1.Final, .s a1.Text]] [some (B_term_TermO_2 1 3 5 7 9 13 a0), some (B_grid_GridO 2 a0.grids_0), some (blk_cell_Cell a0.grids_0.l), some (B_grid_GridO 4 a0.grids_1), some (blk_cell_Cell a0.grids_1.l), some (B_tabs_StopsO_1 6 a0.stops), some (boolB a0.stops.at_), some (B_utf_DecoderO 8 a0.signs), some (intB .u8 a0.signs.b), some (B_esc_ParserO 10 11 12 a0.asks), some (intB .i64 a0.asks.params), some (intB .i32 a0.asks.text), some (blk_esc_Event a0.asks.out), some (intB .u8 a0.reply)] (v_F27 a0 a1 y) (x_F27 a0 a1 y) :=
  Spec.ofM (fn := Tryz.f27) (c := bodyOf Tryz.f27) (n := 34) (rs := Tryz.f27.results.toList) Tryz.func27 (by kernel_rfl) (by kernel_rfl) (by kernel_rfl) (by kernel_rfl) fun cx => by
  unfold F27 at h
  rcases of_ifb h with ⟨h1, h⟩ | ⟨h1, h⟩
  · obtain ⟨r1, h2, h⟩ := of_bnd h
    replace h := Option.some.inj h
    subst h
    exact WM.retE mixed (e_F27 a0 a1 (r1)) [R_ [.op (.fresh 14 ((⟨esc_Event, 7, enc_esc_Event, (fun _ => a1), zero_esc_Event, [a1]⟩ : Blk)))], R_ [o_, o_], R_ [o_, o_], T_, R_ [o_, o_, o_, c_ (mkCall Tryz.call42 (F42_ok h2) [0, 1, 2, 3, 4, 5, 6, 7, 8, 9, 10, 11, 12, 13] (by kernel_rfl) (by kernel_rfl))]] [some 0, some 1, some 2, some 3, some 4, some 5, some 6, some 7, some 8, some 9, some 10, some 11, some 12, some 13, some 1, some 2, some 3, some 4, some 5, some 6, some 13] (pc zlt1 <| pc ((h1 : decide (a1.Kind = 1) = true)) <| pc zlt1 <| allP_nil) (by kernel_rfl) (by kernel_rfl)
  · rcases of_ifb h with ⟨h3, h⟩ | ⟨h3, h⟩
    · obtain ⟨r2, h4, h⟩ := of_bnd h
      replace h := Option.some.inj h
      subst h
      exact WM.retE mixed (e_F27 a0 a1 (r2)) [R_ [.op (.fresh 14 ((⟨esc_Event, 7, enc_esc_Event, (fun _ => a1), zero_esc_Event, [a1]⟩ : Blk)))], R_ [o_, o_], R_ [o_, o_], F_, R_ [o_, o_], T_, R_ [o_, o_, o_, c_ (mkCall Tryz.call43 (F43_ok h4) [0, 1, 2, 3, 4, 5, 6, 7, 8, 9, 10, 11, 12, 13] (by kernel_rfl) (by kernel_rfl))]] [some 0, some 1, some 2, some 3, some 4, some 5, some 6, some 7, some 8, some 9, some 10, some 11, some 12, some 13, some 1, some 2, some 3, some 4, some 5, some 6, some 13] (pc zlt1 <| pc ((h1 : decide (a1.Kind = 1) = false)) <| pc ((h3 : decide (a1.Kind = 2) = true)) <| pc zlt1 <| allP_nil) (by kernel_rfl) (by kernel_rfl)
    · rcases of_ifb h with ⟨h5, h⟩ | ⟨h5, h⟩
      · obtain ⟨r3, h6, h⟩ := of_bnd h
        replace h := Option.some.inj h
        subst h
        exact WM.retE mixed (e_F27 a0 a1 (r3)) [R_ [.op (.fresh 14 ((⟨esc_Event, 7, enc_esc_Event, (fun _ => a1), zero_esc_Event, [a1]⟩ : Blk)))], R_ [o_, o_], R_ [o_, o_], F_, R_ [o_, o_], F_, R_ [o_, o_], T_, R_ [o_, o_, c_ (mkCall Tryz.call44 (F44_ok h6) [0, 1, 2, 3, 4, 5, 6, 7, 8, 9, 10, 11, 12, 13, 15, 16, 17, 18, 19, 20] (by kernel_rfl) (by kernel_rfl))]] [some 0, some 1, some 2, some 3, some 4, some 5, some 6, some 7, some 8, some 9, some 10, some 11, some 12, some 13, some 15, some 16, some 17, some 18, some 19, some 20, some 13] (pc zlt1 <| pc ((h1 : decide (a1.Kind = 1) = false)) <| pc ((h3 : decide (a1.Kind = 2) = false)) <| pc ((h5 : decide (a1.Kind = 3) = true)) <| pc zlt1 <| allP_nil) (by kernel_rfl) (by kernel_rfl)
      · rcases of_ifb h with ⟨h7, h⟩ | ⟨h7, h⟩
        · obtain ⟨r4, h8, h⟩ := of_bnd h
          replace h := Option.some.inj h
          subst h
          exact WM.retE mixed (e_F27 a0 a1 (r4)) [R_ [.op (.fresh 14 ((⟨esc_Event, 7, enc_esc_Event, (fun _ => a1), zero_esc_Event, [a1]⟩ : Blk)))], R_ [o_, o_], R_ [o_, o_], F_, R_ [o_, o_], F_, R_ [o_, o_], F_, R_ [o_, o_], T_, R_ [o_, o_, c_ (mkCall Tryz.call45 (F45_ok h8) [0, 1, 2, 3, 4, 5, 6, 7, 8, 9, 10, 11, 12, 13, 15] (by kernel_rfl) (by kernel_rfl))]] [some 0, some 1, some 2, some 3, some 4, some 5, some 6, some 7, some 8, some 9, some 10, some 11, some 12, some 13, some 1, some 2, some 3, some 4, some 5, some 6, some 15] (pc zlt1 <| pc ((h1 : decide (a1.Kind = 1) = false)) <| pc ((h3 : decide (a1.Kind = 2) = false)) <| pc ((h5 : decide (a1.Kind = 3) = false)) <| pc ((h7 : decide (a1.Kind = 4) = true)) <| pc zlt1 <| allP_nil) (by kernel_rfl) (by kernel_rfl)
        · rcases of_ifb h with ⟨h9, h⟩ | ⟨h9, h⟩
          · obtain ⟨r5, h10, h⟩ := of_bnd h
            replace h := Option.some.inj h
            subst h
            exact WM.retE mixed (e_F27 a0 a1 (r5)) [R_ [.op (.fresh 14 ((⟨esc_Event, 7, enc_esc_Event, (fun _ => a1), zero_esc_Event, [a1]⟩ : Blk)))], R_ [o_, o_], R_ [o_, o_], F_, R_ [o_, o_], F_, R_ [o_, o_], F_, R_ [o_, o_], F_, R_ [o_, o_], T_, R_ [o_, o_, o_, c_ (mkCall Tryz.call46 (F46_ok h10) [0, 1, 2, 3, 4, 5, 6, 7, 8, 9, 10, 11, 12, 13] (by kernel_rfl) (by kernel_rfl))]] [some 0, some 1, some 2, some 3, some 4, some 5, some 6, some 7, some 8, some 9, some 10, some 11, some 12, some 13, some 1, some 2, some 3, some 4, some 5, some 6, some 13] (pc zlt1 <| pc ((h1 : decide (a1.Kind = 1) = false)) <| pc ((h3 : decide (a1.Kind = 2) = false)) <| pc ((h5 : decide (a1.Kind = 3) = false)) <| pc ((h7 : decide (a1.Kind = 4) = false)) <| pc ((h9 : decide (a1.Kind = 5) = true)) <| pc zlt1 <| allP_nil) (by kernel_rfl) (by kernel_rfl)
          · replace h := Option.some.inj h
            subst h
            exact WM.retE mixed (e_F27 a0 a1 (a0)) [R_ [.op (.fresh 14 ((⟨esc_Event, 7, enc_esc_Event, (fun _ => a1), zero_esc_Event, [a1]⟩ : Blk)))], R_ [o_, o_], R_ [o_, o_], F_, R_ [o_, o_], F_, R_ [o_, o_], F_, R_ [o_, o_], F_, R_ [o_, o_], F_] [some 0, some 1, some 2, some 3, some 4, some 5, some 6, some 7, some 8, some 9, some 10, some 11, some 12, some 13, some 1, some 2, some 3, some 4, some 5, some 6, some 13] (pc zlt1 <| pc ((h1 : decide (a1.Kind = 1) = false)) <| pc ((h3 : decide (a1.Kind = 2) = false)) <| pc ((h5 : decide (a1.Kind = 3) = false)) <| pc ((h7 : decide (a1.Kind = 4) = false)) <| pc ((h9 : decide (a1.Kind = 5) = false)) <| allP_nil) (by kernel_rfl) (by kernel_rfl)

/-! ### F10: function 10 (*tickertape/term.Term).Write -/
def F10_p1_b (f : Nat) (g1 : term_TermO_2 → Int → Option (term_TermO_2)) (r2 : esc_ParserO × Nat × List esc_Event) (a1 : List Int) (a0_1 : term_TermO_2) (x18_1 : Int) : Option (term_TermO_2) :=
  ifb (decide (x18_1 < ((r2.2.1 : Nat) : Int))) (
    chk (0 ≤ x18_1) <|
    chk (x18_1 < ((r2.2.1 : Nat) : Int)) <|
    chk ((0 + x18_1.toNat) < r2.2.2.length) <|
    bnd (F27 f a0_1 (r2.2.2.getD (0 + x18_1.toNat) zero_esc_Event)) fun r3 =>
    chk (inR (x18_1 + 1)) <|
    g1 r3 (x18_1 + 1)) (
    some (a0_1))
def F10_p1 (f : Nat) (r2 : esc_ParserO × Nat × List esc_Event) (a1 : List Int) : Nat → term_TermO_2 → Int → Option (term_TermO_2)
  | 0, _, _ => none
  | j + 1, a0_1, x18_1 => F10_p1_b f (F10_p1 f r2 a1 j) r2 a1 a0_1 x18_1
def F10 (f : Nat) (a0 : term_TermO_2) (a1_n : Nat) (a1 : List Int) : Option (term_TermO_2) :=
  bnd (F26 f a0.signs a1_n a1) fun r1 =>
  bnd (F25 f a0.asks r1.2.1 r1.2.2) fun r2 =>
  F10_p1 f r2 a1 f ({ a0 with signs := r1.1, asks := r2.1 } : term_TermO_2) 0
def v_F10 (a0 : term_TermO_2) (a1_n : Nat) (a1 : List Int) (y : term_TermO_2) : V :=
  .tup []
def e_F10 (a0 : term_TermO_2) (a1_n : Nat) (a1 : List Int) (y : term_TermO_2) : Env :=
  []
def x_F10 (a0 : term_TermO_2) (a1_n : Nat) (a1 : List Int) (y : term_TermO_2) : List (Option Blk) :=
  [some (B_term_TermO_2 15 17 19 7 9 25 y), none, none, none, none, none, none, some (B_utf_DecoderO 21 y.signs), none, some (B_esc_ParserO 22 23 24 y.asks), none, none, none, none, some (intB .u8 a1), some (B_grid_GridO 16 y.grids_0), some (blk_cell_Cell y.grids_0.l), some (B_grid_GridO 18 y.grids_1), some (blk_cell_Cell y.grids_1.l), some (B_tabs_StopsO_1 20 y.stops), some (boolB y.stops.at_), some (intB .u8 y.signs.b), some (intB .i64 y.asks.params), some (intB .i32 y.asks.text), some (blk_esc_Event y.asks.out), some (intB .u8 y.reply)]
set_option maxRecDepth 100000 in
set_option maxHeartbeats 4000000 in
theorem F10_p1_bok {cx : Cx} {f : Nat} {I1 : Act → World → Prop} {g1 : term_TermO_2 → Int → Option (term_TermO_2)} {a0 : term_TermO_2} {a1_n : Nat} {a1 : List Int} {r2 : esc_ParserO × Nat × List esc_Event} {a0_1 : term_TermO_2} {x18_1 : Int} {y : term_TermO_2} (hg1 : ∀ (a0_1 : term_TermO_2) (x18_1 : Int), g1 a0_1 x18_1 = some y → ∀ a w, cx.In G0 26 15 [(0, ⟨none, .p 0 0 0⟩), (16, ⟨none, .sl 26 0 r2.2.1⟩), (17, ⟨none, .i .i64 ((r2.2.1 : Nat) : Int)⟩), (18, ⟨none, .i .i64 x18_1⟩)] [some (B_term_TermO_2 15 17 19 7 9 25 a0_1), none, none, none, none, none, none, some (B_utf_DecoderO 21 a0_1.signs), none, some (B_esc_ParserO 22 23 24 a0_1.asks), none, none, none, none, some (intB .u8 a1), some (B_grid_GridO 16 a0_1.grids_0), some (blk_cell_Cell a0_1.grids_0.l), some (B_grid_GridO 18 a0_1.grids_1), some (blk_cell_Cell a0_1.grids_1.l), some (B_tabs_StopsO_1 20 a0_1.stops), some (boolB a0_1.stops.at_), some (intB .u8 a0_1.signs.b), some (intB .i64 a0_1.asks.params), some (intB .i32 a0_1.asks.text), some (blk_esc_Event a0_1.asks.out), some (intB .u8 a0_1.reply), some (blk_esc_Event r2.2.2)] a w → I1 a w) (h : F10_p1_b f g1 r2 a1 a0_1 x18_1 = some y) :
    WM Tryz.prog G0 26 15 Tryz.f10.results.toList (v_F10 a0 a1_n a1 y) (x_F10 a0 a1_n a1 y) cx (nav [.r, .l I1] [.code (bodyOf Tryz.f10)]) [(0, ⟨none, .p 0 0 0⟩), (16, ⟨none, .sl 26 0 r2.2.1⟩), (17, ⟨none, .i .i64 ((r2.2.1 : Nat) : Int)⟩), (18, ⟨none, .i .i64 x18_1⟩)] [some (B_term_TermO_2 15 17 19 7 9 25 a0_1), none, none, none, none, none, none, some (B_utf_DecoderO 21 a0_1.signs), none, some (B_esc_ParserO 22 23 24 a0_1.asks), none, none, none, none, some (intB .u8 a1), some (B_grid_GridO 16 a0_1.grids_0), some (blk_cell_Cell a0_1.grids_0.l), some (B_grid_GridO 18 a0_1.grids_1), some (blk_cell_Cell a0_1.grids_1.l), some (B_tabs_StopsO_1 20 a0_1.stops), some (boolB a0_1.stops.at_), some (intB .u8 a0_1.signs.b), some (intB .i64 a0_1.asks.params), some (intB .i32 a0_1.asks.text), some (blk_esc_Event a0_1.asks.out), some (intB .u8 a0_1.reply), some (blk_esc_Event r2.2.2)] := by
  unfold F10_p1_b at h
  rcases of_ifb h with ⟨h3, h⟩ | ⟨h3, h⟩
  · obtain ⟨h4, h⟩ := of_chk h
    obtain ⟨h5, h⟩ := of_chk h
    obtain ⟨h6, h⟩ := of_chk h
    obtain ⟨r3, h7, h⟩ := of_bnd h
    obtain ⟨h8, h⟩ := of_chk h
    exact WM.cut mixed [R_ [o_], T_, R_ [o_, o_, .op (.fresh 27 (svB 7 [.i .i64 0, .i .i32 0, .nils, .i .i32 0, .i .i32 0, .i .i32 0, .s []])), .re 27 ((⟨esc_Event, 7, enc_esc_Event, (fun _ => (r2.2.2.getD (0 + x18_1.toNat) zero_esc_Event)), zero_esc_Event, [(esc_Event.mk 0 0 [] 0 0 0 [])]⟩ : Blk)) true .auto], R_ [o_, o_, c_ (mkCall Tryz.call27 (F27_ok h7) [0, 15, 16, 17, 18, 19, 20, 7, 21, 9, 22, 23, 24, 25, 28, 29, 30, 31, 32, 33, 34] (by kernel_rfl) (by kernel_rfl))], R_ [o_, o_]] [some 0, some 1, some 2, some 3, some 4, some 5, some 6, some 7, some 8, some 9, some 10, some 11, some 12, some 13, some 14, some 28, some 29, some 30, some 31, some 32, some 33, some 21, some 22, some 23, some 24, some 34, some 26] (pc ((h3 : decide (x18_1 < ((r2.2.1 : Nat) : Int)) = true)) <| pc h4 <| pc h5 <| pc h6 <| pc zlt1 <| pc zlt1 <| pc h8 <| allP_nil) (WM.again (k := (nav [.r, .n] [.code (bodyOf Tryz.f10)]).tail) (hg1 _ _ h)) (by kernel_rfl)
  · replace h := Option.some.inj h
    subst h
    exact WM.retE mixed (e_F10 a0 a1_n a1 (a0_1)) [R_ [o_], F_] [some 0, some 1, some 2, some 3, some 4, some 5, some 6, some 7, some 8, some 9, some 10, some 11, some 12, some 13, some 14, some 15, some 16, some 17, some 18, some 19, some 20, some 21, some 22, some 23, some 24, some 25] (pc ((h3 : decide (x18_1 < ((r2.2.1 : Nat) : Int)) = false)) <| allP_nil) (by kernel_rfl) (by kernel_rfl)
set_option maxRecDepth 100000 in
set_option maxHeartbeats 4000000 in
theorem F10_p1_ok {cx : Cx} {f : Nat} {a0 : term_TermO_2} {a1_n : Nat} {a1 : List Int} {r2 : esc_ParserO × Nat × List esc_Event} {a0_1 : term_TermO_2} {x18_1 : Int} {j : Nat} {y : term_TermO_2} (h : F10_p1 f r2 a1 j a0_1 x18_1 = some y) :
    WM Tryz.prog G0 26 15 Tryz.f10.results.toList (v_F10 a0 a1_n a1 y) (x_F10 a0 a1_n a1 y) cx (nav [.r, .n] [.code (bodyOf Tryz.f10)]) [(0, ⟨none, .p 0 0 0⟩), (16, ⟨none, .sl 26 0 r2.2.1⟩), (17, ⟨none, .i .i64 ((r2.2.1 : Nat) : Int)⟩), (18, ⟨none, .i .i64 x18_1⟩)] [some (B_term_TermO_2 15 17 19 7 9 25 a0_1), none, none, none, none, none, none, some (B_utf_DecoderO 21 a0_1.signs), none, some (B_esc_ParserO 22 23 24 a0_1.asks), none, none, none, none, some (intB .u8 a1), some (B_grid_GridO 16 a0_1.grids_0), some (blk_cell_Cell a0_1.grids_0.l), some (B_grid_GridO 18 a0_1.grids_1), some (blk_cell_Cell a0_1.grids_1.l), some (B_tabs_StopsO_1 20 a0_1.stops), some (boolB a0_1.stops.at_), some (intB .u8 a0_1.signs.b), some (intB .i64 a0_1.asks.params), some (intB .i32 a0_1.asks.text), some (blk_esc_Event a0_1.asks.out), some (intB .u8 a0_1.reply), some (blk_esc_Event r2.2.2)] := by
  refine WM.loopN (X := term_TermO_2 × Int) (y := y) (kb := fun I1 => (nav [.r, .l I1] [.code (bodyOf Tryz.f10)])) (by intro I; kernel_rfl) (fun j x => F10_p1 f r2 a1 j x.1 x.2) (fun x => [(0, ⟨none, .p 0 0 0⟩), (16, ⟨none, .sl 26 0 r2.2.1⟩), (17, ⟨none, .i .i64 ((r2.2.1 : Nat) : Int)⟩), (18, ⟨none, .i .i64 x.2⟩)]) (fun x => [some (B_term_TermO_2 15 17 19 7 9 25 x.1), none, none, none, none, none, none, some (B_utf_DecoderO 21 x.1.signs), none, some (B_esc_ParserO 22 23 24 x.1.asks), none, none, none, none, some (intB .u8 a1), some (B_grid_GridO 16 x.1.grids_0), some (blk_cell_Cell x.1.grids_0.l), some (B_grid_GridO 18 x.1.grids_1), some (blk_cell_Cell x.1.grids_1.l), some (B_tabs_StopsO_1 20 x.1.stops), some (boolB x.1.stops.at_), some (intB .u8 x.1.signs.b), some (intB .i64 x.1.asks.params), some (intB .i32 x.1.asks.text), some (blk_esc_Event x.1.asks.out), some (intB .u8 x.1.reply), some (blk_esc_Event r2.2.2)]) ?_ (j := j) (x := (a0_1, x18_1)) h
  intro j x I1 h hI
  cases j with
  | zero => cases h
  | succ j => exact F10_p1_bok (fun x0 x1 => hI j (x0, x1) (Nat.lt_succ_self j)) h
set_option maxRecDepth 100000 in
set_option maxHeartbeats 4000000 in
theorem F10_ok {f : Nat} {a0 : term_TermO_2} {a1_n : Nat} {a1 : List Int} {y : term_TermO_2} (h : F10 f a0 a1_n a1 = some y) :
    Spec Tryz.prog G0 10 [.p 0 0 0, .sl 14 0 a1_n] [some (B_term_TermO_2 1 3 5 7 9 13 a0), some (B_grid_GridO 2 a0.grids_0), some (blk_cell_Cell a0.grids_0.l), some (B_grid_GridO 4 a0.grids_1), some (blk_cell_Cell a0.grids_1.l), some (B_tabs_StopsO_1 6 a0.stops), some (boolB a0.stops.at_), some (B_utf_DecoderO 8 a0.signs), some (intB .u8 a0.signs.b), some (B_esc_ParserO 10 11 12 a0.asks), some (intB .i64 a0.asks.params), some (intB .i32 a0.asks.text), some (blk_esc_Event a0.asks.out), some (intB .u8 a0.reply), some (intB .u8 a1)] (v_F10 a0 a1_n a1 y) (x_F10 a0 a1_n a1 y) :=
  Spec.ofM (fn := Tryz.f10) (c := bodyOf Tryz.f10) (n := 26) (rs := Tryz.f10.results.toList) Tryz.func10 (by kernel_rfl) (by kernel_rfl) (by kernel_rfl) (by kernel_rfl) fun cx => by
  unfold F10 at h
  obtain ⟨r1, h1, h⟩ := of_bnd h
  obtain ⟨r2, h2, h⟩ := of_bnd h
  exact WM.cut mixed [R_ [o_, o_, o_, o_, o_, o_, o_, o_, o_, c_ (mkCallT Tryz.call26 (F26_ok h1) [7, 8, 14, 15, 16] [14] (by kernel_rfl) (by kernel_rfl) (by kernel_rfl) (by kernel_rfl)), c_ (mkCallT Tryz.call25 (F25_ok h2) [9, 10, 11, 12, 16, 17, 18, 19, 20] [16] (by kernel_rfl) (by kernel_rfl) (by kernel_rfl) (by kernel_rfl)), o_, o_]] [some 0, some 1, some 2, some 3, some 4, some 5, some 6, some 7, some 8, some 9, some 10, some 11, some 12, some 13, some 14, some 1, some 2, some 3, some 4, some 5, some 6, some 15, some 17, some 18, some 19, some 13, some 20] (pc zlt1 <| pc zlt1 <| allP_nil) (F10_p1_ok h) (by kernel_rfl)

/-! ### F47_1: function 47 slices.Clone[[]tickertape/cell.Cell,tickertape/cell.Cell] -/
def F47_1 (f : Nat) (a0_n : Nat) (a0 : List cell_Cell) : Option (Nat × List cell_Cell) :=
  chk (((((0 + (((a0.drop 0).take a0_n)).length)) * 40 : Nat) : Int) ≤ 140737488355328) <|
  chk ((0 + a0_n) ≤ a0.length) <|
  some (((0 + (((a0.drop 0).take a0_n)).length), ([] ++ (((a0.drop 0).take a0_n).map fun y => y))))
def v_F47_1 (a0_n : Nat) (a0 : List cell_Cell) (y : Nat × List cell_Cell) : V :=
  .sl 1 0 y.1
def e_F47_1 (a0_n : Nat) (a0 : List cell_Cell) (y : Nat × List cell_Cell) : Env :=
  [(2, ⟨none, .sl 1 0 y.1⟩)]
def x_F47_1 (a0_n : Nat) (a0 : List cell_Cell) (y : Nat × List cell_Cell) : List (Option Blk) :=
  [some (blk_cell_Cell a0), some (blk_cell_Cell y.2)]
set_option maxRecDepth 100000 in
set_option maxHeartbeats 4000000 in
theorem F47_1_ok {f : Nat} {a0_n : Nat} {a0 : List cell_Cell} {y : Nat × List cell_Cell} (h : F47_1 f a0_n a0 = some y) :
    Spec Tryz.prog G0 47 [.sl 0 0 a0_n] [some (blk_cell_Cell a0)] (v_F47_1 a0_n a0 y) (x_F47_1 a0_n a0 y) :=
  Spec.ofM (fn := Tryz.f47) (c := bodyOf Tryz.f47) (n := 8) (rs := Tryz.f47.results.toList) Tryz.func47 (by kernel_rfl) (by kernel_rfl) (by kernel_rfl) (by kernel_rfl) fun cx => by
  unfold F47_1 at h
  obtain ⟨h1, h⟩ := of_chk h
  obtain ⟨h2, h⟩ := of_chk h
  replace h := Option.some.inj h
  subst h
  refine WM.cut (E' := [(0, ⟨none, .sl 0 0 a0_n⟩)]) (hs' := [some (blk_cell_Cell a0)]) (k' := (nav [.r, .n] [.code (bodyOf Tryz.f47)])) mixed [R_ [o_]] [some 0] (allP_nil) ?_ (by kernel_rfl)
  refine WM.nilq (k := (nav [.r, .n] [.code (bodyOf Tryz.f47)]).tail) (c := hcode (nav [.r, .n] [.code (bodyOf Tryz.f47)])) (t0 := 0) (t3 := 3) (t4 := 4) (T := 29) (e := 38) (m := a0_n) (v := .sl 0 0 a0_n) (by kernel_rfl) (by kernel_rfl) (by kernel_rfl) (by kernel_rfl) (by kernel_rfl) ?_ ?_
  · intro hz
    obtain rfl : a0_n = 0 := hz
    exact WM.retE mixed (e_F47_1 0 a0 (((0 + (((a0.drop 0).take 0)).length), ([] ++ (((a0.drop 0).take 0).map fun y => y))))) [T_, R_ [o_]] [some 0, none] (pc ((rfl : true = true)) <| allP_nil) (by kernel_rfl) (by kernel_rfl)
  · exact WM.retE mixed (e_F47_1 a0_n a0 (((0 + (((a0.drop 0).take a0_n)).length), ([] ++ (((a0.drop 0).take a0_n).map fun y => y))))) [F_, R_ [.op (.fresh 1 (blk_cell_Cell [])), o_, .op (.fresh 2 (intB .u8 [])), o_]] [some 0, some 2] (pc ((rfl : false = false)) <| pc ((by decide : 0 = 0)) <| pc h1 <| pc h2 <| allP_nil) (by kernel_rfl) (by kernel_rfl)

/-! ### F29: function 29 (*tickertape/grid.Grid).Cells -/
def F29 (f : Nat) (a0 : grid_GridO) : Option (Nat × List cell_Cell) :=
  bnd (F47_1 f a0.l_n a0.l) fun r1 =>
  some ((r1.1, r1.2))
def v_F29 (a0 : grid_GridO) (y : Nat × List cell_Cell) : V :=
  .sl 2 0 y.1
def e_F29 (a0 : grid_GridO) (y : Nat × List cell_Cell) : Env :=
  [(2, ⟨none, .sl 2 0 y.1⟩)]
def x_F29 (a0 : grid_GridO) (y : Nat × List cell_Cell) : List (Option Blk) :=
  [some (B_grid_GridO 1 a0), some (blk_cell_Cell a0.l), some (blk_cell_Cell y.2)]
set_option maxRecDepth 100000 in
set_option maxHeartbeats 4000000 in
theorem F29_ok {f : Nat} {a0 : grid_GridO} {y : Nat × List cell_Cell} (h : F29 f a0 = some y) :
    Spec Tryz.prog G0 29 [.p 0 0 0] [some (B_grid_GridO 1 a0), some (blk_cell_Cell a0.l)] (v_F29 a0 y) (x_F29 a0 y) :=
  Spec.ofM (fn := Tryz.f29) (c := bodyOf Tryz.f29) (n := 8) (rs := Tryz.f29.results.toList) Tryz.func29 (by kernel_rfl) (by kernel_rfl) (by kernel_rfl) (by kernel_rfl) fun cx => by
  unfold F29 at h
  obtain ⟨r1, h1, h⟩ := of_bnd h
  replace h := Option.some.inj h
  subst h
  exact WM.retE mixed (e_F29 a0 ((r1.1, r1.2))) [R_ [o_], R_ [o_, o_, o_, o_, c_ (mkCall Tryz.call47 (F47_1_ok h1) [1, 2] (by kernel_rfl) (by kernel_rfl)), o_]] [some 0, some 1, some 2] (pc zlt1 <| allP_nil) (by kernel_rfl) (by kernel_rfl)

/-! ### F11: function 11 (*tickertape/term.Term).Screen -/
def F11 (f : Nat) (a0 : term_TermO_2) : Option (screen_ScreenO) :=
  bnd (F28 f a0) fun r1 =>
  sm r1 (fun r2 =>
    bnd (F29 f a0.grids_0) fun r4 =>
    some ((screen_ScreenO.mk a0.rows a0.cols r4.1 r4.2 a0.kept.cursor.row a0.kept.cursor.col a0.hidden a0.title))) (fun r3 =>
    bnd (F29 f a0.grids_1) fun r5 =>
    some ((screen_ScreenO.mk a0.rows a0.cols r5.1 r5.2 a0.kept.cursor.row a0.kept.cursor.col a0.hidden a0.title)))
def v_F11 (a0 : term_TermO_2) (y : screen_ScreenO) : V :=
  .agg [.i .i64 y.Rows, .i .i64 y.Cols, .sl 15 0 y.Cells_n, .i .i64 y.Row, .i .i64 y.Col, .b y.Hidden, .s y.Title]
def e_F11 (a0 : term_TermO_2) (y : screen_ScreenO) : Env :=
  [(2, ⟨none, .p 14 0 0⟩)]
def x_F11 (a0 : term_TermO_2) (y : screen_ScreenO) : List (Option Blk) :=
  [some (B_term_TermO_2 1 3 5 7 9 13 a0), some (B_grid_GridO 2 a0.grids_0), some (blk_cell_Cell a0.grids_0.l), some (B_grid_GridO 4 a0.grids_1), some (blk_cell_Cell a0.grids_1.l), some (B_tabs_StopsO_1 6 a0.stops), some (boolB a0.stops.at_), some (B_utf_DecoderO 8 a0.signs), some (intB .u8 a0.signs.b), some (B_esc_ParserO 10 11 12 a0.asks), some (intB .i64 a0.asks.params), some (intB .i32 a0.asks.text), some (blk_esc_Event a0.asks.out), some (intB .u8 a0.reply), some (B_screen_ScreenO 15 y), some (blk_cell_Cell y.Cells)]
set_option maxRecDepth 100000 in
set_option maxHeartbeats 4000000 in
theorem F11_ok {f : Nat} {a0 : term_TermO_2} {y : screen_ScreenO} (h : F11 f a0 = some y) :
    Spec Tryz.prog G0 11 [.p 0 0 0] [some (B_term_TermO_2 1 3 5 7 9 13 a0), some (B_grid_GridO 2 a0.grids_0), some (blk_cell_Cell a0.grids_0.l), some (B_grid_GridO 4 a0.grids_1), some (blk_cell_Cell a0.grids_1.l), some (B_tabs_StopsO_1 6 a0.stops), some (boolB a0.stops.at_), some (B_utf_DecoderO 8 a0.signs), some (intB .u8 a0.signs.b), some (B_esc_ParserO 10 11 12 a0.asks), some (intB .i64 a0.asks.params), some (intB .i32 a0.asks.text), some (blk_esc_Event a0.asks.out), some (intB .u8 a0.reply)] (v_F11 a0 y) (x_F11 a0 y) :=
  Spec.ofM (fn := Tryz.f11) (c := bodyOf Tryz.f11) (n := 39) (rs := Tryz.f11.results.toList) Tryz.func11 (by kernel_rfl) (by kernel_rfl) (by kernel_rfl) (by kernel_rfl) fun cx => by
  unfold F11 at h
  obtain ⟨r1, h1, h⟩ := of_bnd h
  rcases of_sm h with ⟨r2, rfl, h⟩ | ⟨r3, rfl, h⟩
  · obtain ⟨r4, h2, h⟩ := of_bnd h
    replace h := Option.some.inj h
    subst h
    exact WM.retE mixed (e_F11 a0 ((screen_ScreenO.mk a0.rows a0.cols r4.1 r4.2 a0.kept.cursor.row a0.kept.cursor.col a0.hidden a0.title))) [R_ [.op (.fresh 14 (svB 7 [.i .i64 0, .i .i64 0, .nils, .i .i64 0, .i .i64 0, .b false, .s []]))], R_ [o_, o_, o_, o_, o_, o_, o_, o_, o_, c_ (mkCallT Tryz.call28 (F28_ok h1) [0, 1, 2, 3, 4, 5, 6, 7, 8, 9, 10, 11, 12, 13] [0, 1, 2, 3, 4, 5, 6, 7, 8, 9, 10, 11, 12, 13] (by kernel_rfl) (by kernel_rfl) (by kernel_rfl) (by kernel_rfl)), c_ (mkCallT Tryz.call29 (F29_ok h2) [1, 2, 15] [1, 2] (by kernel_rfl) (by kernel_rfl) (by kernel_rfl) (by kernel_rfl)), o_, o_, o_, o_, o_, o_, o_, o_, o_, o_, o_, o_, o_, o_, o_, o_, o_, o_, o_, o_, o_, o_, o_, o_, o_, o_]] [some 0, some 1, some 2, some 3, some 4, some 5, some 6, some 7, some 8, some 9, some 10, some 11, some 12, some 13, some 14, some 15] (pc zlt1 <| pc zlt1 <| pc zlt1 <| pc zlt1 <| pc zlt1 <| pc zlt1 <| pc zlt1 <| allP_nil) (by kernel_rfl) (by kernel_rfl)
  · obtain ⟨r5, h3, h⟩ := of_bnd h
    replace h := Option.some.inj h
    subst h
    exact WM.retE mixed (e_F11 a0 ((screen_ScreenO.mk a0.rows a0.cols r5.1 r5.2 a0.kept.cursor.row a0.kept.cursor.col a0.hidden a0.title))) [R_ [.op (.fresh 14 (svB 7 [.i .i64 0, .i .i64 0, .nils, .i .i64 0, .i .i64 0, .b false, .s []]))], R_ [o_, o_, o_, o_, o_, o_, o_, o_, o_, c_ (mkCallT Tryz.call28 (F28_ok h1) [0, 1, 2, 3, 4, 5, 6, 7, 8, 9, 10, 11, 12, 13] [0, 1, 2, 3, 4, 5, 6, 7, 8, 9, 10, 11, 12, 13] (by kernel_rfl) (by kernel_rfl) (by kernel_rfl) (by kernel_rfl)), c_ (mkCallT Tryz.call29 (F29_ok h3) [3, 4, 15] [3, 4] (by kernel_rfl) (by kernel_rfl) (by kernel_rfl) (by kernel_rfl)), o_, o_, o_, o_, o_, o_, o_, o_, o_, o_, o_, o_, o_, o_, o_, o_, o_, o_, o_, o_, o_, o_, o_, o_, o_, o_]] [some 0, some 1, some 2, some 3, some 4, some 5, some 6, some 7, some 8, some 9, some 10, some 11, some 12, some 13, some 14, some 15] (pc zlt1 <| pc zlt1 <| pc zlt1 <| pc zlt1 <| pc zlt1 <| pc zlt1 <| pc zlt1 <| allP_nil) (by kernel_rfl) (by kernel_rfl)

/-! ### F30: function 30 tickertape/screen.Mended -/
def F30_p1_b (f : Nat) (g1 : Int → Option (Bool)) (a2_n : Nat) (a2 : List cell_Cell) (a1 : Int) (x25_1 : Int) : Option (Bool) :=
  ifb (decide (x25_1 < ((a2_n : Nat) : Int))) (
    chk (0 ≤ x25_1) <|
    chk (x25_1 < ((a2_n : Nat) : Int)) <|
    chk ((0 + x25_1.toNat) < a2.length) <|
    chk (a1 ≠ 0) <|
    chk (inR (a1 - 1)) <|
    bnd (F48 f ({ (a2.getD (0 + x25_1.toNat) zero_cell_Cell) with Attr := ((a2.getD (0 + x25_1.toNat) zero_cell_Cell).Attr) } : cell_Cell)) fun r2 =>
    ifb ((!r2)) (
      some (false)) (
      chk (((decide ((a2.getD (0 + x25_1.toNat) zero_cell_Cell).Wide = 1) && (!(decide ((Int.tmod x25_1 a1) = (a1 - 1))))) = true → inR (x25_1 + 1))) <|
      chk (((decide ((a2.getD (0 + x25_1.toNat) zero_cell_Cell).Wide = 1) && (!(decide ((Int.tmod x25_1 a1) = (a1 - 1))))) = true → 0 ≤ (x25_1 + 1))) <|
      chk (((decide ((a2.getD (0 + x25_1.toNat) zero_cell_Cell).Wide = 1) && (!(decide ((Int.tmod x25_1 a1) = (a1 - 1))))) = true → (x25_1 + 1) < ((a2_n : Nat) : Int))) <|
      chk (((decide ((a2.getD (0 + x25_1.toNat) zero_cell_Cell).Wide = 1) && (!(decide ((Int.tmod x25_1 a1) = (a1 - 1))))) = true → (0 + ((x25_1 + 1)).toNat) < a2.length)) <|
      ifb ((decide ((a2.getD (0 + x25_1.toNat) zero_cell_Cell).Wide = 1) && (decide ((Int.tmod x25_1 a1) = (a1 - 1)) || (!(decide ((a2.getD (0 + ((x25_1 + 1)).toNat) zero_cell_Cell).Wide = 2)))))) (
        some (false)) (
        chk (((decide ((a2.getD (0 + x25_1.toNat) zero_cell_Cell).Wide = 2) && (!(decide ((Int.tmod x25_1 a1) = 0)))) = true → inR (x25_1 - 1))) <|
        chk (((decide ((a2.getD (0 + x25_1.toNat) zero_cell_Cell).Wide = 2) && (!(decide ((Int.tmod x25_1 a1) = 0)))) = true → 0 ≤ (x25_1 - 1))) <|
        chk (((decide ((a2.getD (0 + x25_1.toNat) zero_cell_Cell).Wide = 2) && (!(decide ((Int.tmod x25_1 a1) = 0)))) = true → (x25_1 - 1) < ((a2_n : Nat) : Int))) <|
        chk (((decide ((a2.getD (0 + x25_1.toNat) zero_cell_Cell).Wide = 2) && (!(decide ((Int.tmod x25_1 a1) = 0)))) = true → (0 + ((x25_1 - 1)).toNat) < a2.length)) <|
        ifb ((decide ((a2.getD (0 + x25_1.toNat) zero_cell_Cell).Wide = 2) && (decide ((Int.tmod x25_1 a1) = 0) || (!(decide ((a2.getD (0 + ((x25_1 - 1)).toNat) zero_cell_Cell).Wide = 1)))))) (
          some (false)) (
          chk (inR (x25_1 + 1)) <|
          g1 (x25_1 + 1))))) (
    some (true))
def F30_p1 (f : Nat) (a2_n : Nat) (a2 : List cell_Cell) (a1 : Int) : Nat → Int → Option (Bool)
  | 0, _ => none
  | j + 1, x25_1 => F30_p1_b f (F30_p1 f a2_n a2 a1 j) a2_n a2 a1 x25_1
def F30 (f : Nat) (a0 : Int) (a1 : Int) (a2_n : Nat) (a2 : List cell_Cell) : Option (Bool) :=
  bnd (F34 f a0 a1) fun r1 =>
  ifb (((!r1) || (!(decide (((a2_n : Nat) : Int) = (wr (a0 * a1))))))) (
    some (false)) (
    F30_p1 f a2_n a2 a1 f 0)
def v_F30 (a0 : Int) (a1 : Int) (a2_n : Nat) (a2 : List cell_Cell) (y : Bool) : V :=
  .b y
def e_F30 (a0 : Int) (a1 : Int) (a2_n : Nat) (a2 : List cell_Cell) (y : Bool) : Env :=
  [(6, ⟨none, .b y⟩)]
def x_F30 (a0 : Int) (a1 : Int) (a2_n : Nat) (a2 : List cell_Cell) (y : Bool) : List (Option Blk) :=
  [some (blk_cell_Cell a2)]
set_option maxRecDepth 100000 in
set_option maxHeartbeats 4000000 in
theorem F30_p1_bok {cx : Cx} {f : Nat} {I1 : Act → World → Prop} {g1 : Int → Option (Bool)} {a0 : Int} {a1 : Int} {a2_n : Nat} {a2 : List cell_Cell} {x25_1 : Int} {y : Bool} (hg1 : ∀ (x25_1 : Int), g1 x25_1 = some y → ∀ a w, cx.In G0 77 1 [(1, ⟨none, .i .i64 a1⟩), (2, ⟨none, .sl 0 0 a2_n⟩), (23, ⟨none, .sl 0 0 a2_n⟩), (24, ⟨none, .i .i64 ((a2_n : Nat) : Int)⟩), (25, ⟨none, .i .i64 x25_1⟩)] [some (blk_cell_Cell a2)] a w → I1 a w) (h : F30_p1_b f g1 a2_n a2 a1 x25_1 = some y) :
    WM Tryz.prog G0 77 1 Tryz.f30.results.toList (v_F30 a0 a1 a2_n a2 y) (x_F30 a0 a1 a2_n a2 y) cx (nav [.r, .r, .f, .r, .l I1] [.code (bodyOf Tryz.f30)]) [(1, ⟨none, .i .i64 a1⟩), (2, ⟨none, .sl 0 0 a2_n⟩), (23, ⟨none, .sl 0 0 a2_n⟩), (24, ⟨none, .i .i64 ((a2_n : Nat) : Int)⟩), (25, ⟨none, .i .i64 x25_1⟩)] [some (blk_cell_Cell a2)] := by
  unfold F30_p1_b at h
  rcases of_ifb h with ⟨h3, h⟩ | ⟨h3, h⟩
  · obtain ⟨h4, h⟩ := of_chk h
    obtain ⟨h5, h⟩ := of_chk h
    obtain ⟨h6, h⟩ := of_chk h
    obtain ⟨h7, h⟩ := of_chk h
    obtain ⟨h8, h⟩ := of_chk h
    obtain ⟨r2, h9, h⟩ := of_bnd h
    rcases of_ifb h with ⟨h10, h⟩ | ⟨h10, h⟩
    · replace h := Option.some.inj h
      subst h
      exact WM.retE mixed (e_F30 a0 a1 a2_n a2 (false)) [R_ [o_], T_, R_ [o_, o_, o_, .op (.fresh 1 (svB 5 [.i .i32 0, .i .i64 0, .i .i64 0, .i .i64 0, .i .i64 0])), o_, o_], R_ [o_, o_, o_, o_, o_, o_, o_, o_, o_, o_, o_, o_], R_ [o_, c_ (mkCall Tryz.call48 (F48_ok h9) [] (by kernel_rfl) (by kernel_rfl)), o_, o_], T_, R_ [o_]] [some 0] (pc ((h3 : decide (x25_1 < ((a2_n : Nat) : Int)) = true)) <| pc h4 <| pc h5 <| pc h6 <| pc zlt1 <| pc h7 <| pc h7 <| pc h8 <| pc zlt1 <| pc ((h10 : (!r2) = true)) <| allP_nil) (by kernel_rfl) (by kernel_rfl)
    · obtain ⟨h11, h⟩ := of_chk h
      obtain ⟨h12, h⟩ := of_chk h
      obtain ⟨h13, h⟩ := of_chk h
      obtain ⟨h14, h⟩ := of_chk h
      rcases of_ifb h with ⟨h15, h⟩ | ⟨h15, h⟩
      · replace h := Option.some.inj h
        subst h
        exact WM.retE mixed (e_F30 a0 a1 a2_n a2 (false)) [R_ [o_], T_, R_ [o_, o_, o_, .op (.fresh 1 (svB 5 [.i .i32 0, .i .i64 0, .i .i64 0, .i .i64 0, .i .i64 0])), o_, o_], R_ [o_, o_, o_, o_, o_, o_, o_, o_, o_, o_, o_, o_], R_ [o_, c_ (mkCall Tryz.call48 (F48_ok h9) [] (by kernel_rfl) (by kernel_rfl)), o_, o_], F_, R_ [o_, o_, o_, o_, o_, o_, o_, o_, o_, o_, o_, o_, o_, o_, o_, o_], T_, R_ [o_]] [some 0] (pc ((h3 : decide (x25_1 < ((a2_n : Nat) : Int)) = true)) <| pc h4 <| pc h5 <| pc h6 <| pc zlt1 <| pc h7 <| pc h7 <| pc h8 <| pc zlt1 <| pc ((h10 : (!r2) = false)) <| pc zlt1 <| pc ((fun h => h : (decide ((a2.getD (0 + x25_1.toNat) zero_cell_Cell).Wide = 1) = true → decide ((a2.getD (0 + x25_1.toNat) zero_cell_Cell).Wide = 1) = true))) <| pc ((fun h => h : ((decide ((a2.getD (0 + x25_1.toNat) zero_cell_Cell).Wide = 1) && (!(decide ((Int.tmod x25_1 a1) = (a1 - 1))))) = true → (decide ((a2.getD (0 + x25_1.toNat) zero_cell_Cell).Wide = 1) && (!(decide ((Int.tmod x25_1 a1) = (a1 - 1))))) = true))) <| pc h11 <| pc ((fun h => h : ((decide ((a2.getD (0 + x25_1.toNat) zero_cell_Cell).Wide = 1) && (!(decide ((Int.tmod x25_1 a1) = (a1 - 1))))) = true → (decide ((a2.getD (0 + x25_1.toNat) zero_cell_Cell).Wide = 1) && (!(decide ((Int.tmod x25_1 a1) = (a1 - 1))))) = true))) <| pc ((fun h => h : ((decide ((a2.getD (0 + x25_1.toNat) zero_cell_Cell).Wide = 1) && (!(decide ((Int.tmod x25_1 a1) = (a1 - 1))))) = true → (decide ((a2.getD (0 + x25_1.toNat) zero_cell_Cell).Wide = 1) && (!(decide ((Int.tmod x25_1 a1) = (a1 - 1))))) = true))) <| pc h12 <| pc h13 <| pc ((fun h => h : ((decide ((a2.getD (0 + x25_1.toNat) zero_cell_Cell).Wide = 1) && (!(decide ((Int.tmod x25_1 a1) = (a1 - 1))))) = true → (decide ((a2.getD (0 + x25_1.toNat) zero_cell_Cell).Wide = 1) && (!(decide ((Int.tmod x25_1 a1) = (a1 - 1))))) = true))) <| pc ((fun h => h : ((decide ((a2.getD (0 + x25_1.toNat) zero_cell_Cell).Wide = 1) && (!(decide ((Int.tmod x25_1 a1) = (a1 - 1))))) = true → (decide ((a2.getD (0 + x25_1.toNat) zero_cell_Cell).Wide = 1) && (!(decide ((Int.tmod x25_1 a1) = (a1 - 1))))) = true))) <| pc h14 <| pc ((fun h => h : ((decide ((a2.getD (0 + x25_1.toNat) zero_cell_Cell).Wide = 1) && (!(decide ((Int.tmod x25_1 a1) = (a1 - 1))))) = true → (decide ((a2.getD (0 + x25_1.toNat) zero_cell_Cell).Wide = 1) && (!(decide ((Int.tmod x25_1 a1) = (a1 - 1))))) = true))) <| pc ((fun h => h : (decide ((a2.getD (0 + x25_1.toNat) zero_cell_Cell).Wide = 1) = true → decide ((a2.getD (0 + x25_1.toNat) zero_cell_Cell).Wide = 1) = true))) <| pc ((fun k1 k2 => (and_t k1 (not_t k2)) : (decide ((a2.getD (0 + x25_1.toNat) zero_cell_Cell).Wide = 1) = true → (decide ((Int.tmod x25_1 a1) = (a1 - 1)) = false → (decide ((a2.getD (0 + x25_1.toNat) zero_cell_Cell).Wide = 1) && (!(decide ((Int.tmod x25_1 a1) = (a1 - 1))))) = true)))) <| pc ((fun k2 => k2 : (decide ((a2.getD (0 + x25_1.toNat) zero_cell_Cell).Wide = 1) = true → decide ((a2.getD (0 + x25_1.toNat) zero_cell_Cell).Wide = 1) = true))) <| pc ((h15 : (decide ((a2.getD (0 + x25_1.toNat) zero_cell_Cell).Wide = 1) && (decide ((Int.tmod x25_1 a1) = (a1 - 1)) || (!(decide ((a2.getD (0 + ((x25_1 + 1)).toNat) zero_cell_Cell).Wide = 2))))) = true)) <| allP_nil) (by kernel_rfl) (by kernel_rfl)
      · obtain ⟨h16, h⟩ := of_chk h
        obtain ⟨h17, h⟩ := of_chk h
        obtain ⟨h18, h⟩ := of_chk h
        obtain ⟨h19, h⟩ := of_chk h
        rcases of_ifb h with ⟨h20, h⟩ | ⟨h20, h⟩
        · replace h := Option.some.inj h
          subst h
          exact WM.retE mixed (e_F30 a0 a1 a2_n a2 (false)) [R_ [o_], T_, R_ [o_, o_, o_, .op (.fresh 1 (svB 5 [.i .i32 0, .i .i64 0, .i .i64 0, .i .i64 0, .i .i64 0])), o_, o_], R_ [o_, o_, o_, o_, o_, o_, o_, o_, o_, o_, o_, o_], R_ [o_, c_ (mkCall Tryz.call48 (F48_ok h9) [] (by kernel_rfl) (by kernel_rfl)), o_, o_], F_, R_ [o_, o_, o_, o_, o_, o_, o_, o_, o_, o_, o_, o_, o_, o_, o_, o_], F_, R_ [o_, o_, o_, o_, o_, o_, o_, o_, o_, o_, o_, o_, o_, o_, o_, o_], T_, R_ [o_]] [some 0] (pc ((h3 : decide (x25_1 < ((a2_n : Nat) : Int)) = true)) <| pc h4 <| pc h5 <| pc h6 <| pc zlt1 <| pc h7 <| pc h7 <| pc h8 <| pc zlt1 <| pc ((h10 : (!r2) = false)) <| pc zlt1 <| pc ((fun h => h : (decide ((a2.getD (0 + x25_1.toNat) zero_cell_Cell).Wide = 1) = true → decide ((a2.getD (0 + x25_1.toNat) zero_cell_Cell).Wide = 1) = true))) <| pc ((fun h => h : ((decide ((a2.getD (0 + x25_1.toNat) zero_cell_Cell).Wide = 1) && (!(decide ((Int.tmod x25_1 a1) = (a1 - 1))))) = true → (decide ((a2.getD (0 + x25_1.toNat) zero_cell_Cell).Wide = 1) && (!(decide ((Int.tmod x25_1 a1) = (a1 - 1))))) = true))) <| pc h11 <| pc ((fun h => h : ((decide ((a2.getD (0 + x25_1.toNat) zero_cell_Cell).Wide = 1) && (!(decide ((Int.tmod x25_1 a1) = (a1 - 1))))) = true → (decide ((a2.getD (0 + x25_1.toNat) zero_cell_Cell).Wide = 1) && (!(decide ((Int.tmod x25_1 a1) = (a1 - 1))))) = true))) <| pc ((fun h => h : ((decide ((a2.getD (0 + x25_1.toNat) zero_cell_Cell).Wide = 1) && (!(decide ((Int.tmod x25_1 a1) = (a1 - 1))))) = true → (decide ((a2.getD (0 + x25_1.toNat) zero_cell_Cell).Wide = 1) && (!(decide ((Int.tmod x25_1 a1) = (a1 - 1))))) = true))) <| pc h12 <| pc h13 <| pc ((fun h => h : ((decide ((a2.getD (0 + x25_1.toNat) zero_cell_Cell).Wide = 1) && (!(decide ((Int.tmod x25_1 a1) = (a1 - 1))))) = true → (decide ((a2.getD (0 + x25_1.toNat) zero_cell_Cell).Wide = 1) && (!(decide ((Int.tmod x25_1 a1) = (a1 - 1))))) = true))) <| pc ((fun h => h : ((decide ((a2.getD (0 + x25_1.toNat) zero_cell_Cell).Wide = 1) && (!(decide ((Int.tmod x25_1 a1) = (a1 - 1))))) = true → (decide ((a2.getD (0 + x25_1.toNat) zero_cell_Cell).Wide = 1) && (!(decide ((Int.tmod x25_1 a1) = (a1 - 1))))) = true))) <| pc h14 <| pc ((fun h => h : ((decide ((a2.getD (0 + x25_1.toNat) zero_cell_Cell).Wide = 1) && (!(decide ((Int.tmod x25_1 a1) = (a1 - 1))))) = true → (decide ((a2.getD (0 + x25_1.toNat) zero_cell_Cell).Wide = 1) && (!(decide ((Int.tmod x25_1 a1) = (a1 - 1))))) = true))) <| pc ((fun h => h : (decide ((a2.getD (0 + x25_1.toNat) zero_cell_Cell).Wide = 1) = true → decide ((a2.getD (0 + x25_1.toNat) zero_cell_Cell).Wide = 1) = true))) <| pc ((fun k1 k2 => (and_t k1 (not_t k2)) : (decide ((a2.getD (0 + x25_1.toNat) zero_cell_Cell).Wide = 1) = true → (decide ((Int.tmod x25_1 a1) = (a1 - 1)) = false → (decide ((a2.getD (0 + x25_1.toNat) zero_cell_Cell).Wide = 1) && (!(decide ((Int.tmod x25_1 a1) = (a1 - 1))))) = true)))) <| pc ((fun k2 => k2 : (decide ((a2.getD (0 + x25_1.toNat) zero_cell_Cell).Wide = 1) = true → decide ((a2.getD (0 + x25_1.toNat) zero_cell_Cell).Wide = 1) = true))) <| pc ((h15 : (decide ((a2.getD (0 + x25_1.toNat) zero_cell_Cell).Wide = 1) && (decide ((Int.tmod x25_1 a1) = (a1 - 1)) || (!(decide ((a2.getD (0 + ((x25_1 + 1)).toNat) zero_cell_Cell).Wide = 2))))) = false)) <| pc zlt1 <| pc ((fun h => h : (decide ((a2.getD (0 + x25_1.toNat) zero_cell_Cell).Wide = 2) = true → decide ((a2.getD (0 + x25_1.toNat) zero_cell_Cell).Wide = 2) = true))) <| pc ((fun h => h : ((decide ((a2.getD (0 + x25_1.toNat) zero_cell_Cell).Wide = 2) && (!(decide ((Int.tmod x25_1 a1) = 0)))) = true → (decide ((a2.getD (0 + x25_1.toNat) zero_cell_Cell).Wide = 2) && (!(decide ((Int.tmod x25_1 a1) = 0)))) = true))) <| pc h16 <| pc ((fun h => h : ((decide ((a2.getD (0 + x25_1.toNat) zero_cell_Cell).Wide = 2) && (!(decide ((Int.tmod x25_1 a1) = 0)))) = true → (decide ((a2.getD (0 + x25_1.toNat) zero_cell_Cell).Wide = 2) && (!(decide ((Int.tmod x25_1 a1) = 0)))) = true))) <| pc ((fun h => h : ((decide ((a2.getD (0 + x25_1.toNat) zero_cell_Cell).Wide = 2) && (!(decide ((Int.tmod x25_1 a1) = 0)))) = true → (decide ((a2.getD (0 + x25_1.toNat) zero_cell_Cell).Wide = 2) && (!(decide ((Int.tmod x25_1 a1) = 0)))) = true))) <| pc h17 <| pc h18 <| pc ((fun h => h : ((decide ((a2.getD (0 + x25_1.toNat) zero_cell_Cell).Wide = 2) && (!(decide ((Int.tmod x25_1 a1) = 0)))) = true → (decide ((a2.getD (0 + x25_1.toNat) zero_cell_Cell).Wide = 2) && (!(decide ((Int.tmod x25_1 a1) = 0)))) = true))) <| pc ((fun h => h : ((decide ((a2.getD (0 + x25_1.toNat) zero_cell_Cell).Wide = 2) && (!(decide ((Int.tmod x25_1 a1) = 0)))) = true → (decide ((a2.getD (0 + x25_1.toNat) zero_cell_Cell).Wide = 2) && (!(decide ((Int.tmod x25_1 a1) = 0)))) = true))) <| pc h19 <| pc ((fun h => h : ((decide ((a2.getD (0 + x25_1.toNat) zero_cell_Cell).Wide = 2) && (!(decide ((Int.tmod x25_1 a1) = 0)))) = true → (decide ((a2.getD (0 + x25_1.toNat) zero_cell_Cell).Wide = 2) && (!(decide ((Int.tmod x25_1 a1) = 0)))) = true))) <| pc ((fun h => h : (decide ((a2.getD (0 + x25_1.toNat) zero_cell_Cell).Wide = 2) = true → decide ((a2.getD (0 + x25_1.toNat) zero_cell_Cell).Wide = 2) = true))) <| pc ((fun k1 k2 => (and_t k1 (not_t k2)) : (decide ((a2.getD (0 + x25_1.toNat) zero_cell_Cell).Wide = 2) = true → (decide ((Int.tmod x25_1 a1) = 0) = false → (decide ((a2.getD (0 + x25_1.toNat) zero_cell_Cell).Wide = 2) && (!(decide ((Int.tmod x25_1 a1) = 0)))) = true)))) <| pc ((fun k2 => k2 : (decide ((a2.getD (0 + x25_1.toNat) zero_cell_Cell).Wide = 2) = true → decide ((a2.getD (0 + x25_1.toNat) zero_cell_Cell).Wide = 2) = true))) <| pc ((h20 : (decide ((a2.getD (0 + x25_1.toNat) zero_cell_Cell).Wide = 2) && (decide ((Int.tmod x25_1 a1) = 0) || (!(decide ((a2.getD (0 + ((x25_1 - 1)).toNat) zero_cell_Cell).Wide = 1))))) = true)) <| allP_nil) (by kernel_rfl) (by kernel_rfl)
        · obtain ⟨h21, h⟩ := of_chk h
          exact WM.cut mixed [R_ [o_], T_, R_ [o_, o_, o_, .op (.fresh 1 (svB 5 [.i .i32 0, .i .i64 0, .i .i64 0, .i .i64 0, .i .i64 0])), o_, o_], R_ [o_, o_, o_, o_, o_, o_, o_, o_, o_, o_, o_, o_], R_ [o_, c_ (mkCall Tryz.call48 (F48_ok h9) [] (by kernel_rfl) (by kernel_rfl)), o_, o_], F_, R_ [o_, o_, o_, o_, o_, o_, o_, o_, o_, o_, o_, o_, o_, o_, o_, o_], F_, R_ [o_, o_, o_, o_, o_, o_, o_, o_, o_, o_, o_, o_, o_, o_, o_, o_], F_, R_ [o_, o_]] [some 0] (pc ((h3 : decide (x25_1 < ((a2_n : Nat) : Int)) = true)) <| pc h4 <| pc h5 <| pc h6 <| pc zlt1 <| pc h7 <| pc h7 <| pc h8 <| pc zlt1 <| pc ((h10 : (!r2) = false)) <| pc zlt1 <| pc ((fun h => h : (decide ((a2.getD (0 + x25_1.toNat) zero_cell_Cell).Wide = 1) = true → decide ((a2.getD (0 + x25_1.toNat) zero_cell_Cell).Wide = 1) = true))) <| pc ((fun h => h : ((decide ((a2.getD (0 + x25_1.toNat) zero_cell_Cell).Wide = 1) && (!(decide ((Int.tmod x25_1 a1) = (a1 - 1))))) = true → (decide ((a2.getD (0 + x25_1.toNat) zero_cell_Cell).Wide = 1) && (!(decide ((Int.tmod x25_1 a1) = (a1 - 1))))) = true))) <| pc h11 <| pc ((fun h => h : ((decide ((a2.getD (0 + x25_1.toNat) zero_cell_Cell).Wide = 1) && (!(decide ((Int.tmod x25_1 a1) = (a1 - 1))))) = true → (decide ((a2.getD (0 + x25_1.toNat) zero_cell_Cell).Wide = 1) && (!(decide ((Int.tmod x25_1 a1) = (a1 - 1))))) = true))) <| pc ((fun h => h : ((decide ((a2.getD (0 + x25_1.toNat) zero_cell_Cell).Wide = 1) && (!(decide ((Int.tmod x25_1 a1) = (a1 - 1))))) = true → (decide ((a2.getD (0 + x25_1.toNat) zero_cell_Cell).Wide = 1) && (!(decide ((Int.tmod x25_1 a1) = (a1 - 1))))) = true))) <| pc h12 <| pc h13 <| pc ((fun h => h : ((decide ((a2.getD (0 + x25_1.toNat) zero_cell_Cell).Wide = 1) && (!(decide ((Int.tmod x25_1 a1) = (a1 - 1))))) = true → (decide ((a2.getD (0 + x25_1.toNat) zero_cell_Cell).Wide = 1) && (!(decide ((Int.tmod x25_1 a1) = (a1 - 1))))) = true))) <| pc ((fun h => h : ((decide ((a2.getD (0 + x25_1.toNat) zero_cell_Cell).Wide = 1) && (!(decide ((Int.tmod x25_1 a1) = (a1 - 1))))) = true → (decide ((a2.getD (0 + x25_1.toNat) zero_cell_Cell).Wide = 1) && (!(decide ((Int.tmod x25_1 a1) = (a1 - 1))))) = true))) <| pc h14 <| pc ((fun h => h : ((decide ((a2.getD (0 + x25_1.toNat) zero_cell_Cell).Wide = 1) && (!(decide ((Int.tmod x25_1 a1) = (a1 - 1))))) = true → (decide ((a2.getD (0 + x25_1.toNat) zero_cell_Cell).Wide = 1) && (!(decide ((Int.tmod x25_1 a1) = (a1 - 1))))) = true))) <| pc ((fun h => h : (decide ((a2.getD (0 + x25_1.toNat) zero_cell_Cell).Wide = 1) = true → decide ((a2.getD (0 + x25_1.toNat) zero_cell_Cell).Wide = 1) = true))) <| pc ((fun k1 k2 => (and_t k1 (not_t k2)) : (decide ((a2.getD (0 + x25_1.toNat) zero_cell_Cell).Wide = 1) = true → (decide ((Int.tmod x25_1 a1) = (a1 - 1)) = false → (decide ((a2.getD (0 + x25_1.toNat) zero_cell_Cell).Wide = 1) && (!(decide ((Int.tmod x25_1 a1) = (a1 - 1))))) = true)))) <| pc ((fun k2 => k2 : (decide ((a2.getD (0 + x25_1.toNat) zero_cell_Cell).Wide = 1) = true → decide ((a2.getD (0 + x25_1.toNat) zero_cell_Cell).Wide = 1) = true))) <| pc ((h15 : (decide ((a2.getD (0 + x25_1.toNat) zero_cell_Cell).Wide = 1) && (decide ((Int.tmod x25_1 a1) = (a1 - 1)) || (!(decide ((a2.getD (0 + ((x25_1 + 1)).toNat) zero_cell_Cell).Wide = 2))))) = false)) <| pc zlt1 <| pc ((fun h => h : (decide ((a2.getD (0 + x25_1.toNat) zero_cell_Cell).Wide = 2) = true → decide ((a2.getD (0 + x25_1.toNat) zero_cell_Cell).Wide = 2) = true))) <| pc ((fun h => h : ((decide ((a2.getD (0 + x25_1.toNat) zero_cell_Cell).Wide = 2) && (!(decide ((Int.tmod x25_1 a1) = 0)))) = true → (decide ((a2.getD (0 + x25_1.toNat) zero_cell_Cell).Wide = 2) && (!(decide ((Int.tmod x25_1 a1) = 0)))) = true))) <| pc h16 <| pc ((fun h => h : ((decide ((a2.getD (0 + x25_1.toNat) zero_cell_Cell).Wide = 2) && (!(decide ((Int.tmod x25_1 a1) = 0)))) = true → (decide ((a2.getD (0 + x25_1.toNat) zero_cell_Cell).Wide = 2) && (!(decide ((Int.tmod x25_1 a1) = 0)))) = true))) <| pc ((fun h => h : ((decide ((a2.getD (0 + x25_1.toNat) zero_cell_Cell).Wide = 2) && (!(decide ((Int.tmod x25_1 a1) = 0)))) = true → (decide ((a2.getD (0 + x25_1.toNat) zero_cell_Cell).Wide = 2) && (!(decide ((Int.tmod x25_1 a1) = 0)))) = true))) <| pc h17 <| pc h18 <| pc ((fun h => h : ((decide ((a2.getD (0 + x25_1.toNat) zero_cell_Cell).Wide = 2) && (!(decide ((Int.tmod x25_1 a1) = 0)))) = true → (decide ((a2.getD (0 + x25_1.toNat) zero_cell_Cell).Wide = 2) && (!(decide ((Int.tmod x25_1 a1) = 0)))) = true))) <| pc ((fun h => h : ((decide ((a2.getD (0 + x25_1.toNat) zero_cell_Cell).Wide = 2) && (!(decide ((Int.tmod x25_1 a1) = 0)))) = true → (decide ((a2.getD (0 + x25_1.toNat) zero_cell_Cell).Wide = 2) && (!(decide ((Int.tmod x25_1 a1) = 0)))) = true))) <| pc h19 <| pc ((fun h => h : ((decide ((a2.getD (0 + x25_1.toNat) zero_cell_Cell).Wide = 2) && (!(decide ((Int.tmod x25_1 a1) = 0)))) = true → (decide ((a2.getD (0 + x25_1.toNat) zero_cell_Cell).Wide = 2) && (!(decide ((Int.tmod x25_1 a1) = 0)))) = true))) <| pc ((fun h => h : (decide ((a2.getD (0 + x25_1.toNat) zero_cell_Cell).Wide = 2) = true → decide ((a2.getD (0 + x25_1.toNat) zero_cell_Cell).Wide = 2) = true))) <| pc ((fun k1 k2 => (and_t k1 (not_t k2)) : (decide ((a2.getD (0 + x25_1.toNat) zero_cell_Cell).Wide = 2) = true → (decide ((Int.tmod x25_1 a1) = 0) = false → (decide ((a2.getD (0 + x25_1.toNat) zero_cell_Cell).Wide = 2) && (!(decide ((Int.tmod x25_1 a1) = 0)))) = true)))) <| pc ((fun k2 => k2 : (decide ((a2.getD (0 + x25_1.toNat) zero_cell_Cell).Wide = 2) = true → decide ((a2.getD (0 + x25_1.toNat) zero_cell_Cell).Wide = 2) = true))) <| pc ((h20 : (decide ((a2.getD (0 + x25_1.toNat) zero_cell_Cell).Wide = 2) && (decide ((Int.tmod x25_1 a1) = 0) || (!(decide ((a2.getD (0 + ((x25_1 - 1)).toNat) zero_cell_Cell).Wide = 1))))) = false)) <| pc h21 <| allP_nil) (WM.again (k := (nav [.r, .r, .f, .r, .n] [.code (bodyOf Tryz.f30)]).tail) (hg1 _ h)) (by kernel_rfl)
  · replace h := Option.some.inj h
    subst h
    exact WM.retE mixed (e_F30 a0 a1 a2_n a2 (true)) [R_ [o_], F_, R_ [o_]] [some 0] (pc ((h3 : decide (x25_1 < ((a2_n : Nat) : Int)) = false)) <| allP_nil) (by kernel_rfl) (by kernel_rfl)
set_option maxRecDepth 100000 in
set_option maxHeartbeats 4000000 in
theorem F30_p1_ok {cx : Cx} {f : Nat} {a0 : Int} {a1 : Int} {a2_n : Nat} {a2 : List cell_Cell} {x25_1 : Int} {j : Nat} {y : Bool} (h : F30_p1 f a2_n a2 a1 j x25_1 = some y) :
    WM Tryz.prog G0 77 1 Tryz.f30.results.toList (v_F30 a0 a1 a2_n a2 y) (x_F30 a0 a1 a2_n a2 y) cx (nav [.r, .r, .f, .r, .n] [.code (bodyOf Tryz.f30)]) [(1, ⟨none, .i .i64 a1⟩), (2, ⟨none, .sl 0 0 a2_n⟩), (23, ⟨none, .sl 0 0 a2_n⟩), (24, ⟨none, .i .i64 ((a2_n : Nat) : Int)⟩), (25, ⟨none, .i .i64 x25_1⟩)] [some (blk_cell_Cell a2)] := by
  refine WM.loopN (X := Int) (y := y) (kb := fun I1 => (nav [.r, .r, .f, .r, .l I1] [.code (bodyOf Tryz.f30)])) (by intro I; kernel_rfl) (fun j x => F30_p1 f a2_n a2 a1 j x) (fun x => [(1, ⟨none, .i .i64 a1⟩), (2, ⟨none, .sl 0 0 a2_n⟩), (23, ⟨none, .sl 0 0 a2_n⟩), (24, ⟨none, .i .i64 ((a2_n : Nat) : Int)⟩), (25, ⟨none, .i .i64 x⟩)]) (fun x => [some (blk_cell_Cell a2)]) ?_ (j := j) (x := x25_1) h
  intro j x I1 h hI
  cases j with
  | zero => cases h
  | succ j => exact F30_p1_bok (fun x0 => hI j x0 (Nat.lt_succ_self j)) h
set_option maxRecDepth 100000 in
set_option maxHeartbeats 4000000 in
theorem F30_ok {f : Nat} {a0 : Int} {a1 : Int} {a2_n : Nat} {a2 : List cell_Cell} {y : Bool} (h : F30 f a0 a1 a2_n a2 = some y) :
    Spec Tryz.prog G0 30 [.i .i64 a0, .i .i64 a1, .sl 0 0 a2_n] [some (blk_cell_Cell a2)] (v_F30 a0 a1 a2_n a2 y) (x_F30 a0 a1 a2_n a2 y) :=
  Spec.ofM (fn := Tryz.f30) (c := bodyOf Tryz.f30) (n := 77) (rs := Tryz.f30.results.toList) Tryz.func30 (by kernel_rfl) (by kernel_rfl) (by kernel_rfl) (by kernel_rfl) fun cx => by
  unfold F30 at h
  obtain ⟨r1, h1, h⟩ := of_bnd h
  rcases of_ifb h with ⟨h2, h⟩ | ⟨h2, h⟩
  · replace h := Option.some.inj h
    subst h
    exact WM.retE mixed (e_F30 a0 a1 a2_n a2 (false)) [R_ [o_], R_ [o_, o_, c_ (mkCall Tryz.call34 (F34_ok h1) [] (by kernel_rfl) (by kernel_rfl)), o_, o_, o_, o_, o_, o_, o_, o_, o_], T_, R_ [o_]] [some 0] (pc ((fun h => h : ((!(!r1)) = true → (!(!r1)) = true))) <| pc ((fun h => h : ((!(!r1)) = true → (!(!r1)) = true))) <| pc ((fun h => h : ((!(!r1)) = true → (!(!r1)) = true))) <| pc ((fun h => h : ((!(!r1)) = true → (!(!r1)) = true))) <| pc ((fun h => h : ((!(!r1)) = true → (!(!r1)) = true))) <| pc ((fun k2 => (not_t k2) : ((!r1) = false → (!(!r1)) = true))) <| pc ((h2 : ((!r1) || (!(decide (((a2_n : Nat) : Int) = (wr (a0 * a1)))))) = true)) <| allP_nil) (by kernel_rfl) (by kernel_rfl)
  · exact WM.cut mixed [R_ [o_], R_ [o_, o_, c_ (mkCall Tryz.call34 (F34_ok h1) [] (by kernel_rfl) (by kernel_rfl)), o_, o_, o_, o_, o_, o_, o_, o_, o_], F_, R_ [o_, o_, o_]] [some 0] (pc ((fun h => h : ((!(!r1)) = true → (!(!r1)) = true))) <| pc ((fun h => h : ((!(!r1)) = true → (!(!r1)) = true))) <| pc ((fun h => h : ((!(!r1)) = true → (!(!r1)) = true))) <| pc ((fun h => h : ((!(!r1)) = true → (!(!r1)) = true))) <| pc ((fun h => h : ((!(!r1)) = true → (!(!r1)) = true))) <| pc ((fun k2 => (not_t k2) : ((!r1) = false → (!(!r1)) = true))) <| pc ((h2 : ((!r1) || (!(decide (((a2_n : Nat) : Int) = (wr (a0 * a1)))))) = false)) <| allP_nil) (F30_p1_ok h) (by kernel_rfl)

/-! ### F50: function 50 tickertape/screen.title$1 -/
def F50 (f : Nat) (a0 : Int) : Option (Bool) :=
  some ((decide (a0 < 32) || (decide (a0 ≥ 127) && decide (a0 ≤ 159))))
def v_F50 (a0 : Int) (y : Bool) : V :=
  .b y
def e_F50 (a0 : Int) (y : Bool) : Env :=
  [(2, ⟨none, .b y⟩)]
def x_F50 (a0 : Int) (y : Bool) : List (Option Blk) :=
  []
set_option maxRecDepth 100000 in
set_option maxHeartbeats 4000000 in
theorem F50_ok {f : Nat} {a0 : Int} {y : Bool} (h : F50 f a0 = some y) :
    Spec Tryz.prog G0 50 [.i .i32 a0] [] (v_F50 a0 y) (x_F50 a0 y) :=
  Spec.ofM (fn := Tryz.f50) (c := bodyOf Tryz.f50) (n := 13) (rs := Tryz.f50.results.toList) Tryz.func50 (by kernel_rfl) (by kernel_rfl) (by kernel_rfl) (by kernel_rfl) fun cx => by
  unfold F50 at h
  replace h := Option.some.inj h
  subst h
  exact WM.retE mixed (e_F50 a0 ((decide (a0 < 32) || (decide (a0 ≥ 127) && decide (a0 ≤ 159))))) [R_ [o_], R_ [o_, o_, o_, o_, o_, o_, o_, o_, o_, o_, o_]] [] (pc ((fun h => h : ((!(decide (a0 < 32))) = true → (!(decide (a0 < 32))) = true))) <| pc ((fun h => h : ((!(decide (a0 < 32))) = true → (!(decide (a0 < 32))) = true))) <| pc ((fun h => h : (((!(decide (a0 < 32))) && decide (a0 ≥ 127)) = true → ((!(decide (a0 < 32))) && decide (a0 ≥ 127)) = true))) <| pc ((fun h => h : ((!(decide (a0 < 32))) = true → (!(decide (a0 < 32))) = true))) <| pc ((fun k1 k2 => (and_t k1 k2) : ((!(decide (a0 < 32))) = true → (decide (a0 ≥ 127) = true → ((!(decide (a0 < 32))) && decide (a0 ≥ 127)) = true)))) <| pc ((fun k2 => (not_t k2) : (decide (a0 < 32) = false → (!(decide (a0 < 32))) = true))) <| allP_nil) (by kernel_rfl) (by kernel_rfl)

/-! ### F89: function 89 slices.IndexFunc[[]rune,rune] -/
def F89_p1_b (f : Nat) (g1 : Int → Option (Int)) (a0_n : Nat) (a0 : List Int) (x8_1 : Int) : Option (Int) :=
  ifb (decide (x8_1 < ((a0_n : Nat) : Int))) (
    chk (0 ≤ x8_1) <|
    chk (x8_1 < ((a0_n : Nat) : Int)) <|
    chk ((0 + x8_1.toNat) < a0.length) <|
    bnd (F50 f (a0.getD (0 + x8_1.toNat) 0)) fun r1 =>
    ifb (r1) (
      some (x8_1)) (
      chk (inR (x8_1 + 1)) <|
      g1 (x8_1 + 1))) (
    some ((-1)))
def F89_p1 (f : Nat) (a0_n : Nat) (a0 : List Int) : Nat → Int → Option (Int)
  | 0, _ => none
  | j + 1, x8_1 => F89_p1_b f (F89_p1 f a0_n a0 j) a0_n a0 x8_1
def F89 (f : Nat) (a0_n : Nat) (a0 : List Int) : Option (Int) :=
  F89_p1 f a0_n a0 f 0
def v_F89 (a0_n : Nat) (a0 : List Int) (y : Int) : V :=
  .i .i64 y
def e_F89 (a0_n : Nat) (a0 : List Int) (y : Int) : Env :=
  [(4, ⟨none, .i .i64 y⟩)]
def x_F89 (a0_n : Nat) (a0 : List Int) (y : Int) : List (Option Blk) :=
  [some (intB .i32 a0)]
set_option maxRecDepth 100000 in
set_option maxHeartbeats 4000000 in
theorem F89_p1_bok {cx : Cx} {f : Nat} {I1 : Act → World → Prop} {g1 : Int → Option (Int)} {a0_n : Nat} {a0 : List Int} {x8_1 : Int} {y : Int} (hg1 : ∀ (x8_1 : Int), g1 x8_1 = some y → ∀ a w, cx.In G0 19 1 [(0, ⟨none, .sl 0 0 a0_n⟩), (1, ⟨none, .fn (.func 50) [] []⟩), (7, ⟨none, .i .i64 ((a0_n : Nat) : Int)⟩), (8, ⟨none, .i .i64 x8_1⟩)] [some (intB .i32 a0)] a w → I1 a w) (h : F89_p1_b f g1 a0_n a0 x8_1 = some y) :
    WM Tryz.prog G0 19 1 Tryz.f89.results.toList (v_F89 a0_n a0 y) (x_F89 a0_n a0 y) cx (nav [.r, .r, .l I1] [.code (bodyOf Tryz.f89)]) [(0, ⟨none, .sl 0 0 a0_n⟩), (1, ⟨none, .fn (.func 50) [] []⟩), (7, ⟨none, .i .i64 ((a0_n : Nat) : Int)⟩), (8, ⟨none, .i .i64 x8_1⟩)] [some (intB .i32 a0)] := by
  unfold F89_p1_b at h
  rcases of_ifb h with ⟨h1, h⟩ | ⟨h1, h⟩
  · obtain ⟨h2, h⟩ := of_chk h
    obtain ⟨h3, h⟩ := of_chk h
    obtain ⟨h4, h⟩ := of_chk h
    obtain ⟨r1, h5, h⟩ := of_bnd h
    rcases of_ifb h with ⟨h6, h⟩ | ⟨h6, h⟩
    · replace h := Option.some.inj h
      subst h
      exact WM.retE mixed (e_F89 a0_n a0 (x8_1)) [R_ [o_], T_, R_ [o_, o_], R_ [o_, o_, o_, o_, o_, c_ (mkCall Tryz.call50 (F50_ok h5) [] (by kernel_rfl) (by kernel_rfl))], T_, R_ [o_, o_]] [some 0] (pc ((h1 : decide (x8_1 < ((a0_n : Nat) : Int)) = true)) <| pc h2 <| pc h3 <| pc h4 <| pc ((h6 : r1 = true)) <| allP_nil) (by kernel_rfl) (by kernel_rfl)
    · obtain ⟨h7, h⟩ := of_chk h
      exact WM.cut mixed [R_ [o_], T_, R_ [o_, o_], R_ [o_, o_, o_, o_, o_, c_ (mkCall Tryz.call50 (F50_ok h5) [] (by kernel_rfl) (by kernel_rfl))], F_, R_ [o_, o_]] [some 0] (pc ((h1 : decide (x8_1 < ((a0_n : Nat) : Int)) = true)) <| pc h2 <| pc h3 <| pc h4 <| pc ((h6 : r1 = false)) <| pc h7 <| allP_nil) (WM.again (k := (nav [.r, .r, .n] [.code (bodyOf Tryz.f89)]).tail) (hg1 _ h)) (by kernel_rfl)
  · replace h := Option.some.inj h
    subst h
    exact WM.retE mixed (e_F89 a0_n a0 ((-1))) [R_ [o_], F_, R_ [o_]] [some 0] (pc ((h1 : decide (x8_1 < ((a0_n : Nat) : Int)) = false)) <| allP_nil) (by kernel_rfl) (by kernel_rfl)
set_option maxRecDepth 100000 in
set_option maxHeartbeats 4000000 in
theorem F89_p1_ok {cx : Cx} {f : Nat} {a0_n : Nat} {a0 : List Int} {x8_1 : Int} {j : Nat} {y : Int} (h : F89_p1 f a0_n a0 j x8_1 = some y) :
    WM Tryz.prog G0 19 1 Tryz.f89.results.toList (v_F89 a0_n a0 y) (x_F89 a0_n a0 y) cx (nav [.r, .r, .n] [.code (bodyOf Tryz.f89)]) [(0, ⟨none, .sl 0 0 a0_n⟩), (1, ⟨none, .fn (.func 50) [] []⟩), (7, ⟨none, .i .i64 ((a0_n : Nat) : Int)⟩), (8, ⟨none, .i .i64 x8_1⟩)] [some (intB .i32 a0)] := by
  refine WM.loopN (X := Int) (y := y) (kb := fun I1 => (nav [.r, .r, .l I1] [.code (bodyOf Tryz.f89)])) (by intro I; kernel_rfl) (fun j x => F89_p1 f a0_n a0 j x) (fun x => [(0, ⟨none, .sl 0 0 a0_n⟩), (1, ⟨none, .fn (.func 50) [] []⟩), (7, ⟨none, .i .i64 ((a0_n : Nat) : Int)⟩), (8, ⟨none, .i .i64 x⟩)]) (fun x => [some (intB .i32 a0)]) ?_ (j := j) (x := x8_1) h
  intro j x I1 h hI
  cases j with
  | zero => cases h
  | succ j => exact F89_p1_bok (fun x0 => hI j x0 (Nat.lt_succ_self j)) h
set_option maxRecDepth 100000 in
set_option maxHeartbeats 4000000 in
theorem F89_ok {f : Nat} {a0_n : Nat} {a0 : List Int} {y : Int} (h : F89 f a0_n a0 = some y) :
    Spec Tryz.prog G0 89 [.sl 0 0 a0_n, .fn (.func 50) [] []] [some (intB .i32 a0)] (v_F89 a0_n a0 y) (x_F89 a0_n a0 y) :=
  Spec.ofM (fn := Tryz.f89) (c := bodyOf Tryz.f89) (n := 19) (rs := Tryz.f89.results.toList) Tryz.func89 (by kernel_rfl) (by kernel_rfl) (by kernel_rfl) (by kernel_rfl) fun cx => by
  unfold F89 at h
  exact WM.cut mixed [R_ [o_], R_ [o_, o_, o_]] [some 0] (allP_nil) (F89_p1_ok h) (by kernel_rfl)

/-! ### F49: function 49 slices.ContainsFunc[[]rune,rune] -/
def F49 (f : Nat) (a0_n : Nat) (a0 : List Int) : Option (Bool) :=
  bnd (F89 f a0_n a0) fun r1 =>
  some (decide (r1 ≥ 0))
def v_F49 (a0_n : Nat) (a0 : List Int) (y : Bool) : V :=
  .b y
def e_F49 (a0_n : Nat) (a0 : List Int) (y : Bool) : Env :=
  [(4, ⟨none, .b y⟩)]
def x_F49 (a0_n : Nat) (a0 : List Int) (y : Bool) : List (Option Blk) :=
  [some (intB .i32 a0)]
set_option maxRecDepth 100000 in
set_option maxHeartbeats 4000000 in
theorem F49_ok {f : Nat} {a0_n : Nat} {a0 : List Int} {y : Bool} (h : F49 f a0_n a0 = some y) :
    Spec Tryz.prog G0 49 [.sl 0 0 a0_n, .fn (.func 50) [] []] [some (intB .i32 a0)] (v_F49 a0_n a0 y) (x_F49 a0_n a0 y) :=
  Spec.ofM (fn := Tryz.f49) (c := bodyOf Tryz.f49) (n := 9) (rs := Tryz.f49.results.toList) Tryz.func49 (by kernel_rfl) (by kernel_rfl) (by kernel_rfl) (by kernel_rfl) fun cx => by
  unfold F49 at h
  obtain ⟨r1, h1, h⟩ := of_bnd h
  replace h := Option.some.inj h
  subst h
  exact WM.retE mixed (e_F49 a0_n a0 (decide (r1 ≥ 0))) [R_ [o_], R_ [o_, o_, c_ (mkCall Tryz.call89 (F89_ok h1) [0] (by kernel_rfl) (by kernel_rfl)), o_, o_]] [some 0] (allP_nil) (by kernel_rfl) (by kernel_rfl)

/-! ### F31: function 31 tickertape/screen.title -/
def F31 (f : Nat) (a0 : List Int) : Option (Bool) :=
  bnd (F49 f (((runesOf a0)).length) ((runesOf a0).map fun c => c)) fun r1 =>
  chk ((0 + ((runesOf a0)).length) ≤ (((runesOf a0).map fun c => c)).length) <|
  some (((decide (((ints ((((runesOf a0).map fun c => c).drop 0).take (((runesOf a0)).length))).flatMap utf8) = a0) && decide (((((runesOf a0)).length : Nat) : Int) ≤ 64)) && (!r1)))
def v_F31 (a0 : List Int) (y : Bool) : V :=
  .b y
def e_F31 (a0 : List Int) (y : Bool) : Env :=
  [(2, ⟨none, .b y⟩)]
def x_F31 (a0 : List Int) (y : Bool) : List (Option Blk) :=
  []
set_option maxRecDepth 100000 in
set_option maxHeartbeats 4000000 in
theorem F31_ok {f : Nat} {a0 : List Int} {y : Bool} (h : F31 f a0 = some y) :
    Spec Tryz.prog G0 31 [.s a0] [] (v_F31 a0 y) (x_F31 a0 y) :=
  Spec.ofM (fn := Tryz.f31) (c := bodyOf Tryz.f31) (n := 22) (rs := Tryz.f31.results.toList) Tryz.func31 (by kernel_rfl) (by kernel_rfl) (by kernel_rfl) (by kernel_rfl) fun cx => by
  unfold F31 at h
  obtain ⟨r1, h1, h⟩ := of_bnd h
  obtain ⟨h2, h⟩ := of_chk h
  replace h := Option.some.inj h
  subst h
  exact WM.retE mixed (e_F31 a0 (((decide (((ints ((((runesOf a0).map fun c => c).drop 0).take (((runesOf a0)).length))).flatMap utf8) = a0) && decide (((((runesOf a0)).length : Nat) : Int) ≤ 64)) && (!r1)))) [R_ [o_], R_ [o_, .op (.fresh 0 (intB .i32 [])), o_], R_ [o_, c_ (mkCall Tryz.call49 (F49_ok h1) [0] (by kernel_rfl) (by kernel_rfl)), o_], R_ [o_, o_, o_, o_, o_, o_, o_, o_, o_, o_, o_, o_, o_, o_]] [] (pc h2 <| pc ((fun h => h : (decide (((ints ((((runesOf a0).map fun c => c).drop 0).take (((runesOf a0)).length))).flatMap utf8) = a0) = true → decide (((ints ((((runesOf a0).map fun c => c).drop 0).take (((runesOf a0)).length))).flatMap utf8) = a0) = true))) <| pc ((fun h => h : (decide (((ints ((((runesOf a0).map fun c => c).drop 0).take (((runesOf a0)).length))).flatMap utf8) = a0) = true → decide (((ints ((((runesOf a0).map fun c => c).drop 0).take (((runesOf a0)).length))).flatMap utf8) = a0) = true))) <| pc ((fun k2 => k2 : (decide (((ints ((((runesOf a0).map fun c => c).drop 0).take (((runesOf a0)).length))).flatMap utf8) = a0) = true → decide (((ints ((((runesOf a0).map fun c => c).drop 0).take (((runesOf a0)).length))).flatMap utf8) = a0) = true))) <| pc ((fun h => h : ((decide (((ints ((((runesOf a0).map fun c => c).drop 0).take (((runesOf a0)).length))).flatMap utf8) = a0) && decide (((((runesOf a0)).length : Nat) : Int) ≤ 64)) = true → (decide (((ints ((((runesOf a0).map fun c => c).drop 0).take (((runesOf a0)).length))).flatMap utf8) = a0) && decide (((((runesOf a0)).length : Nat) : Int) ≤ 64)) = true))) <| pc ((fun k2 => k2 : ((decide (((ints ((((runesOf a0).map fun c => c).drop 0).take (((runesOf a0)).length))).flatMap utf8) = a0) && decide (((((runesOf a0)).length : Nat) : Int) ≤ 64)) = true → (decide (((ints ((((runesOf a0).map fun c => c).drop 0).take (((runesOf a0)).length))).flatMap utf8) = a0) && decide (((((runesOf a0)).length : Nat) : Int) ≤ 64)) = true))) <| allP_nil) (by kernel_rfl) (by kernel_rfl)

/-! ### F12: function 12 tickertape/screen.May -/
def F12 (f : Nat) (a0_0 : Int) (a0_1 : Int) (a0_2_n : Nat) (a0_2 : List cell_Cell) (a0_3 : Int) (a0_4 : Int) (a0_5 : Bool) (a0_6 : List Int) : Option (Bool) :=
  bnd (F30 f a0_0 a0_1 a0_2_n a0_2) fun r1 =>
  ifb (((((r1 && decide (a0_3 ≥ 0)) && decide (a0_3 < a0_0)) && decide (a0_4 ≥ 0)) && decide (a0_4 < a0_1))) (
    bnd (F31 f a0_6) fun r2 =>
    some (r2)) (
    some (false))
def v_F12 (a0_0 : Int) (a0_1 : Int) (a0_2_n : Nat) (a0_2 : List cell_Cell) (a0_3 : Int) (a0_4 : Int) (a0_5 : Bool) (a0_6 : List Int) (y : Bool) : V :=
  .b y
def e_F12 (a0_0 : Int) (a0_1 : Int) (a0_2_n : Nat) (a0_2 : List cell_Cell) (a0_3 : Int) (a0_4 : Int) (a0_5 : Bool) (a0_6 : List Int) (y : Bool) : Env :=
  [(2, ⟨none, .b y⟩)]
def x_F12 (a0_0 : Int) (a0_1 : Int) (a0_2_n : Nat) (a0_2 : List cell_Cell) (a0_3 : Int) (a0_4 : Int) (a0_5 : Bool) (a0_6 : List Int) (y : Bool) : List (Option Blk) :=
  [some (blk_cell_Cell a0_2)]
set_option maxRecDepth 100000 in
set_option maxHeartbeats 4000000 in
theorem F12_ok {f : Nat} {a0_0 : Int} {a0_1 : Int} {a0_2_n : Nat} {a0_2 : List cell_Cell} {a0_3 : Int} {a0_4 : Int} {a0_5 : Bool} {a0_6 : List Int} {y : Bool} (h : F12 f a0_0 a0_1 a0_2_n a0_2 a0_3 a0_4 a0_5 a0_6 = some y) :
    Spec Tryz.prog G0 12 [.agg [.i .i64 a0_0, .i .i64 a0_1, .sl 0 0 a0_2_n, .i .i64 a0_3, .i .i64 a0_4, .b a0_5, .s a0_6]] [some (blk_cell_Cell a0_2)] (v_F12 a0_0 a0_1 a0_2_n a0_2 a0_3 a0_4 a0_5 a0_6 y) (x_F12 a0_0 a0_1 a0_2_n a0_2 a0_3 a0_4 a0_5 a0_6 y) :=
  Spec.ofM (fn := Tryz.f12) (c := bodyOf Tryz.f12) (n := 39) (rs := Tryz.f12.results.toList) Tryz.func12 (by kernel_rfl) (by kernel_rfl) (by kernel_rfl) (by kernel_rfl) fun cx => by
  unfold F12 at h
  obtain ⟨r1, h1, h⟩ := of_bnd h
  rcases of_ifb h with ⟨h2, h⟩ | ⟨h2, h⟩
  · obtain ⟨r2, h3, h⟩ := of_bnd h
    replace h := Option.some.inj h
    subst h
    exact WM.retE mixed (e_F12 a0_0 a0_1 a0_2_n a0_2 a0_3 a0_4 a0_5 a0_6 (r2)) [R_ [.op (.fresh 1 (svB 7 [.i .i64 a0_0, .i .i64 a0_1, .sl 0 0 a0_2_n, .i .i64 a0_3, .i .i64 a0_4, .b a0_5, .s a0_6])), o_], R_ [o_, o_, o_, o_, o_, o_, c_ (mkCall Tryz.call30 (F30_ok h1) [0] (by kernel_rfl) (by kernel_rfl)), o_, o_, o_, o_, o_, o_, o_, o_, o_, o_, o_, o_, o_, o_, o_, o_, o_, o_, o_, o_, o_, o_, o_, o_, o_, o_, o_, c_ (mkCall Tryz.call31 (F31_ok h3) [] (by kernel_rfl) (by kernel_rfl)), .pk true, o_]] [some 0] (pc zlt1 <| pc zlt1 <| pc zlt1 <| pc ((fun h => h : (r1 = true → r1 = true))) <| pc ((fun _ => zlt1 : (r1 = true → 0 < 1))) <| pc ((fun h => h : (r1 = true → r1 = true))) <| pc ((fun k2 => k2 : (r1 = true → r1 = true))) <| pc ((fun h => h : ((r1 && decide (a0_3 ≥ 0)) = true → (r1 && decide (a0_3 ≥ 0)) = true))) <| pc ((fun _ => zlt1 : ((r1 && decide (a0_3 ≥ 0)) = true → 0 < 1))) <| pc ((fun h => h : ((r1 && decide (a0_3 ≥ 0)) = true → (r1 && decide (a0_3 ≥ 0)) = true))) <| pc ((fun _ => zlt1 : ((r1 && decide (a0_3 ≥ 0)) = true → 0 < 1))) <| pc ((fun h => h : ((r1 && decide (a0_3 ≥ 0)) = true → (r1 && decide (a0_3 ≥ 0)) = true))) <| pc ((fun h => h : ((r1 && decide (a0_3 ≥ 0)) = true → (r1 && decide (a0_3 ≥ 0)) = true))) <| pc ((fun k2 => k2 : ((r1 && decide (a0_3 ≥ 0)) = true → (r1 && decide (a0_3 ≥ 0)) = true))) <| pc ((fun h => h : (((r1 && decide (a0_3 ≥ 0)) && decide (a0_3 < a0_0)) = true → ((r1 && decide (a0_3 ≥ 0)) && decide (a0_3 < a0_0)) = true))) <| pc ((fun _ => zlt1 : (((r1 && decide (a0_3 ≥ 0)) && decide (a0_3 < a0_0)) = true → 0 < 1))) <| pc ((fun h => h : (((r1 && decide (a0_3 ≥ 0)) && decide (a0_3 < a0_0)) = true → ((r1 && decide (a0_3 ≥ 0)) && decide (a0_3 < a0_0)) = true))) <| pc ((fun k2 => k2 : (((r1 && decide (a0_3 ≥ 0)) && decide (a0_3 < a0_0)) = true → ((r1 && decide (a0_3 ≥ 0)) && decide (a0_3 < a0_0)) = true))) <| pc ((fun h => h : ((((r1 && decide (a0_3 ≥ 0)) && decide (a0_3 < a0_0)) && decide (a0_4 ≥ 0)) = true → (((r1 && decide (a0_3 ≥ 0)) && decide (a0_3 < a0_0)) && decide (a0_4 ≥ 0)) = true))) <| pc ((fun _ => zlt1 : ((((r1 && decide (a0_3 ≥ 0)) && decide (a0_3 < a0_0)) && decide (a0_4 ≥ 0)) = true → 0 < 1))) <| pc ((fun h => h : ((((r1 && decide (a0_3 ≥ 0)) && decide (a0_3 < a0_0)) && decide (a0_4 ≥ 0)) = true → (((r1 && decide (a0_3 ≥ 0)) && decide (a0_3 < a0_0)) && decide (a0_4 ≥ 0)) = true))) <| pc ((fun _ => zlt1 : ((((r1 && decide (a0_3 ≥ 0)) && decide (a0_3 < a0_0)) && decide (a0_4 ≥ 0)) = true → 0 < 1))) <| pc ((fun h => h : ((((r1 && decide (a0_3 ≥ 0)) && decide (a0_3 < a0_0)) && decide (a0_4 ≥ 0)) = true → (((r1 && decide (a0_3 ≥ 0)) && decide (a0_3 < a0_0)) && decide (a0_4 ≥ 0)) = true))) <| pc ((fun h => h : ((((r1 && decide (a0_3 ≥ 0)) && decide (a0_3 < a0_0)) && decide (a0_4 ≥ 0)) = true → (((r1 && decide (a0_3 ≥ 0)) && decide (a0_3 < a0_0)) && decide (a0_4 ≥ 0)) = true))) <| pc ((fun k2 => k2 : ((((r1 && decide (a0_3 ≥ 0)) && decide (a0_3 < a0_0)) && decide (a0_4 ≥ 0)) = true → (((r1 && decide (a0_3 ≥ 0)) && decide (a0_3 < a0_0)) && decide (a0_4 ≥ 0)) = true))) <| pc ((fun h => h : (((((r1 && decide (a0_3 ≥ 0)) && decide (a0_3 < a0_0)) && decide (a0_4 ≥ 0)) && decide (a0_4 < a0_1)) = true → ((((r1 && decide (a0_3 ≥ 0)) && decide (a0_3 < a0_0)) && decide (a0_4 ≥ 0)) && decide (a0_4 < a0_1)) = true))) <| pc ((fun _ => zlt1 : (((((r1 && decide (a0_3 ≥ 0)) && decide (a0_3 < a0_0)) && decide (a0_4 ≥ 0)) && decide (a0_4 < a0_1)) = true → 0 < 1))) <| pc ((h2 : ((((r1 && decide (a0_3 ≥ 0)) && decide (a0_3 < a0_0)) && decide (a0_4 ≥ 0)) && decide (a0_4 < a0_1)) = true)) <| pc ((h2 : ((((r1 && decide (a0_3 ≥ 0)) && decide (a0_3 < a0_0)) && decide (a0_4 ≥ 0)) && decide (a0_4 < a0_1)) = true)) <| pc ((h2 : ((((r1 && decide (a0_3 ≥ 0)) && decide (a0_3 < a0_0)) && decide (a0_4 ≥ 0)) && decide (a0_4 < a0_1)) = true)) <| allP_nil) (by kernel_rfl) (by kernel_rfl)
  · replace h := Option.some.inj h
    subst h
    exact WM.retE mixed (e_F12 a0_0 a0_1 a0_2_n a0_2 a0_3 a0_4 a0_5 a0_6 (false)) [R_ [.op (.fresh 1 (svB 7 [.i .i64 a0_0, .i .i64 a0_1, .sl 0 0 a0_2_n, .i .i64 a0_3, .i .i64 a0_4, .b a0_5, .s a0_6])), o_], R_ [o_, o_, o_, o_, o_, o_, c_ (mkCall Tryz.call30 (F30_ok h1) [0] (by kernel_rfl) (by kernel_rfl)), o_, o_, o_, o_, o_, o_, o_, o_, o_, o_, o_, o_, o_, o_, o_, o_, o_, o_, o_, o_, o_, o_, o_, o_, o_, o_, o_, s_, .pk false, o_]] [some 0] (pc zlt1 <| pc zlt1 <| pc zlt1 <| pc ((fun h => h : (r1 = true → r1 = true))) <| pc ((fun _ => zlt1 : (r1 = true → 0 < 1))) <| pc ((fun h => h : (r1 = true → r1 = true))) <| pc ((fun k2 => k2 : (r1 = true → r1 = true))) <| pc ((fun h => h : ((r1 && decide (a0_3 ≥ 0)) = true → (r1 && decide (a0_3 ≥ 0)) = true))) <| pc ((fun _ => zlt1 : ((r1 && decide (a0_3 ≥ 0)) = true → 0 < 1))) <| pc ((fun h => h : ((r1 && decide (a0_3 ≥ 0)) = true → (r1 && decide (a0_3 ≥ 0)) = true))) <| pc ((fun _ => zlt1 : ((r1 && decide (a0_3 ≥ 0)) = true → 0 < 1))) <| pc ((fun h => h : ((r1 && decide (a0_3 ≥ 0)) = true → (r1 && decide (a0_3 ≥ 0)) = true))) <| pc ((fun h => h : ((r1 && decide (a0_3 ≥ 0)) = true → (r1 && decide (a0_3 ≥ 0)) = true))) <| pc ((fun k2 => k2 : ((r1 && decide (a0_3 ≥ 0)) = true → (r1 && decide (a0_3 ≥ 0)) = true))) <| pc ((fun h => h : (((r1 && decide (a0_3 ≥ 0)) && decide (a0_3 < a0_0)) = true → ((r1 && decide (a0_3 ≥ 0)) && decide (a0_3 < a0_0)) = true))) <| pc ((fun _ => zlt1 : (((r1 && decide (a0_3 ≥ 0)) && decide (a0_3 < a0_0)) = true → 0 < 1))) <| pc ((fun h => h : (((r1 && decide (a0_3 ≥ 0)) && decide (a0_3 < a0_0)) = true → ((r1 && decide (a0_3 ≥ 0)) && decide (a0_3 < a0_0)) = true))) <| pc ((fun k2 => k2 : (((r1 && decide (a0_3 ≥ 0)) && decide (a0_3 < a0_0)) = true → ((r1 && decide (a0_3 ≥ 0)) && decide (a0_3 < a0_0)) = true))) <| pc ((fun h => h : ((((r1 && decide (a0_3 ≥ 0)) && decide (a0_3 < a0_0)) && decide (a0_4 ≥ 0)) = true → (((r1 && decide (a0_3 ≥ 0)) && decide (a0_3 < a0_0)) && decide (a0_4 ≥ 0)) = true))) <| pc ((fun _ => zlt1 : ((((r1 && decide (a0_3 ≥ 0)) && decide (a0_3 < a0_0)) && decide (a0_4 ≥ 0)) = true → 0 < 1))) <| pc ((fun h => h : ((((r1 && decide (a0_3 ≥ 0)) && decide (a0_3 < a0_0)) && decide (a0_4 ≥ 0)) = true → (((r1 && decide (a0_3 ≥ 0)) && decide (a0_3 < a0_0)) && decide (a0_4 ≥ 0)) = true))) <| pc ((fun _ => zlt1 : ((((r1 && decide (a0_3 ≥ 0)) && decide (a0_3 < a0_0)) && decide (a0_4 ≥ 0)) = true → 0 < 1))) <| pc ((fun h => h : ((((r1 && decide (a0_3 ≥ 0)) && decide (a0_3 < a0_0)) && decide (a0_4 ≥ 0)) = true → (((r1 && decide (a0_3 ≥ 0)) && decide (a0_3 < a0_0)) && decide (a0_4 ≥ 0)) = true))) <| pc ((fun h => h : ((((r1 && decide (a0_3 ≥ 0)) && decide (a0_3 < a0_0)) && decide (a0_4 ≥ 0)) = true → (((r1 && decide (a0_3 ≥ 0)) && decide (a0_3 < a0_0)) && decide (a0_4 ≥ 0)) = true))) <| pc ((fun k2 => k2 : ((((r1 && decide (a0_3 ≥ 0)) && decide (a0_3 < a0_0)) && decide (a0_4 ≥ 0)) = true → (((r1 && decide (a0_3 ≥ 0)) && decide (a0_3 < a0_0)) && decide (a0_4 ≥ 0)) = true))) <| pc ((fun h => h : (((((r1 && decide (a0_3 ≥ 0)) && decide (a0_3 < a0_0)) && decide (a0_4 ≥ 0)) && decide (a0_4 < a0_1)) = true → ((((r1 && decide (a0_3 ≥ 0)) && decide (a0_3 < a0_0)) && decide (a0_4 ≥ 0)) && decide (a0_4 < a0_1)) = true))) <| pc ((fun _ => zlt1 : (((((r1 && decide (a0_3 ≥ 0)) && decide (a0_3 < a0_0)) && decide (a0_4 ≥ 0)) && decide (a0_4 < a0_1)) = true → 0 < 1))) <| pc ((h2 : ((((r1 && decide (a0_3 ≥ 0)) && decide (a0_3 < a0_0)) && decide (a0_4 ≥ 0)) && decide (a0_4 < a0_1)) = false)) <| pc ((h2 : ((((r1 && decide (a0_3 ≥ 0)) && decide (a0_3 < a0_0)) && decide (a0_4 ≥ 0)) && decide (a0_4 < a0_1)) = false)) <| allP_nil) (by kernel_rfl) (by kernel_rfl)

/-! ### F36: function 36 slices.Chunk[[]tickertape/cell.Cell,tickertape/cell.Cell] -/
def F36 (f : Nat) (a0_n : Nat) (a0 : List cell_Cell) (a1 : Int) : Option (Nat × Int) :=
  ifb (decide (a1 < 1)) (
    none) (
    some ((a0_n, a1)))
def v_F36 (a0_n : Nat) (a0 : List cell_Cell) (a1 : Int) (y : Nat × Int) : V :=
  .fn (.func 52) [] [.p 1 0 0, .p 2 0 0]
def e_F36 (a0_n : Nat) (a0 : List cell_Cell) (a1 : Int) (y : Nat × Int) : Env :=
  [(4, ⟨none, .fn (.func 52) [] [.p 1 0 0, .p 2 0 0]⟩)]
def x_F36 (a0_n : Nat) (a0 : List cell_Cell) (a1 : Int) (y : Nat × Int) : List (Option Blk) :=
  [some (blk_cell_Cell a0), some (svB 1 [.sl 0 0 y.1]), some (svB 1 [.i .i64 y.2])]
set_option maxRecDepth 100000 in
set_option maxHeartbeats 4000000 in
theorem F36_ok {f : Nat} {a0_n : Nat} {a0 : List cell_Cell} {a1 : Int} {y : Nat × Int} (h : F36 f a0_n a0 a1 = some y) :
    Spec Tryz.prog G0 36 [.sl 0 0 a0_n, .i .i64 a1] [some (blk_cell_Cell a0)] (v_F36 a0_n a0 a1 y) (x_F36 a0_n a0 a1 y) :=
  Spec.ofM (fn := Tryz.f36) (c := bodyOf Tryz.f36) (n := 9) (rs := Tryz.f36.results.toList) Tryz.func36 (by kernel_rfl) (by kernel_rfl) (by kernel_rfl) (by kernel_rfl) fun cx => by
  unfold F36 at h
  rcases of_ifb h with ⟨h1, h⟩ | ⟨h1, h⟩
  · cases h
  · replace h := Option.some.inj h
    subst h
    exact WM.retE mixed (e_F36 a0_n a0 a1 ((a0_n, a1))) [R_ [.op (.fresh 1 (svB 1 [.sl 0 0 a0_n])), .op (.fresh 2 (svB 1 [.i .i64 a1])), o_], R_ [o_, o_], F_, R_ [o_, o_]] [some 0, some 1, some 2] (pc zlt1 <| pc ((h1 : decide (a1 < 1) = false)) <| allP_nil) (by kernel_rfl) (by kernel_rfl)

/-! ### F37: function 37 strings.TrimRight -/
def F37 (f : Nat) : Option (List Int × List Int × List Int) :=
  some (([], [32], []))
def v_F37  (y : List Int × List Int × List Int) : V :=
  .s y.2.2
def e_F37  (y : List Int × List Int × List Int) : Env :=
  [(4, ⟨none, .s y.2.2⟩)]
def x_F37  (y : List Int × List Int × List Int) : List (Option Blk) :=
  []
set_option maxRecDepth 100000 in
set_option maxHeartbeats 4000000 in
theorem F37_ok {f : Nat}  {y : List Int × List Int × List Int} (h : F37 f = some y) :
    Spec Tryz.prog G0 37 [.s [], .s [32]] [] (v_F37 y) (x_F37 y) :=
  Spec.ofM (fn := Tryz.f37) (c := bodyOf Tryz.f37) (n := 37) (rs := Tryz.f37.results.toList) Tryz.func37 (by kernel_rfl) (by kernel_rfl) (by kernel_rfl) (by kernel_rfl) fun cx => by
  unfold F37 at h
  replace h := Option.some.inj h
  subst h
  exact WM.retE mixed (e_F37 (([], [32], []))) [R_ [o_], R_ [o_, o_, o_, s_, s_, .pk true], T_, R_ [o_, o_]] [] (pc ((rfl : false = false)) <| pc ((rfl : false = false)) <| pc ((rfl : true = true)) <| pc ((rfl : true = true)) <| allP_nil) (by kernel_rfl) (by kernel_rfl)

/-! ### F53: function 53 strings.trimRightByte -/
def F53_p1_b (f : Nat) (g1 : (List Int) → Option (List Int)) (a1 : Int) (x0_1 : List Int) : Option (List Int) :=
  chk ((decide ((x0_1.length : Int) > 0) = true → inR ((x0_1.length : Int) - 1))) <|
  chk ((decide ((x0_1.length : Int) > 0) = true → 0 ≤ ((x0_1.length : Int) - 1))) <|
  chk ((decide ((x0_1.length : Int) > 0) = true → ((x0_1.length : Int) - 1) < (x0_1.length : Int))) <|
  ifb ((decide ((x0_1.length : Int) > 0) && decide ((x0_1.getD ((((x0_1.length : Int) - 1)).toNat) 0) = a1))) (
    chk (inR ((x0_1.length : Int) - 1)) <|
    chk (0 ≤ ((x0_1.length : Int) - 1)) <|
    chk (((x0_1.length : Int) - 1) ≤ (x0_1.length : Int)) <|
    g1 (x0_1.take ((((x0_1.length : Int) - 1)).toNat))) (
    some (x0_1))
def F53_p1 (f : Nat) (a1 : Int) : Nat → (List Int) → Option (List Int)
  | 0, _ => none
  | j + 1, x0_1 => F53_p1_b f (F53_p1 f a1 j) a1 x0_1
def F53 (f : Nat) (a0 : List Int) (a1 : Int) : Option (List Int) :=
  F53_p1 f a1 f a0
def v_F53 (a0 : List Int) (a1 : Int) (y : List Int) : V :=
  .s y
def e_F53 (a0 : List Int) (a1 : Int) (y : List Int) : Env :=
  [(4, ⟨none, .s y⟩)]
def x_F53 (a0 : List Int) (a1 : Int) (y : List Int) : List (Option Blk) :=
  []
set_option maxRecDepth 100000 in
set_option maxHeartbeats 4000000 in
theorem F53_p1_bok {cx : Cx} {f : Nat} {I1 : Act → World → Prop} {g1 : (List Int) → Option (List Int)} {a0 : List Int} {a1 : Int} {x0_1 : List Int} {y : List Int} (hg1 : ∀ (x0_1 : List Int), g1 x0_1 = some y → ∀ a w, cx.In G0 23 0 [(0, ⟨none, .s x0_1⟩), (1, ⟨none, .i .u8 a1⟩)] [] a w → I1 a w) (h : F53_p1_b f g1 a1 x0_1 = some y) :
    WM Tryz.prog G0 23 0 Tryz.f53.results.toList (v_F53 a0 a1 y) (x_F53 a0 a1 y) cx (nav [.r, .l I1] [.code (bodyOf Tryz.f53)]) [(0, ⟨none, .s x0_1⟩), (1, ⟨none, .i .u8 a1⟩)] [] := by
  unfold F53_p1_b at h
  obtain ⟨h1, h⟩ := of_chk h
  obtain ⟨h2, h⟩ := of_chk h
  obtain ⟨h3, h⟩ := of_chk h
  rcases of_ifb h with ⟨h4, h⟩ | ⟨h4, h⟩
  · obtain ⟨h5, h⟩ := of_chk h
    obtain ⟨h6, h⟩ := of_chk h
    obtain ⟨h7, h⟩ := of_chk h
    exact WM.cut mixed [R_ [o_, o_, o_, o_, o_, o_, o_, o_, o_, o_, o_, o_], T_, R_ [o_, o_, o_, o_, o_, o_]] [] (pc ((fun h => h : (decide ((x0_1.length : Int) > 0) = true → decide ((x0_1.length : Int) > 0) = true))) <| pc ((fun h => h : (decide ((x0_1.length : Int) > 0) = true → decide ((x0_1.length : Int) > 0) = true))) <| pc h1 <| pc ((fun h => h : (decide ((x0_1.length : Int) > 0) = true → decide ((x0_1.length : Int) > 0) = true))) <| pc ((fun h => h : (decide ((x0_1.length : Int) > 0) = true → decide ((x0_1.length : Int) > 0) = true))) <| pc h2 <| pc h3 <| pc ((fun h => h : (decide ((x0_1.length : Int) > 0) = true → decide ((x0_1.length : Int) > 0) = true))) <| pc ((fun h => h : (decide ((x0_1.length : Int) > 0) = true → decide ((x0_1.length : Int) > 0) = true))) <| pc ((fun k2 => k2 : (decide ((x0_1.length : Int) > 0) = true → decide ((x0_1.length : Int) > 0) = true))) <| pc ((h4 : (decide ((x0_1.length : Int) > 0) && decide ((x0_1.getD ((((x0_1.length : Int) - 1)).toNat) 0) = a1)) = true)) <| pc h5 <| pc h6 <| pc h7 <| allP_nil) (WM.again (k := (nav [.r, .n] [.code (bodyOf Tryz.f53)]).tail) (hg1 _ h)) (by kernel_rfl)
  · replace h := Option.some.inj h
    subst h
    exact WM.retE mixed (e_F53 a0 a1 (x0_1)) [R_ [o_, o_, o_, o_, o_, o_, o_, o_, o_, o_, o_, o_], F_, R_ [o_, o_]] [] (pc ((fun h => h : (decide ((x0_1.length : Int) > 0) = true → decide ((x0_1.length : Int) > 0) = true))) <| pc ((fun h => h : (decide ((x0_1.length : Int) > 0) = true → decide ((x0_1.length : Int) > 0) = true))) <| pc h1 <| pc ((fun h => h : (decide ((x0_1.length : Int) > 0) = true → decide ((x0_1.length : Int) > 0) = true))) <| pc ((fun h => h : (decide ((x0_1.length : Int) > 0) = true → decide ((x0_1.length : Int) > 0) = true))) <| pc h2 <| pc h3 <| pc ((fun h => h : (decide ((x0_1.length : Int) > 0) = true → decide ((x0_1.length : Int) > 0) = true))) <| pc ((fun h => h : (decide ((x0_1.length : Int) > 0) = true → decide ((x0_1.length : Int) > 0) = true))) <| pc ((fun k2 => k2 : (decide ((x0_1.length : Int) > 0) = true → decide ((x0_1.length : Int) > 0) = true))) <| pc ((h4 : (decide ((x0_1.length : Int) > 0) && decide ((x0_1.getD ((((x0_1.length : Int) - 1)).toNat) 0) = a1)) = false)) <| allP_nil) (by kernel_rfl) (by kernel_rfl)
set_option maxRecDepth 100000 in
set_option maxHeartbeats 4000000 in
theorem F53_p1_ok {cx : Cx} {f : Nat} {a0 : List Int} {a1 : Int} {x0_1 : List Int} {j : Nat} {y : List Int} (h : F53_p1 f a1 j x0_1 = some y) :
    WM Tryz.prog G0 23 0 Tryz.f53.results.toList (v_F53 a0 a1 y) (x_F53 a0 a1 y) cx (nav [.r, .n] [.code (bodyOf Tryz.f53)]) [(0, ⟨none, .s x0_1⟩), (1, ⟨none, .i .u8 a1⟩)] [] := by
  refine WM.loopN (X := List Int) (y := y) (kb := fun I1 => (nav [.r, .l I1] [.code (bodyOf Tryz.f53)])) (by intro I; kernel_rfl) (fun j x => F53_p1 f a1 j x) (fun x => [(0, ⟨none, .s x⟩), (1, ⟨none, .i .u8 a1⟩)]) (fun x => []) ?_ (j := j) (x := x0_1) h
  intro j x I1 h hI
  cases j with
  | zero => cases h
  | succ j => exact F53_p1_bok (fun x0 => hI j x0 (Nat.lt_succ_self j)) h
set_option maxRecDepth 100000 in
set_option maxHeartbeats 4000000 in
theorem F53_ok {f : Nat} {a0 : List Int} {a1 : Int} {y : List Int} (h : F53 f a0 a1 = some y) :
    Spec Tryz.prog G0 53 [.s a0, .i .u8 a1] [] (v_F53 a0 a1 y) (x_F53 a0 a1 y) :=
  Spec.ofM (fn := Tryz.f53) (c := bodyOf Tryz.f53) (n := 23) (rs := Tryz.f53.results.toList) Tryz.func53 (by kernel_rfl) (by kernel_rfl) (by kernel_rfl) (by kernel_rfl) fun cx => by
  unfold F53 at h
  exact WM.cut mixed [R_ [o_]] [] (allP_nil) (F53_p1_ok h) (by kernel_rfl)

/-! ### F37_1: function 37 strings.TrimRight -/
def F37_1 (f : Nat) (a0 : List Int) : Option (List Int × List Int) :=
  ifb ((decide (a0 = []) || false)) (
    some (([32], a0))) (
    ifb (decide (([32].getD 0 0) < 128)) (
      bnd (F53 f a0 ([32].getD 0 0)) fun r1 =>
      some (([32], r1))) (
      none))
def v_F37_1 (a0 : List Int) (y : List Int × List Int) : V :=
  .s y.2
def e_F37_1 (a0 : List Int) (y : List Int × List Int) : Env :=
  [(4, ⟨none, .s y.2⟩)]
def x_F37_1 (a0 : List Int) (y : List Int × List Int) : List (Option Blk) :=
  []
set_option maxRecDepth 100000 in
set_option maxHeartbeats 4000000 in
theorem F37_1_ok {f : Nat} {a0 : List Int} {y : List Int × List Int} (h : F37_1 f a0 = some y) :
    Spec Tryz.prog G0 37 [.s a0, .s [32]] [] (v_F37_1 a0 y) (x_F37_1 a0 y) :=
  Spec.ofM (fn := Tryz.f37) (c := bodyOf Tryz.f37) (n := 37) (rs := Tryz.f37.results.toList) Tryz.func37 (by kernel_rfl) (by kernel_rfl) (by kernel_rfl) (by kernel_rfl) fun cx => by
  unfold F37_1 at h
  rcases of_ifb h with ⟨h1, h⟩ | ⟨h1, h⟩
  · replace h := Option.some.inj h
    subst h
    exact WM.retE mixed (e_F37_1 a0 (([32], a0))) [R_ [o_], R_ [o_, o_, o_, o_, o_, o_], T_, R_ [o_, o_]] [] (pc ((fun h => h : ((!(decide (a0 = []))) = true → (!(decide (a0 = []))) = true))) <| pc ((fun k2 => (not_t k2) : (decide (a0 = []) = false → (!(decide (a0 = []))) = true))) <| pc ((h1 : (decide (a0 = []) || false) = true)) <| allP_nil) (by kernel_rfl) (by kernel_rfl)
  · rcases of_ifb h with ⟨h2, h⟩ | ⟨h2, h⟩
    · obtain ⟨r1, h3, h⟩ := of_bnd h
      replace h := Option.some.inj h
      subst h
      exact WM.retE mixed (e_F37_1 a0 (([32], r1))) [R_ [o_], R_ [o_, o_, o_, o_, o_, o_], F_, R_ [o_, o_, o_, o_, m_, m_, m_, .pk true], T_, R_ [o_, o_, o_, c_ (mkCall Tryz.call53 (F53_ok h3) [] (by kernel_rfl) (by kernel_rfl)), o_]] [] (pc ((fun h => h : ((!(decide (a0 = []))) = true → (!(decide (a0 = []))) = true))) <| pc ((fun k2 => (not_t k2) : (decide (a0 = []) = false → (!(decide (a0 = []))) = true))) <| pc ((h1 : (decide (a0 = []) || false) = false)) <| pc ((rfl : true = true)) <| pc ((rfl : true = true)) <| pc ((by decide : (0 : Int) ≤ 0)) <| pc ((by decide : (0 : Int) < 1)) <| pc ((rfl : true = true)) <| pc ((rfl : true = true)) <| pc ((h2 : decide (([32].getD 0 0) < 128) = true)) <| pc ((by decide : (0 : Int) ≤ 0)) <| pc ((by decide : (0 : Int) < 1)) <| allP_nil) (by kernel_rfl) (by kernel_rfl)
    · cases h

/-! ### F21: function 21 tickertape/screen.Text -/
def F21_p2_b (f : Nat) (g1 : Nat → (List (List Int)) → Option (Nat × List (List Int))) (g2 : Nat → (List Int) → Nat → Int → Int → Option (Nat × List (List Int))) (i_1 : Int) (a0_2 : List cell_Cell) (z2_n_c1 : Nat) (z2_c1 : List (List Int)) (r2 : Nat × Int) (x5_n_2 : Nat) (x5_2 : List Int) (x17_n_2 : Nat) (x18_2 : Int) (x19_2 : Int) : Option (Nat × List (List Int)) :=
  ifb (decide (x19_2 < x18_2)) (
    chk (0 ≤ x19_2) <|
    chk (x19_2 < ((x17_n_2 : Nat) : Int)) <|
    chk (((0 + i_1.toNat) + x19_2.toNat) < a0_2.length) <|
    ifb ((!(decide ((a0_2.getD ((0 + i_1.toNat) + x19_2.toNat) zero_cell_Cell).Wide = 2)))) (
      chk (x5_n_2 = x5_2.length) <|
      chk (((((x5_n_2 + 1)) * 4 : Nat) : Int) ≤ 140737488355328) <|
      chk (inR (x19_2 + 1)) <|
      g2 (x5_n_2 + 1) (x5_2 ++ [(a0_2.getD ((0 + i_1.toNat) + x19_2.toNat) zero_cell_Cell).Rune]) x17_n_2 x18_2 (x19_2 + 1)) (
      chk (inR (x19_2 + 1)) <|
      g2 x5_n_2 x5_2 x17_n_2 x18_2 (x19_2 + 1))) (
    chk ((0 + x5_n_2) ≤ x5_2.length) <|
    bnd (F37_1 f ((ints ((x5_2.drop 0).take x5_n_2)).flatMap utf8)) fun r3 =>
    chk (z2_n_c1 = z2_c1.length) <|
    chk (((((z2_n_c1 + 1)) * 16 : Nat) : Int) ≤ 140737488355328) <|
    g1 (z2_n_c1 + 1) (z2_c1 ++ [r3.2]))
def F21_p2 (f : Nat) (g1 : Nat → (List (List Int)) → Option (Nat × List (List Int))) (i_1 : Int) (a0_2 : List cell_Cell) (z2_n_c1 : Nat) (z2_c1 : List (List Int)) (r2 : Nat × Int) : Nat → Nat → (List Int) → Nat → Int → Int → Option (Nat × List (List Int))
  | 0, _, _, _, _, _ => none
  | j + 1, x5_n_2, x5_2, x17_n_2, x18_2, x19_2 => F21_p2_b f g1 (F21_p2 f g1 i_1 a0_2 z2_n_c1 z2_c1 r2 j) i_1 a0_2 z2_n_c1 z2_c1 r2 x5_n_2 x5_2 x17_n_2 x18_2 x19_2
def F21_c1_a (f : Nat) (r2 : Nat × Int) (a0_2 : List cell_Cell) (z2_n_c1 : Nat) (z2_c1 : List (List Int)) : Option (Nat × List (List Int)) :=
  some ((z2_n_c1, z2_c1))
def F21_c1_k (f : Nat) (gc : Int → Nat → (List (List Int)) → Option (Nat × List (List Int))) (r2 : Nat × Int) (a0_2 : List cell_Cell) (i_1 : Int) (z2_n_c1 : Nat) (z2_c1 : List (List Int)) : Option (Nat × List (List Int)) :=
  chk (inR (i_1 + r2.2)) <|
  gc (i_1 + r2.2) z2_n_c1 z2_c1
def F21_c1_b (f : Nat) (gc : Int → Nat → (List (List Int)) → Option (Nat × List (List Int))) (r2 : Nat × Int) (a0_2 : List cell_Cell) (i_1 : Int) (z2_n_c1 : Nat) (z2_c1 : List (List Int)) : Option (Nat × List (List Int)) :=
  ifb (decide (i_1 < ((r2.1 : Nat) : Int))) (
    chk (0 ≤ i_1) <|
    chk (i_1 ≤ ((r2.1 : Nat) : Int)) <|
    chk (inR (i_1 + (imin r2.2 (((r2.1 - i_1.toNat) : Nat) : Int)))) <|
    chk (i_1 ≤ (i_1 + (imin r2.2 (((r2.1 - i_1.toNat) : Nat) : Int)))) <|
    chk ((i_1 + (imin r2.2 (((r2.1 - i_1.toNat) : Nat) : Int))) ≤ (i_1 + (imin r2.2 (((r2.1 - i_1.toNat) : Nat) : Int)))) <|
    chk ((i_1 + (imin r2.2 (((r2.1 - i_1.toNat) : Nat) : Int))) ≤ ((r2.1 : Nat) : Int)) <|
    F21_p2 f (F21_c1_k f gc r2 a0_2 i_1) i_1 a0_2 z2_n_c1 z2_c1 r2 f 0 [] (((i_1 + (imin r2.2 (((r2.1 - i_1.toNat) : Nat) : Int)))).toNat - i_1.toNat) (((((i_1 + (imin r2.2 (((r2.1 - i_1.toNat) : Nat) : Int)))).toNat - i_1.toNat) : Nat) : Int) 0) (
    F21_c1_a f r2 a0_2 z2_n_c1 z2_c1)
def F21_c1 (f : Nat) (r2 : Nat × Int) (a0_2 : List cell_Cell) : Nat → Int → Nat → (List (List Int)) → Option (Nat × List (List Int))
  | 0, _, _, _ => none
  | j + 1, i_1, z2_n_c1, z2_c1 => F21_c1_b f (F21_c1 f r2 a0_2 j) r2 a0_2 i_1 z2_n_c1 z2_c1
def F21_p1 (f : Nat) (r2 : Nat × Int) (a0_2 : List cell_Cell) : Option (Nat × List (List Int)) :=
  F21_c1 f r2 a0_2 f 0 0 []
def F21 (f : Nat) (a0_0 : Int) (a0_1 : Int) (a0_2_n : Nat) (a0_2 : List cell_Cell) (a0_3 : Int) (a0_4 : Int) (a0_5 : Bool) (a0_6 : List Int) : Option (Nat × List (List Int)) :=
  bnd (F12 f a0_0 a0_1 a0_2_n a0_2 a0_3 a0_4 a0_5 a0_6) fun r1 =>
  ifb ((!r1)) (
    some ((0, []))) (
    bnd (F36 f a0_2_n a0_2 a0_1) fun r2 =>
    F21_p1 f r2 a0_2)
def v_F21 (a0_0 : Int) (a0_1 : Int) (a0_2_n : Nat) (a0_2 : List cell_Cell) (a0_3 : Int) (a0_4 : Int) (a0_5 : Bool) (a0_6 : List Int) (y : Nat × List (List Int)) : V :=
  .sl 1 0 y.1
def e_F21 (a0_0 : Int) (a0_1 : Int) (a0_2_n : Nat) (a0_2 : List cell_Cell) (a0_3 : Int) (a0_4 : Int) (a0_5 : Bool) (a0_6 : List Int) (y : Nat × List (List Int)) : Env :=
  [(2, ⟨none, .sl 1 0 y.1⟩)]
def x_F21 (a0_0 : Int) (a0_1 : Int) (a0_2_n : Nat) (a0_2 : List cell_Cell) (a0_3 : Int) (a0_4 : Int) (a0_5 : Bool) (a0_6 : List Int) (y : Nat × List (List Int)) : List (Option Blk) :=
  [some (blk_cell_Cell a0_2), some (strB y.2)]
set_option maxRecDepth 100000 in
set_option maxHeartbeats 4000000 in
theorem F21_p2_bok {cx : Cx} {f : Nat} {I1 : Act → World → Prop} {g1 : Nat → (List (List Int)) → Option (Nat × List (List Int))} {I2 : Act → World → Prop} {g2 : Nat → (List Int) → Nat → Int → Int → Option (Nat × List (List Int))} {a0_2 : List cell_Cell} {i_1 : Int} {z2_n_c1 : Nat} {z2_c1 : List (List Int)} {r2 : Nat × Int} {x5_n_2 : Nat} {x5_2 : List Int} {x17_n_2 : Nat} {x18_2 : Int} {x19_2 : Int} {y : Nat × List (List Int)} (hg1 : ∀ (z2_n_c1 : Nat) (z2_c1 : List (List Int)), g1 z2_n_c1 z2_c1 = some y → ∀ a w, cx.In G0 39 5 [] [some (blk_cell_Cell a0_2), some (svB 1 [.sl 5 0 z2_n_c1]), none, some (svB 1 [.sl 0 0 r2.1]), some (svB 1 [.i .i64 r2.2]), some (strB z2_c1)] a w → I1 a w) (hg2 : ∀ (x5_n_2 : Nat) (x5_2 : List Int) (x17_n_2 : Nat) (x18_2 : Int) (x19_2 : Int), g2 x5_n_2 x5_2 x17_n_2 x18_2 x19_2 = some y → ∀ a w, cx.In G0 39 5 [(3, ⟨none, .p 1 0 0⟩), (5, ⟨none, .sl 6 0 x5_n_2⟩), (17, ⟨none, .sl 0 (0 + i_1.toNat) x17_n_2⟩), (18, ⟨none, .i .i64 x18_2⟩), (19, ⟨none, .i .i64 x19_2⟩)] [some (blk_cell_Cell a0_2), some (svB 1 [.sl 5 0 z2_n_c1]), none, some (svB 1 [.sl 0 0 r2.1]), some (svB 1 [.i .i64 r2.2]), some (strB z2_c1), some (intB .i32 x5_2)] a w → I2 a w) (h : F21_p2_b f g1 g2 i_1 a0_2 z2_n_c1 z2_c1 r2 x5_n_2 x5_2 x17_n_2 x18_2 x19_2 = some y) :
    WG Tryz.prog G0 39 5 (fun _ _ _ => False) cx (nav [.r, .r, .l I2] [.code (rfBody (nav [.r, .r, .f, .r, .r, .n] [.code (bodyOf Tryz.f21)])), .again I1]) [(3, ⟨none, .p 1 0 0⟩), (5, ⟨none, .sl 6 0 x5_n_2⟩), (17, ⟨none, .sl 0 (0 + i_1.toNat) x17_n_2⟩), (18, ⟨none, .i .i64 x18_2⟩), (19, ⟨none, .i .i64 x19_2⟩)] [some (blk_cell_Cell a0_2), some (svB 1 [.sl 5 0 z2_n_c1]), none, some (svB 1 [.sl 0 0 r2.1]), some (svB 1 [.i .i64 r2.2]), some (strB z2_c1), some (intB .i32 x5_2)] := by
  unfold F21_p2_b at h
  rcases of_ifb h with ⟨h12, h⟩ | ⟨h12, h⟩
  · obtain ⟨h13, h⟩ := of_chk h
    obtain ⟨h14, h⟩ := of_chk h
    obtain ⟨h15, h⟩ := of_chk h
    rcases of_ifb h with ⟨h16, h⟩ | ⟨h16, h⟩
    · obtain ⟨h17, h⟩ := of_chk h
      obtain ⟨h18, h⟩ := of_chk h
      obtain ⟨h19, h⟩ := of_chk h
      exact WG.cut mixed [R_ [o_], T_, R_ [o_, o_, .op (.fresh 7 (svB 5 [.i .i32 0, .i .i64 0, .i .i64 0, .i .i64 0, .i .i64 0])), o_], R_ [o_, o_, o_], T_, R_ [o_, o_, o_, .op (.fresh 8 (intB .i32 [(a0_2.getD ((0 + i_1.toNat) + x19_2.toNat) zero_cell_Cell).Rune])), .op (.fresh 9 (intB .u8 [])), o_], R_ [o_, o_]] [some 0, some 1, some 2, some 3, some 4, some 5, some 9] (pc ((h12 : decide (x19_2 < x18_2) = true)) <| pc h13 <| pc h14 <| pc h15 <| pc zlt1 <| pc zlt1 <| pc ((h16 : (!(decide ((a0_2.getD ((0 + i_1.toNat) + x19_2.toNat) zero_cell_Cell).Wide = 2))) = true)) <| pc zlt1 <| pc h17 <| pc h18 <| pc ((by decide : 1 ≤ 1)) <| pc h19 <| allP_nil) (WG.again (k := (nav [.r, .r, .n] [.code (rfBody (nav [.r, .r, .f, .r, .r, .n] [.code (bodyOf Tryz.f21)])), .again I1]).tail) (hg2 _ _ _ _ _ h)) (by kernel_rfl)
    · obtain ⟨h20, h⟩ := of_chk h
      exact WG.cut mixed [R_ [o_], T_, R_ [o_, o_, .op (.fresh 7 (svB 5 [.i .i32 0, .i .i64 0, .i .i64 0, .i .i64 0, .i .i64 0])), o_], R_ [o_, o_, o_], F_, R_ [o_, o_]] [some 0, some 1, some 2, some 3, some 4, some 5, some 6] (pc ((h12 : decide (x19_2 < x18_2) = true)) <| pc h13 <| pc h14 <| pc h15 <| pc zlt1 <| pc zlt1 <| pc ((h16 : (!(decide ((a0_2.getD ((0 + i_1.toNat) + x19_2.toNat) zero_cell_Cell).Wide = 2))) = false)) <| pc h20 <| allP_nil) (WG.again (k := (nav [.r, .r, .n] [.code (rfBody (nav [.r, .r, .f, .r, .r, .n] [.code (bodyOf Tryz.f21)])), .again I1]).tail) (hg2 _ _ _ _ _ h)) (by kernel_rfl)
  · obtain ⟨h21, h⟩ := of_chk h
    obtain ⟨r3, h22, h⟩ := of_bnd h
    obtain ⟨h23, h⟩ := of_chk h
    obtain ⟨h24, h⟩ := of_chk h
    exact WG.cut mixed [R_ [o_], F_, R_ [o_, o_, o_, c_ (mkCall Tryz.call37 (F37_1_ok h22) [] (by kernel_rfl) (by kernel_rfl)), .op (.fresh 7 (strB [r3.2])), .op (.fresh 8 (intB .u8 [])), o_]] [some 0, some 1, some 2, some 3, some 4, some 8] (pc ((h12 : decide (x19_2 < x18_2) = false)) <| pc zlt1 <| pc h21 <| pc h23 <| pc h24 <| pc ((by decide : 1 ≤ 1)) <| pc zlt1 <| allP_nil) (WG.again (k := ([] : List It).tail) (hg1 _ _ h)) (by kernel_rfl)
set_option maxRecDepth 100000 in
set_option maxHeartbeats 4000000 in
theorem F21_p2_ok {cx : Cx} {f : Nat} {I1 : Act → World → Prop} {g1 : Nat → (List (List Int)) → Option (Nat × List (List Int))} {a0_2 : List cell_Cell} {i_1 : Int} {z2_n_c1 : Nat} {z2_c1 : List (List Int)} {r2 : Nat × Int} {x5_n_2 : Nat} {x5_2 : List Int} {x17_n_2 : Nat} {x18_2 : Int} {x19_2 : Int} {j : Nat} {y : Nat × List (List Int)} (hg1 : ∀ (z2_n_c1 : Nat) (z2_c1 : List (List Int)), g1 z2_n_c1 z2_c1 = some y → ∀ a w, cx.In G0 39 5 [] [some (blk_cell_Cell a0_2), some (svB 1 [.sl 5 0 z2_n_c1]), none, some (svB 1 [.sl 0 0 r2.1]), some (svB 1 [.i .i64 r2.2]), some (strB z2_c1)] a w → I1 a w) (h : F21_p2 f g1 i_1 a0_2 z2_n_c1 z2_c1 r2 j x5_n_2 x5_2 x17_n_2 x18_2 x19_2 = some y) :
    WG Tryz.prog G0 39 5 (fun _ _ _ => False) cx (nav [.r, .r, .n] [.code (rfBody (nav [.r, .r, .f, .r, .r, .n] [.code (bodyOf Tryz.f21)])), .again I1]) [(3, ⟨none, .p 1 0 0⟩), (5, ⟨none, .sl 6 0 x5_n_2⟩), (17, ⟨none, .sl 0 (0 + i_1.toNat) x17_n_2⟩), (18, ⟨none, .i .i64 x18_2⟩), (19, ⟨none, .i .i64 x19_2⟩)] [some (blk_cell_Cell a0_2), some (svB 1 [.sl 5 0 z2_n_c1]), none, some (svB 1 [.sl 0 0 r2.1]), some (svB 1 [.i .i64 r2.2]), some (strB z2_c1), some (intB .i32 x5_2)] := by
  refine WG.loopN (X := Nat × List Int × Nat × Int × Int) (y := y) (kb := fun I2 => (nav [.r, .r, .l I2] [.code (rfBody (nav [.r, .r, .f, .r, .r, .n] [.code (bodyOf Tryz.f21)])), .again I1])) (by intro I; kernel_rfl) (fun j x => F21_p2 f g1 i_1 a0_2 z2_n_c1 z2_c1 r2 j x.1 x.2.1 x.2.2.1 x.2.2.2.1 x.2.2.2.2) (fun x => [(3, ⟨none, .p 1 0 0⟩), (5, ⟨none, .sl 6 0 x.1⟩), (17, ⟨none, .sl 0 (0 + i_1.toNat) x.2.2.1⟩), (18, ⟨none, .i .i64 x.2.2.2.1⟩), (19, ⟨none, .i .i64 x.2.2.2.2⟩)]) (fun x => [some (blk_cell_Cell a0_2), some (svB 1 [.sl 5 0 z2_n_c1]), none, some (svB 1 [.sl 0 0 r2.1]), some (svB 1 [.i .i64 r2.2]), some (strB z2_c1), some (intB .i32 x.2.1)]) ?_ (j := j) (x := (x5_n_2, x5_2, x17_n_2, x18_2, x19_2)) h
  intro j x I2 h hI
  cases j with
  | zero => cases h
  | succ j => exact F21_p2_bok hg1 (fun x0 x1 x2 x3 x4 => hI j (x0, x1, x2, x3, x4) (Nat.lt_succ_self j)) h
set_option maxRecDepth 100000 in
set_option maxHeartbeats 4000000 in
theorem F21_c1_aok {cx : Cx} {f : Nat} {a0_0 : Int} {a0_1 : Int} {a0_2_n : Nat} {a0_2 : List cell_Cell} {a0_3 : Int} {a0_4 : Int} {a0_5 : Bool} {a0_6 : List Int} {r2 : Nat × Int} {z2_n_c1 : Nat} {z2_c1 : List (List Int)} {y : Nat × List (List Int)} (hro : cx.ro = none) (h : F21_c1_a f r2 a0_2 z2_n_c1 z2_c1 = some y) :
    WM Tryz.prog G0 39 1 Tryz.f21.results.toList (v_F21 a0_0 a0_1 a0_2_n a0_2 a0_3 a0_4 a0_5 a0_6 y) (x_F21 a0_0 a0_1 a0_2_n a0_2 a0_3 a0_4 a0_5 a0_6 y) cx (nav [.r, .r, .f, .r, .r, .n] [.code (bodyOf Tryz.f21)]).tail [(3, ⟨none, .p 1 0 0⟩), (15, ⟨none, .fn (.func 52) [] [.p 3 0 0, .p 4 0 0]⟩)] [some (blk_cell_Cell a0_2), some (svB 1 [.sl 5 0 z2_n_c1]), none, some (svB 1 [.sl 0 0 r2.1]), some (svB 1 [.i .i64 r2.2]), some (strB z2_c1)] := by
  unfold F21_c1_a at h
  replace h := Option.some.inj h
  subst h
  exact WM.retE mixed (e_F21 a0_0 a0_1 a0_2_n a0_2 a0_3 a0_4 a0_5 a0_6 ((z2_n_c1, z2_c1))) [R_ [o_, o_]] [some 0, some 5] (pc zlt1 <| allP_nil) (by kernel_rfl) (by kernel_rfl)
set_option maxRecDepth 100000 in
set_option maxHeartbeats 4000000 in
theorem F21_c1_bok {f : Nat} {a0_2 : List cell_Cell} {r2 : Nat × Int} {r : RF} {base : Cx} (hr1 : r.tp = 16) (hr2 : r.assign = rfAssign (nav [.r, .r, .f, .r, .r, .n] [.code (bodyOf Tryz.f21)])) (hr3 : r.body = rfBody (nav [.r, .r, .f, .r, .r, .n] [.code (bodyOf Tryz.f21)])) (ok : RFok r base 39 5 [(3, ⟨none, .p 1 0 0⟩), (15, ⟨none, .fn (.func 52) [] [.p 3 0 0, .p 4 0 0]⟩)]) {I2_ : Act → World → Prop} {gc : Int → Nat → (List (List Int)) → Option (Nat × List (List Int))} {i_1 : Int} {z2_n_c1 : Nat} {z2_c1 : List (List Int)} {y : Nat × List (List Int)} (hgc : ∀ (i_ : Int) (z2_n_c1 : Nat) (z2_c1 : List (List Int)), gc i_ z2_n_c1 z2_c1 = some y → ∀ a w, (r.cxi base).In G0 31 5 [(0, ⟨none, .val (yieldV r.l)⟩), (1, ⟨none, .p 3 0 0⟩), (2, ⟨none, .p 4 0 0⟩), (4, ⟨none, .i .i64 i_⟩)] [some (blk_cell_Cell a0_2), some (svB 1 [.sl 5 0 z2_n_c1]), none, some (svB 1 [.sl 0 0 r2.1]), some (svB 1 [.i .i64 r2.2]), some (strB z2_c1)] a w → I2_ a w) (h : F21_c1_b f gc r2 a0_2 i_1 z2_n_c1 z2_c1 = some y) :
    WG Tryz.prog G0 31 5 (r.QE base G0 31 5 (X := Nat × List (List Int)) (fun x => F21_c1_a f r2 a0_2 x.1 x.2 = some y) (fun x => [some (blk_cell_Cell a0_2), some (svB 1 [.sl 5 0 x.1]), none, some (svB 1 [.sl 0 0 r2.1]), some (svB 1 [.i .i64 r2.2]), some (strB x.2)])) (r.cxi base) (nav [.r, .l I2_] [.code (bodyOf Tryz.f52)]) [(0, ⟨none, .val (yieldV r.l)⟩), (1, ⟨none, .p 3 0 0⟩), (2, ⟨none, .p 4 0 0⟩), (4, ⟨none, .i .i64 i_1⟩)] [some (blk_cell_Cell a0_2), some (svB 1 [.sl 5 0 z2_n_c1]), none, some (svB 1 [.sl 0 0 r2.1]), some (svB 1 [.i .i64 r2.2]), some (strB z2_c1)] := by
  unfold F21_c1_b at h
  rcases of_ifb h with ⟨h4, h⟩ | ⟨h4, h⟩
  · obtain ⟨h5, h⟩ := of_chk h
    obtain ⟨h6, h⟩ := of_chk h
    obtain ⟨h7, h⟩ := of_chk h
    obtain ⟨h8, h⟩ := of_chk h
    obtain ⟨h9, h⟩ := of_chk h
    obtain ⟨h10, h⟩ := of_chk h
    refine WG.cut (E' := [(0, ⟨none, .val (yieldV r.l)⟩), (1, ⟨none, .p 3 0 0⟩), (2, ⟨none, .p 4 0 0⟩), (4, ⟨none, .i .i64 i_1⟩), (5, ⟨none, .i .i64 (imin r2.2 (((r2.1 - i_1.toNat) : Nat) : Int))⟩)]) (hs' := [some (blk_cell_Cell a0_2), some (svB 1 [.sl 5 0 z2_n_c1]), none, some (svB 1 [.sl 0 0 r2.1]), some (svB 1 [.i .i64 r2.2]), some (strB z2_c1)]) (k' := (nav [.r, .l I2_, .r, .t, .r, .n] [.code (bodyOf Tryz.f52)])) mixed [R_ [o_, o_, o_, o_], T_, R_ [o_, o_, o_, o_, o_, o_, o_]] [some 0, some 1, some 2, some 3, some 4, some 5] (pc zlt1 <| pc ((h4 : decide (i_1 < ((r2.1 : Nat) : Int)) = true)) <| pc zlt1 <| pc zlt1 <| pc h5 <| pc h6 <| allP_nil) ?_ (by kernel_rfl)
    refine WG.yield (X := Nat × List (List Int)) (r := r) (base := base) (n := 39) (N := 5) (k := (nav [.r, .l I2_, .r, .t, .r, .n] [.code (bodyOf Tryz.f52)]).tail) (c := hcode (nav [.r, .l I2_, .r, .t, .r, .n] [.code (bodyOf Tryz.f52)])) (E0 := [(3, ⟨none, .p 1 0 0⟩), (15, ⟨none, .fn (.func 52) [] [.p 3 0 0, .p 4 0 0]⟩)]) (Eb := [(3, ⟨none, .p 1 0 0⟩), (4, ⟨none, .sl 0 (0 + i_1.toNat) (((i_1 + (imin r2.2 (((r2.1 - i_1.toNat) : Nat) : Int)))).toNat - i_1.toNat)⟩)]) (E1 := [(28, ⟨none, .sl 0 (0 + i_1.toNat) (((i_1 + (imin r2.2 (((r2.1 - i_1.toNat) : Nat) : Int)))).toNat - i_1.toNat)⟩), (27, ⟨none, .i .i64 (i_1 + (imin r2.2 (((r2.1 - i_1.toNat) : Nat) : Int)))⟩), (26, ⟨none, .i .i64 (imin r2.2 (((r2.1 - i_1.toNat) : Nat) : Int))⟩), (25, ⟨none, .i .i64 i_1⟩), (24, ⟨none, .i .i64 (i_1 + (imin r2.2 (((r2.1 - i_1.toNat) : Nat) : Int)))⟩), (23, ⟨none, .i .i64 (imin r2.2 (((r2.1 - i_1.toNat) : Nat) : Int))⟩), (22, ⟨none, .i .i64 i_1⟩), (21, ⟨none, .i .i64 i_1⟩), (20, ⟨none, .sl 0 0 r2.1⟩), (19, ⟨none, .val (yieldV r.l)⟩), (0, ⟨none, .val (yieldV r.l)⟩), (1, ⟨none, .p 3 0 0⟩), (2, ⟨none, .p 4 0 0⟩), (4, ⟨none, .i .i64 i_1⟩), (5, ⟨none, .i .i64 (imin r2.2 (((r2.1 - i_1.toNat) : Nat) : Int))⟩)]) (E2 := [(30, ⟨none, .b false⟩), (29, ⟨none, .b true⟩), (28, ⟨none, .sl 0 (0 + i_1.toNat) (((i_1 + (imin r2.2 (((r2.1 - i_1.toNat) : Nat) : Int)))).toNat - i_1.toNat)⟩), (27, ⟨none, .i .i64 (i_1 + (imin r2.2 (((r2.1 - i_1.toNat) : Nat) : Int)))⟩), (26, ⟨none, .i .i64 (imin r2.2 (((r2.1 - i_1.toNat) : Nat) : Int))⟩), (25, ⟨none, .i .i64 i_1⟩), (24, ⟨none, .i .i64 (i_1 + (imin r2.2 (((r2.1 - i_1.toNat) : Nat) : Int)))⟩), (23, ⟨none, .i .i64 (imin r2.2 (((r2.1 - i_1.toNat) : Nat) : Int))⟩), (22, ⟨none, .i .i64 i_1⟩), (21, ⟨none, .i .i64 i_1⟩), (20, ⟨none, .sl 0 0 r2.1⟩), (19, ⟨none, .val (yieldV r.l)⟩), (0, ⟨none, .val (yieldV r.l)⟩), (1, ⟨none, .p 3 0 0⟩), (2, ⟨none, .p 4 0 0⟩), (4, ⟨none, .i .i64 i_1⟩), (5, ⟨none, .i .i64 (imin r2.2 (((r2.1 - i_1.toNat) : Nat) : Int))⟩)]) (ty := 29) (v := .sl 0 (0 + i_1.toNat) (((i_1 + (imin r2.2 (((r2.1 - i_1.toNat) : Nat) : Int)))).toNat - i_1.toNat)) ok 10 [o_, o_, o_, o_, o_, o_, o_, o_, o_, o_] [o_] (pc zlt1 <| pc h7 <| pc h7 <| pc h5 <| pc h8 <| pc h9 <| pc h10 <| allP_nil) (by kernel_rfl) (by kernel_rfl) (by rw [hr1]; kernel_rfl) ?_ (fun x => F21_c1_k f gc r2 a0_2 i_1 x.1 x.2 = some y) (fun x => [some (blk_cell_Cell a0_2), some (svB 1 [.sl 5 0 x.1]), none, some (svB 1 [.sl 0 0 r2.1]), some (svB 1 [.i .i64 r2.2]), some (strB x.2)]) ?_ (allP_nil) (fun x => by kernel_rfl) ?_
    · intro base I hI
      rw [hr1, hr2]
      exact WG.cut mixed [R_ [o_]] [some 0, some 1, some 2, some 3, some 4, some 5] allP_nil (WG.again (k := []) hI) (by kernel_rfl)
    · intro base I1 hI
      rw [hr3]
      exact WG.cut mixed [R_ [o_], R_ [o_, o_, o_]] [some 0, some 1, some 2, some 3, some 4, some 5, none] (allP_nil) (F21_p2_ok (fun x0 x1 hh a w hin => hI (x0, x1) hh a w hin) h) (by kernel_rfl)
    · intro x h
      unfold F21_c1_k at h
      obtain ⟨h11, h⟩ := of_chk h
      exact WG.cut mixed [F_, R_ [o_, o_, o_, o_]] [some 0, some 1, some 2, some 3, some 4, some 5] (pc ((rfl : false = false)) <| pc zlt1 <| pc h11 <| allP_nil) (WG.again (k := (nav [.r, .n] [.code (bodyOf Tryz.f52)]).tail) (hgc _ _ _ h)) (by kernel_rfl)
  · exact WG.endF mixed [R_ [o_, o_, o_, o_], F_] [some 0, some 1, some 2, some 3, some 4, some 5] (pc zlt1 <| pc ((h4 : decide (i_1 < ((r2.1 : Nat) : Int)) = false)) <| allP_nil) (z2_n_c1, z2_c1) h (by kernel_rfl)
set_option maxRecDepth 100000 in
set_option maxHeartbeats 4000000 in
theorem F21_c1_ok {f : Nat} {a0_2 : List cell_Cell} {r2 : Nat × Int} {r : RF} {base : Cx} (hr1 : r.tp = 16) (hr2 : r.assign = rfAssign (nav [.r, .r, .f, .r, .r, .n] [.code (bodyOf Tryz.f21)])) (hr3 : r.body = rfBody (nav [.r, .r, .f, .r, .r, .n] [.code (bodyOf Tryz.f21)])) (ok : RFok r base 39 5 [(3, ⟨none, .p 1 0 0⟩), (15, ⟨none, .fn (.func 52) [] [.p 3 0 0, .p 4 0 0]⟩)]) {i_1 : Int} {z2_n_c1 : Nat} {z2_c1 : List (List Int)} {j : Nat} {y : Nat × List (List Int)} (h : F21_c1 f r2 a0_2 j i_1 z2_n_c1 z2_c1 = some y) :
    WG Tryz.prog G0 31 5 (r.QE base G0 31 5 (X := Nat × List (List Int)) (fun x => F21_c1_a f r2 a0_2 x.1 x.2 = some y) (fun x => [some (blk_cell_Cell a0_2), some (svB 1 [.sl 5 0 x.1]), none, some (svB 1 [.sl 0 0 r2.1]), some (svB 1 [.i .i64 r2.2]), some (strB x.2)])) (r.cxi base) (nav [.r, .n] [.code (bodyOf Tryz.f52)]) [(0, ⟨none, .val (yieldV r.l)⟩), (1, ⟨none, .p 3 0 0⟩), (2, ⟨none, .p 4 0 0⟩), (4, ⟨none, .i .i64 i_1⟩)] [some (blk_cell_Cell a0_2), some (svB 1 [.sl 5 0 z2_n_c1]), none, some (svB 1 [.sl 0 0 r2.1]), some (svB 1 [.i .i64 r2.2]), some (strB z2_c1)] := by
  refine WG.loopN (X := Int × Nat × List (List Int)) (y := y) (kb := fun I2_ => (nav [.r, .l I2_] [.code (bodyOf Tryz.f52)])) (by intro I; kernel_rfl) (fun j x => F21_c1 f r2 a0_2 j x.1 x.2.1 x.2.2) (fun x => [(0, ⟨none, .val (yieldV r.l)⟩), (1, ⟨none, .p 3 0 0⟩), (2, ⟨none, .p 4 0 0⟩), (4, ⟨none, .i .i64 x.1⟩)]) (fun x => [some (blk_cell_Cell a0_2), some (svB 1 [.sl 5 0 x.2.1]), none, some (svB 1 [.sl 0 0 r2.1]), some (svB 1 [.i .i64 r2.2]), some (strB x.2.2)]) ?_ (j := j) (x := (i_1, z2_n_c1, z2_c1)) h
  intro j x I2_ h hI
  cases j with
  | zero => cases h
  | succ j => exact F21_c1_bok hr1 hr2 hr3 ok (fun i_ x0 x1 => hI j (i_, x0, x1) (Nat.lt_succ_self j)) h
set_option maxRecDepth 100000 in
set_option maxHeartbeats 4000000 in
theorem F21_c1_it {f : Nat} {a0_2 : List cell_Cell} {r2 : Nat × Int} {r : RF} {base : Cx} (hr1 : r.tp = 16) (hr2 : r.assign = rfAssign (nav [.r, .r, .f, .r, .r, .n] [.code (bodyOf Tryz.f21)])) (hr3 : r.body = rfBody (nav [.r, .r, .f, .r, .r, .n] [.code (bodyOf Tryz.f21)])) (ok : RFok r base 39 5 [(3, ⟨none, .p 1 0 0⟩), (15, ⟨none, .fn (.func 52) [] [.p 3 0 0, .p 4 0 0]⟩)]) {y : Nat × List (List Int)} (h : F21_c1 f r2 a0_2 f 0 0 [] = some y) :
    WG Tryz.prog G0 31 5 (r.QE base G0 31 5 (X := Nat × List (List Int)) (fun x => F21_c1_a f r2 a0_2 x.1 x.2 = some y) (fun x => [some (blk_cell_Cell a0_2), some (svB 1 [.sl 5 0 x.1]), none, some (svB 1 [.sl 0 0 r2.1]), some (svB 1 [.i .i64 r2.2]), some (strB x.2)])) (r.cxi base) [.code (bodyOf Tryz.f52)] (argEnv 0 [.val (yieldV r.l), .p 3 0 0, .p 4 0 0]) [some (blk_cell_Cell a0_2), some (svB 1 [.sl 2 0 0]), some (strB []), some (svB 1 [.sl 0 0 r2.1]), some (svB 1 [.i .i64 r2.2])] :=
  WG.cut mixed [R_ [o_]] [some 0, some 1, some 2, some 3, some 4, some 2] (allP_nil) (F21_c1_ok hr1 hr2 hr3 ok h) (by kernel_rfl)
set_option maxRecDepth 100000 in
set_option maxHeartbeats 4000000 in
theorem F21_p1_ok {cx : Cx} {f : Nat} {a0_0 : Int} {a0_1 : Int} {a0_2_n : Nat} {a0_2 : List cell_Cell} {a0_3 : Int} {a0_4 : Int} {a0_5 : Bool} {a0_6 : List Int} {r2 : Nat × Int} {y : Nat × List (List Int)} (hro : cx.ro = none) (h : F21_p1 f r2 a0_2 = some y) :
    WM Tryz.prog G0 39 1 Tryz.f21.results.toList (v_F21 a0_0 a0_1 a0_2_n a0_2 a0_3 a0_4 a0_5 a0_6 y) (x_F21 a0_0 a0_1 a0_2_n a0_2 a0_3 a0_4 a0_5 a0_6 y) cx (nav [.r, .r, .f, .r, .r, .n] [.code (bodyOf Tryz.f21)]) [(3, ⟨none, .p 1 0 0⟩), (15, ⟨none, .fn (.func 52) [] [.p 3 0 0, .p 4 0 0]⟩)] [some (blk_cell_Cell a0_2), some (svB 1 [.sl 2 0 0]), some (strB []), some (svB 1 [.sl 0 0 r2.1]), some (svB 1 [.i .i64 r2.2])] := by
  unfold F21_p1 at h
  refine WM.rangeF (X := Nat × List (List Int)) (k := (nav [.r, .r, .f, .r, .r, .n] [.code (bodyOf Tryz.f21)]).tail) (c := hcode (nav [.r, .r, .f, .r, .r, .n] [.code (bodyOf Tryz.f21)])) (tg := 15) (tp := 16) (gf := 52) (caps := [.p 3 0 0, .p 4 0 0]) (assign := rfAssign (nav [.r, .r, .f, .r, .r, .n] [.code (bodyOf Tryz.f21)])) (body := rfBody (nav [.r, .r, .f, .r, .r, .n] [.code (bodyOf Tryz.f21)])) (fg := Tryz.f52) (cg := bodyOf Tryz.f52) (nI := 31) (by kernel_rfl) hro (by kernel_rfl) Tryz.func52 (by kernel_rfl) (by kernel_rfl) (res_nil (by kernel_rfl)) Tryz.call52 (by kernel_rfl) (by kernel_rfl) (fun x => F21_c1_a f r2 a0_2 x.1 x.2 = some y) (fun x => [some (blk_cell_Cell a0_2), some (svB 1 [.sl 5 0 x.1]), none, some (svB 1 [.sl 0 0 r2.1]), some (svB 1 [.i .i64 r2.2]), some (strB x.2)]) ?_ ?_
  · intro r base hr1 hr2 hr3 ok
    exact F21_c1_it hr1 hr2 hr3 ok h
  · intro x h d
    exact F21_c1_aok (cx := cx.add d) hro h
set_option maxRecDepth 100000 in
set_option maxHeartbeats 4000000 in
theorem F21_ok {f : Nat} {a0_0 : Int} {a0_1 : Int} {a0_2_n : Nat} {a0_2 : List cell_Cell} {a0_3 : Int} {a0_4 : Int} {a0_5 : Bool} {a0_6 : List Int} {y : Nat × List (List Int)} (h : F21 f a0_0 a0_1 a0_2_n a0_2 a0_3 a0_4 a0_5 a0_6 = some y) :
    Spec Tryz.prog G0 21 [.agg [.i .i64 a0_0, .i .i64 a0_1, .sl 0 0 a0_2_n, .i .i64 a0_3, .i .i64 a0_4, .b a0_5, .s a0_6]] [some (blk_cell_Cell a0_2)] (v_F21 a0_0 a0_1 a0_2_n a0_2 a0_3 a0_4 a0_5 a0_6 y) (x_F21 a0_0 a0_1 a0_2_n a0_2 a0_3 a0_4 a0_5 a0_6 y) :=
  Spec.ofM' (fn := Tryz.f21) (c := bodyOf Tryz.f21) (n := 39) (rs := Tryz.f21.results.toList) Tryz.func21 (by kernel_rfl) (by kernel_rfl) (by kernel_rfl) (by kernel_rfl) fun cx hro => by
  unfold F21 at h
  obtain ⟨r1, h1, h⟩ := of_bnd h
  rcases of_ifb h with ⟨h2, h⟩ | ⟨h2, h⟩
  · replace h := Option.some.inj h
    subst h
    exact WM.retE mixed (e_F21 a0_0 a0_1 a0_2_n a0_2 a0_3 a0_4 a0_5 a0_6 ((0, []))) [R_ [.op (.fresh 1 (svB 7 [.i .i64 a0_0, .i .i64 a0_1, .sl 0 0 a0_2_n, .i .i64 a0_3, .i .i64 a0_4, .b a0_5, .s a0_6])), o_], R_ [o_, c_ (mkCall Tryz.call12 (F12_ok h1) [0] (by kernel_rfl) (by kernel_rfl)), o_], T_, R_ [o_]] [some 0, none] (pc zlt1 <| pc ((h2 : (!r1) = true)) <| allP_nil) (by kernel_rfl) (by kernel_rfl)
  · obtain ⟨r2, h3, h⟩ := of_bnd h
    exact WM.cut mixed [R_ [.op (.fresh 1 (svB 7 [.i .i64 a0_0, .i .i64 a0_1, .sl 0 0 a0_2_n, .i .i64 a0_3, .i .i64 a0_4, .b a0_5, .s a0_6])), o_], R_ [o_, c_ (mkCall Tryz.call12 (F12_ok h1) [0] (by kernel_rfl) (by kernel_rfl)), o_], F_, R_ [.op (.fresh 2 (svB 1 [.nils]))], R_ [o_, o_, o_, o_, c_ (mkCall Tryz.call36 (F36_ok h3) [0, 3, 4] (by kernel_rfl) (by kernel_rfl))]] [some 0, some 2, none, some 3, some 4] (pc zlt1 <| pc ((h2 : (!r1) = false)) <| pc zlt1 <| pc zlt1 <| allP_nil) (F21_p1_ok hro h) (by kernel_rfl)

/-! ### F20: function 20 tickertape/tikref.Texts -/
def F20_p1_b (f : Nat) (g1 : Int → Option (Bool)) (a0_n : Nat) (a0 : List (List Int)) (a1_n : Nat) (a1 : List (List Int)) (x5_1 : Int) : Option (Bool) :=
  ifb (decide (x5_1 < ((a0_n : Nat) : Int))) (
    chk (0 ≤ x5_1) <|
    chk (x5_1 < ((a0_n : Nat) : Int)) <|
    chk ((0 + x5_1.toNat) < a0.length) <|
    chk (x5_1 < ((a1_n : Nat) : Int)) <|
    chk ((0 + x5_1.toNat) < a1.length) <|
    ifb ((!(decide ((a0.getD (0 + x5_1.toNat) []) = (a1.getD (0 + x5_1.toNat) []))))) (
      some (false)) (
      chk (inR (x5_1 + 1)) <|
      g1 (x5_1 + 1))) (
    some (true))
def F20_p1 (f : Nat) (a0_n : Nat) (a0 : List (List Int)) (a1_n : Nat) (a1 : List (List Int)) : Nat → Int → Option (Bool)
  | 0, _ => none
  | j + 1, x5_1 => F20_p1_b f (F20_p1 f a0_n a0 a1_n a1 j) a0_n a0 a1_n a1 x5_1
def F20 (f : Nat) (a0_n : Nat) (a0 : List (List Int)) (a1_n : Nat) (a1 : List (List Int)) : Option (Bool) :=
  ifb ((!(decide (((a0_n : Nat) : Int) = ((a1_n : Nat) : Int))))) (
    some (false)) (
    F20_p1 f a0_n a0 a1_n a1 f 0)
def v_F20 (a0_n : Nat) (a0 : List (List Int)) (a1_n : Nat) (a1 : List (List Int)) (y : Bool) : V :=
  .b y
def e_F20 (a0_n : Nat) (a0 : List (List Int)) (a1_n : Nat) (a1 : List (List Int)) (y : Bool) : Env :=
  [(4, ⟨none, .b y⟩)]
def x_F20 (a0_n : Nat) (a0 : List (List Int)) (a1_n : Nat) (a1 : List (List Int)) (y : Bool) : List (Option Blk) :=
  [some (strB a0), some (strB a1)]
set_option maxRecDepth 100000 in
set_option maxHeartbeats 4000000 in
theorem F20_p1_bok {cx : Cx} {f : Nat} {I1 : Act → World → Prop} {g1 : Int → Option (Bool)} {a0_n : Nat} {a0 : List (List Int)} {a1_n : Nat} {a1 : List (List Int)} {x5_1 : Int} {y : Bool} (hg1 : ∀ (x5_1 : Int), g1 x5_1 = some y → ∀ a w, cx.In G0 26 2 [(0, ⟨none, .sl 0 0 a0_n⟩), (1, ⟨none, .sl 1 0 a1_n⟩), (5, ⟨none, .i .i64 x5_1⟩)] [some (strB a0), some (strB a1)] a w → I1 a w) (h : F20_p1_b f g1 a0_n a0 a1_n a1 x5_1 = some y) :
    WM Tryz.prog G0 26 2 Tryz.f20.results.toList (v_F20 a0_n a0 a1_n a1 y) (x_F20 a0_n a0 a1_n a1 y) cx (nav [.r, .r, .f, .r, .l I1] [.code (bodyOf Tryz.f20)]) [(0, ⟨none, .sl 0 0 a0_n⟩), (1, ⟨none, .sl 1 0 a1_n⟩), (5, ⟨none, .i .i64 x5_1⟩)] [some (strB a0), some (strB a1)] := by
  unfold F20_p1_b at h
  rcases of_ifb h with ⟨h2, h⟩ | ⟨h2, h⟩
  · obtain ⟨h3, h⟩ := of_chk h
    obtain ⟨h4, h⟩ := of_chk h
    obtain ⟨h5, h⟩ := of_chk h
    obtain ⟨h6, h⟩ := of_chk h
    obtain ⟨h7, h⟩ := of_chk h
    rcases of_ifb h with ⟨h8, h⟩ | ⟨h8, h⟩
    · replace h := Option.some.inj h
      subst h
      exact WM.retE mixed (e_F20 a0_n a0 a1_n a1 (false)) [R_ [o_, o_, o_, o_], T_, R_ [o_, o_, o_, o_, o_, o_, o_, o_, o_], T_, R_ [o_]] [some 0, some 1] (pc ((h2 : decide (x5_1 < ((a0_n : Nat) : Int)) = true)) <| pc h3 <| pc h4 <| pc h5 <| pc h3 <| pc h6 <| pc h7 <| pc ((h8 : (!(decide ((a0.getD (0 + x5_1.toNat) []) = (a1.getD (0 + x5_1.toNat) [])))) = true)) <| allP_nil) (by kernel_rfl) (by kernel_rfl)
    · obtain ⟨h9, h⟩ := of_chk h
      exact WM.cut mixed [R_ [o_, o_, o_, o_], T_, R_ [o_, o_, o_, o_, o_, o_, o_, o_, o_], F_, R_ [o_, o_, o_]] [some 0, some 1] (pc ((h2 : decide (x5_1 < ((a0_n : Nat) : Int)) = true)) <| pc h3 <| pc h4 <| pc h5 <| pc h3 <| pc h6 <| pc h7 <| pc ((h8 : (!(decide ((a0.getD (0 + x5_1.toNat) []) = (a1.getD (0 + x5_1.toNat) [])))) = false)) <| pc h9 <| allP_nil) (WM.again (k := (nav [.r, .r, .f, .r, .n] [.code (bodyOf Tryz.f20)]).tail) (hg1 _ h)) (by kernel_rfl)
  · replace h := Option.some.inj h
    subst h
    exact WM.retE mixed (e_F20 a0_n a0 a1_n a1 (true)) [R_ [o_, o_, o_, o_], F_, R_ [o_]] [some 0, some 1] (pc ((h2 : decide (x5_1 < ((a0_n : Nat) : Int)) = false)) <| allP_nil) (by kernel_rfl) (by kernel_rfl)
set_option maxRecDepth 100000 in
set_option maxHeartbeats 4000000 in
theorem F20_p1_ok {cx : Cx} {f : Nat} {a0_n : Nat} {a0 : List (List Int)} {a1_n : Nat} {a1 : List (List Int)} {x5_1 : Int} {j : Nat} {y : Bool} (h : F20_p1 f a0_n a0 a1_n a1 j x5_1 = some y) :
    WM Tryz.prog G0 26 2 Tryz.f20.results.toList (v_F20 a0_n a0 a1_n a1 y) (x_F20 a0_n a0 a1_n a1 y) cx (nav [.r, .r, .f, .r, .n] [.code (bodyOf Tryz.f20)]) [(0, ⟨none, .sl 0 0 a0_n⟩), (1, ⟨none, .sl 1 0 a1_n⟩), (5, ⟨none, .i .i64 x5_1⟩)] [some (strB a0), some (strB a1)] := by
  refine WM.loopN (X := Int) (y := y) (kb := fun I1 => (nav [.r, .r, .f, .r, .l I1] [.code (bodyOf Tryz.f20)])) (by intro I; kernel_rfl) (fun j x => F20_p1 f a0_n a0 a1_n a1 j x) (fun x => [(0, ⟨none, .sl 0 0 a0_n⟩), (1, ⟨none, .sl 1 0 a1_n⟩), (5, ⟨none, .i .i64 x⟩)]) (fun x => [some (strB a0), some (strB a1)]) ?_ (j := j) (x := x5_1) h
  intro j x I1 h hI
  cases j with
  | zero => cases h
  | succ j => exact F20_p1_bok (fun x0 => hI j x0 (Nat.lt_succ_self j)) h
set_option maxRecDepth 100000 in
set_option maxHeartbeats 4000000 in
theorem F20_ok {f : Nat} {a0_n : Nat} {a0 : List (List Int)} {a1_n : Nat} {a1 : List (List Int)} {y : Bool} (h : F20 f a0_n a0 a1_n a1 = some y) :
    Spec Tryz.prog G0 20 [.sl 0 0 a0_n, .sl 1 0 a1_n] [some (strB a0), some (strB a1)] (v_F20 a0_n a0 a1_n a1 y) (x_F20 a0_n a0 a1_n a1 y) :=
  Spec.ofM (fn := Tryz.f20) (c := bodyOf Tryz.f20) (n := 26) (rs := Tryz.f20.results.toList) Tryz.func20 (by kernel_rfl) (by kernel_rfl) (by kernel_rfl) (by kernel_rfl) fun cx => by
  unfold F20 at h
  rcases of_ifb h with ⟨h1, h⟩ | ⟨h1, h⟩
  · replace h := Option.some.inj h
    subst h
    exact WM.retE mixed (e_F20 a0_n a0 a1_n a1 (false)) [R_ [o_], R_ [o_, o_, o_, o_, o_], T_, R_ [o_]] [some 0, some 1] (pc ((h1 : (!(decide (((a0_n : Nat) : Int) = ((a1_n : Nat) : Int)))) = true)) <| allP_nil) (by kernel_rfl) (by kernel_rfl)
  · exact WM.cut mixed [R_ [o_], R_ [o_, o_, o_, o_, o_], F_, R_ [o_]] [some 0, some 1] (pc ((h1 : (!(decide (((a0_n : Nat) : Int) = ((a1_n : Nat) : Int)))) = false)) <| allP_nil) (F20_p1_ok h) (by kernel_rfl)

/-! ### F17: function 17 (*tickertape/term.Term).Bells -/
def F17 (f : Nat) (a0 : term_TermO_2) : Option (Int) :=
  some (a0.bells)
def v_F17 (a0 : term_TermO_2) (y : Int) : V :=
  .i .i64 y
def e_F17 (a0 : term_TermO_2) (y : Int) : Env :=
  [(2, ⟨none, .i .i64 y⟩)]
def x_F17 (a0 : term_TermO_2) (y : Int) : List (Option Blk) :=
  [some (B_term_TermO_2 1 3 5 7 9 13 a0), some (B_grid_GridO 2 a0.grids_0), some (blk_cell_Cell a0.grids_0.l), some (B_grid_GridO 4 a0.grids_1), some (blk_cell_Cell a0.grids_1.l), some (B_tabs_StopsO_1 6 a0.stops), some (boolB a0.stops.at_), some (B_utf_DecoderO 8 a0.signs), some (intB .u8 a0.signs.b), some (B_esc_ParserO 10 11 12 a0.asks), some (intB .i64 a0.asks.params), some (intB .i32 a0.asks.text), some (blk_esc_Event a0.asks.out), some (intB .u8 a0.reply)]
set_option maxRecDepth 100000 in
set_option maxHeartbeats 4000000 in
theorem F17_ok {f : Nat} {a0 : term_TermO_2} {y : Int} (h : F17 f a0 = some y) :
    Spec Tryz.prog G0 17 [.p 0 0 0] [some (B_term_TermO_2 1 3 5 7 9 13 a0), some (B_grid_GridO 2 a0.grids_0), some (blk_cell_Cell a0.grids_0.l), some (B_grid_GridO 4 a0.grids_1), some (blk_cell_Cell a0.grids_1.l), some (B_tabs_StopsO_1 6 a0.stops), some (boolB a0.stops.at_), some (B_utf_DecoderO 8 a0.signs), some (intB .u8 a0.signs.b), some (B_esc_ParserO 10 11 12 a0.asks), some (intB .i64 a0.asks.params), some (intB .i32 a0.asks.text), some (blk_esc_Event a0.asks.out), some (intB .u8 a0.reply)] (v_F17 a0 y) (x_F17 a0 y) :=
  Spec.ofM (fn := Tryz.f17) (c := bodyOf Tryz.f17) (n := 7) (rs := Tryz.f17.results.toList) Tryz.func17 (by kernel_rfl) (by kernel_rfl) (by kernel_rfl) (by kernel_rfl) fun cx => by
  unfold F17 at h
  replace h := Option.some.inj h
  subst h
  exact WM.retE mixed (e_F17 a0 (a0.bells)) [R_ [o_], R_ [o_, o_, o_, o_, o_]] [some 0, some 1, some 2, some 3, some 4, some 5, some 6, some 7, some 8, some 9, some 10, some 11, some 12, some 13] (pc zlt1 <| allP_nil) (by kernel_rfl) (by kernel_rfl)

/-! ### F33: function 33 bytes.Clone -/
def F33 (f : Nat) (a0_n : Nat) (a0 : List Int) : Option (Nat × List Int) :=
  chk (((((0 + (((a0.drop 0).take a0_n)).length)) * 1 : Nat) : Int) ≤ 140737488355328) <|
  chk ((0 + a0_n) ≤ a0.length) <|
  some (((0 + (((a0.drop 0).take a0_n)).length), ([] ++ (((a0.drop 0).take a0_n).map fun y => y))))
def v_F33 (a0_n : Nat) (a0 : List Int) (y : Nat × List Int) : V :=
  .sl 1 0 y.1
def e_F33 (a0_n : Nat) (a0 : List Int) (y : Nat × List Int) : Env :=
  [(2, ⟨none, .sl 1 0 y.1⟩)]
def x_F33 (a0_n : Nat) (a0 : List Int) (y : Nat × List Int) : List (Option Blk) :=
  [some (intB .u8 a0), some (intB .u8 y.2)]
set_option maxRecDepth 100000 in
set_option maxHeartbeats 4000000 in
theorem F33_ok {f : Nat} {a0_n : Nat} {a0 : List Int} {y : Nat × List Int} (h : F33 f a0_n a0 = some y) :
    Spec Tryz.prog G0 33 [.sl 0 0 a0_n] [some (intB .u8 a0)] (v_F33 a0_n a0 y) (x_F33 a0_n a0 y) :=
  Spec.ofM (fn := Tryz.f33) (c := bodyOf Tryz.f33) (n := 8) (rs := Tryz.f33.results.toList) Tryz.func33 (by kernel_rfl) (by kernel_rfl) (by kernel_rfl) (by kernel_rfl) fun cx => by
  unfold F33 at h
  obtain ⟨h1, h⟩ := of_chk h
  obtain ⟨h2, h⟩ := of_chk h
  replace h := Option.some.inj h
  subst h
  refine WM.cut (E' := [(0, ⟨none, .sl 0 0 a0_n⟩)]) (hs' := [some (intB .u8 a0)]) (k' := (nav [.r, .n] [.code (bodyOf Tryz.f33)])) mixed [R_ [o_]] [some 0] (allP_nil) ?_ (by kernel_rfl)
  refine WM.nilq (k := (nav [.r, .n] [.code (bodyOf Tryz.f33)]).tail) (c := hcode (nav [.r, .n] [.code (bodyOf Tryz.f33)])) (t0 := 0) (t3 := 3) (t4 := 4) (T := 22) (e := 5) (m := a0_n) (v := .sl 0 0 a0_n) (by kernel_rfl) (by kernel_rfl) (by kernel_rfl) (by kernel_rfl) (by kernel_rfl) ?_ ?_
  · intro hz
    obtain rfl : a0_n = 0 := hz
    exact WM.retE mixed (e_F33 0 a0 (((0 + (((a0.drop 0).take 0)).length), ([] ++ (((a0.drop 0).take 0).map fun y => y))))) [T_, R_ [o_]] [some 0, none] (pc ((rfl : true = true)) <| allP_nil) (by kernel_rfl) (by kernel_rfl)
  · exact WM.retE mixed (e_F33 a0_n a0 (((0 + (((a0.drop 0).take a0_n)).length), ([] ++ (((a0.drop 0).take a0_n).map fun y => y))))) [F_, R_ [.op (.fresh 1 (intB .u8 [])), o_, .op (.fresh 2 (intB .u8 [])), o_]] [some 0, some 2] (pc ((rfl : false = false)) <| pc ((by decide : 0 = 0)) <| pc h1 <| pc h2 <| allP_nil) (by kernel_rfl) (by kernel_rfl)

/-! ### F16: function 16 (*tickertape/term.Term).Reply -/
def F16 (f : Nat) (a0 : term_TermO_2) : Option (term_TermO_2 × Nat × List Int) :=
  bnd (F33 f a0.reply_n a0.reply) fun r1 =>
  some ((({ a0 with reply_n := 0, reply := [] } : term_TermO_2), r1.1, r1.2))
def v_F16 (a0 : term_TermO_2) (y : term_TermO_2 × Nat × List Int) : V :=
  .sl 15 0 y.2.1
def e_F16 (a0 : term_TermO_2) (y : term_TermO_2 × Nat × List Int) : Env :=
  [(2, ⟨none, .sl 15 0 y.2.1⟩)]
def x_F16 (a0 : term_TermO_2) (y : term_TermO_2 × Nat × List Int) : List (Option Blk) :=
  [some (B_term_TermO_2 1 3 5 7 9 14 y.1), some (B_grid_GridO 2 y.1.grids_0), some (blk_cell_Cell y.1.grids_0.l), some (B_grid_GridO 4 y.1.grids_1), some (blk_cell_Cell y.1.grids_1.l), some (B_tabs_StopsO_1 6 y.1.stops), some (boolB y.1.stops.at_), some (B_utf_DecoderO 8 y.1.signs), some (intB .u8 y.1.signs.b), some (B_esc_ParserO 10 11 12 y.1.asks), some (intB .i64 y.1.asks.params), some (intB .i32 y.1.asks.text), some (blk_esc_Event y.1.asks.out), none, some (intB .u8 y.1.reply), some (intB .u8 y.2.2)]
set_option maxRecDepth 100000 in
set_option maxHeartbeats 4000000 in
theorem F16_ok {f : Nat} {a0 : term_TermO_2} {y : term_TermO_2 × Nat × List Int} (h : F16 f a0 = some y) :
    Spec Tryz.prog G0 16 [.p 0 0 0] [some (B_term_TermO_2 1 3 5 7 9 13 a0), some (B_grid_GridO 2 a0.grids_0), some (blk_cell_Cell a0.grids_0.l), some (B_grid_GridO 4 a0.grids_1), some (blk_cell_Cell a0.grids_1.l), some (B_tabs_StopsO_1 6 a0.stops), some (boolB a0.stops.at_), some (B_utf_DecoderO 8 a0.signs), some (intB .u8 a0.signs.b), some (B_esc_ParserO 10 11 12 a0.asks), some (intB .i64 a0.asks.params), some (intB .i32 a0.asks.text), some (blk_esc_Event a0.asks.out), some (intB .u8 a0.reply)] (v_F16 a0 y) (x_F16 a0 y) :=
  Spec.ofM (fn := Tryz.f16) (c := bodyOf Tryz.f16) (n := 13) (rs := Tryz.f16.results.toList) Tryz.func16 (by kernel_rfl) (by kernel_rfl) (by kernel_rfl) (by kernel_rfl) fun cx => by
  unfold F16 at h
  obtain ⟨r1, h1, h⟩ := of_bnd h
  replace h := Option.some.inj h
  subst h
  exact WM.retE mixed (e_F16 a0 ((({ a0 with reply_n := 0, reply := [] } : term_TermO_2), r1.1, r1.2))) [R_ [o_], R_ [o_, o_, o_, o_, c_ (mkCall Tryz.call33 (F33_ok h1) [13, 14] (by kernel_rfl) (by kernel_rfl)), o_], R_ [o_, o_, o_, o_], R_ [o_, o_]] [some 0, some 1, some 2, some 3, some 4, some 5, some 6, some 7, some 8, some 9, some 10, some 11, some 12, some 13, none, some 14] (pc zlt1 <| pc zlt1 <| allP_nil) (by kernel_rfl) (by kernel_rfl)

/-! ### F8: function 8 tickertape/tiklaw12.first -/
def F8 (f : Nat) : Option (Bool) :=
  bnd (F9 f 2 3) fun r1 =>
  sm r1 (fun r2 =>
    some (false)) (fun r3 =>
    ifb ((!(decide (r3.2 = 0)))) (
      some (false)) (
      bnd (F10 f r3.1 13 [65, 27, 91, 50, 59, 50, 72, 66, 7, 27, 91, 54, 110]) fun r4 =>
      bnd (F11 f r4) fun r5 =>
      bnd (F21 f r5.Rows r5.Cols r5.Cells_n r5.Cells r5.Row r5.Col r5.Hidden r5.Title) fun r6 =>
      bnd (F20 f r6.1 r6.2 2 [[65], [32, 66]]) fun r7 =>
      ifb (((r7 && decide (r5.Row = 1)) && decide (r5.Col = 2))) (
        bnd (F17 f r4) fun r8 =>
        ifb (decide (r8 = 1)) (
          bnd (F16 f r4) fun r9 =>
          chk ((0 + r9.2.1) ≤ r9.2.2.length) <|
          ifb (decide ((ints ((r9.2.2.drop 0).take r9.2.1)) = [27, 91, 50, 59, 51, 82])) (
            bnd (F16 f r9.1) fun r10 =>
            some (decide (((r10.2.1 : Nat) : Int) = 0))) (
            some (false))) (
          some (false))) (
        some (false))))
def v_F8  (y : Bool) : V :=
  .b y
def e_F8  (y : Bool) : Env :=
  [(0, ⟨none, .b y⟩)]
def x_F8  (y : Bool) : List (Option Blk) :=
  []
set_option maxRecDepth 100000 in
set_option maxHeartbeats 4000000 in
theorem F8_ok {f : Nat}  {y : Bool} (h : F8 f = some y) :
    Spec Tryz.prog G0 8 [] [] (v_F8 y) (x_F8 y) :=
  Spec.ofM (fn := Tryz.f8) (c := bodyOf Tryz.f8) (n := 51) (rs := Tryz.f8.results.toList) Tryz.func8 (by kernel_rfl) (by kernel_rfl) (by kernel_rfl) (by kernel_rfl) fun cx => by
  unfold F8 at h
  obtain ⟨r1, h1, h⟩ := of_bnd h
  rcases of_sm h with ⟨r2, rfl, h⟩ | ⟨r3, rfl, h⟩
  · replace h := Option.some.inj h
    subst h
    exact WM.retE mixed (e_F8 (false)) [R_ [o_], R_ [c_ (mkCall Tryz.call9 (F9_ok h1) [] (by kernel_rfl) (by kernel_rfl)), o_, o_, o_, o_, o_], R_ [o_, o_, o_, s_, s_, .pk true], T_, R_ [o_]] [] (pc ((rfl : false = false)) <| pc ((rfl : false = false)) <| pc ((rfl : true = true)) <| pc ((rfl : true = true)) <| allP_nil) (by kernel_rfl) (by kernel_rfl)
  · rcases of_ifb h with ⟨h2, h⟩ | ⟨h2, h⟩
    · replace h := Option.some.inj h
      subst h
      exact WM.retE mixed (e_F8 (false)) [R_ [o_], R_ [c_ (mkCall Tryz.call9 (F9_ok h1) [0, 1, 2, 3, 4, 5, 6, 7, 8, 9, 10, 11, 12, 13] (by kernel_rfl) (by kernel_rfl)), o_, o_, o_, o_, o_], R_ [o_, o_, o_, m_, m_, .pk false], T_, R_ [o_]] [] (pc ((rfl : true = true)) <| pc ((rfl : true = true)) <| pc ((rfl : false = false)) <| pc ((h2 : (!(decide (r3.2 = 0))) = true)) <| allP_nil) (by kernel_rfl) (by kernel_rfl)
    · obtain ⟨r4, h3, h⟩ := of_bnd h
      obtain ⟨r5, h4, h⟩ := of_bnd h
      obtain ⟨r6, h5, h⟩ := of_bnd h
      obtain ⟨r7, h6, h⟩ := of_bnd h
      rcases of_ifb h with ⟨h7, h⟩ | ⟨h7, h⟩
      · obtain ⟨r8, h8, h⟩ := of_bnd h
        rcases of_ifb h with ⟨h9, h⟩ | ⟨h9, h⟩
        · obtain ⟨r9, h10, h⟩ := of_bnd h
          obtain ⟨h11, h⟩ := of_chk h
          rcases of_ifb h with ⟨h12, h⟩ | ⟨h12, h⟩
          · obtain ⟨r10, h13, h⟩ := of_bnd h
            replace h := Option.some.inj h
            subst h
            exact WM.retE mixed (e_F8 (decide (((r10.2.1 : Nat) : Int) = 0))) [R_ [o_], R_ [c_ (mkCall Tryz.call9 (F9_ok h1) [0, 1, 2, 3, 4, 5, 6, 7, 8, 9, 10, 11, 12, 13] (by kernel_rfl) (by kernel_rfl)), o_, o_, o_, o_, o_], R_ [o_, o_, o_, m_, m_, .pk false], F_, R_ [o_, .op (.fresh 14 (intB .u8 [65, 27, 91, 50, 59, 50, 72, 66, 7, 27, 91, 54, 110])), o_, c_ (mkCall Tryz.call10 (F10_ok h3) [0, 1, 2, 3, 4, 5, 6, 7, 8, 9, 10, 11, 12, 13, 14, 15, 16, 17, 18, 19, 20, 21, 22, 23, 24, 25] (by kernel_rfl) (by kernel_rfl))], R_ [o_, c_ (mkCall Tryz.call11 (F11_ok h4) [0, 15, 16, 17, 18, 19, 20, 7, 21, 9, 22, 23, 24, 25, 26, 27] (by kernel_rfl) (by kernel_rfl)), .op (.fresh 28 (svB 7 [.i .i64 0, .i .i64 0, .nils, .i .i64 0, .i .i64 0, .b false, .s []])), o_], R_ [o_, c_ (mkCall Tryz.call21 (F21_ok h5) [27, 29] (by kernel_rfl) (by kernel_rfl)), .op (.fresh 30 (strB [[65], [32, 66]])), c_ (mkCall Tryz.call20 (F20_ok h6) [29, 30] (by kernel_rfl) (by kernel_rfl)), o_, o_, o_, o_, o_, o_, o_, o_, o_, o_, o_, o_, c_ (mkCall Tryz.call17 (F17_ok h8) [0, 15, 16, 17, 18, 19, 20, 7, 21, 9, 22, 23, 24, 25] (by kernel_rfl) (by kernel_rfl)), m_, .pk true, o_, o_, c_ (mkCall Tryz.call16 (F16_ok h10) [0, 15, 16, 17, 18, 19, 20, 7, 21, 9, 22, 23, 24, 25, 31, 32] (by kernel_rfl) (by kernel_rfl)), m_, m_, .pk true, o_, o_, c_ (mkCall Tryz.call16 (F16_ok h13) [0, 15, 16, 17, 18, 19, 20, 7, 21, 9, 22, 23, 24, 31, 33, 34] (by kernel_rfl) (by kernel_rfl)), m_, m_, .pk true, o_]] [] (pc ((rfl : true = true)) <| pc ((rfl : true = true)) <| pc ((rfl : false = false)) <| pc ((h2 : (!(decide (r3.2 = 0))) = false)) <| pc ((by decide : 0 < 13)) <| pc zlt1 <| pc zlt1 <| pc ((fun h => h : (r7 = true → r7 = true))) <| pc ((fun _ => zlt1 : (r7 = true → 0 < 1))) <| pc ((fun h => h : (r7 = true → r7 = true))) <| pc ((fun k2 => k2 : (r7 = true → r7 = true))) <| pc ((fun h => h : ((r7 && decide (r5.Row = 1)) = true → (r7 && decide (r5.Row = 1)) = true))) <| pc ((fun _ => zlt1 : ((r7 && decide (r5.Row = 1)) = true → 0 < 1))) <| pc ((fun h => h : ((r7 && decide (r5.Row = 1)) = true → (r7 && decide (r5.Row = 1)) = true))) <| pc ((fun k2 => k2 : ((r7 && decide (r5.Row = 1)) = true → (r7 && decide (r5.Row = 1)) = true))) <| pc ((h7 : ((r7 && decide (r5.Row = 1)) && decide (r5.Col = 2)) = true)) <| pc ((h7 : ((r7 && decide (r5.Row = 1)) && decide (r5.Col = 2)) = true)) <| pc ((h7 : ((r7 && decide (r5.Row = 1)) && decide (r5.Col = 2)) = true)) <| pc ((h7 : ((r7 && decide (r5.Row = 1)) && decide (r5.Col = 2)) = true)) <| pc ((h9 : decide (r8 = 1) = true)) <| pc ((h9 : decide (r8 = 1) = true)) <| pc ((h9 : decide (r8 = 1) = true)) <| pc h11 <| pc ((h9 : decide (r8 = 1) = true)) <| pc ((h9 : decide (r8 = 1) = true)) <| pc ((h12 : decide ((ints ((r9.2.2.drop 0).take r9.2.1)) = [27, 91, 50, 59, 51, 82]) = true)) <| pc ((h12 : decide ((ints ((r9.2.2.drop 0).take r9.2.1)) = [27, 91, 50, 59, 51, 82]) = true)) <| pc ((h12 : decide ((ints ((r9.2.2.drop 0).take r9.2.1)) = [27, 91, 50, 59, 51, 82]) = true)) <| pc ((h12 : decide ((ints ((r9.2.2.drop 0).take r9.2.1)) = [27, 91, 50, 59, 51, 82]) = true)) <| pc ((h12 : decide ((ints ((r9.2.2.drop 0).take r9.2.1)) = [27, 91, 50, 59, 51, 82]) = true)) <| allP_nil) (by kernel_rfl) (by kernel_rfl)
          · replace h := Option.some.inj h
            subst h
            exact WM.retE mixed (e_F8 (false)) [R_ [o_], R_ [c_ (mkCall Tryz.call9 (F9_ok h1) [0, 1, 2, 3, 4, 5, 6, 7, 8, 9, 10, 11, 12, 13] (by kernel_rfl) (by kernel_rfl)), o_, o_, o_, o_, o_], R_ [o_, o_, o_, m_, m_, .pk false], F_, R_ [o_, .op (.fresh 14 (intB .u8 [65, 27, 91, 50, 59, 50, 72, 66, 7, 27, 91, 54, 110])), o_, c_ (mkCall Tryz.call10 (F10_ok h3) [0, 1, 2, 3, 4, 5, 6, 7, 8, 9, 10, 11, 12, 13, 14, 15, 16, 17, 18, 19, 20, 21, 22, 23, 24, 25] (by kernel_rfl) (by kernel_rfl))], R_ [o_, c_ (mkCall Tryz.call11 (F11_ok h4) [0, 15, 16, 17, 18, 19, 20, 7, 21, 9, 22, 23, 24, 25, 26, 27] (by kernel_rfl) (by kernel_rfl)), .op (.fresh 28 (svB 7 [.i .i64 0, .i .i64 0, .nils, .i .i64 0, .i .i64 0, .b false, .s []])), o_], R_ [o_, c_ (mkCall Tryz.call21 (F21_ok h5) [27, 29] (by kernel_rfl) (by kernel_rfl)), .op (.fresh 30 (strB [[65], [32, 66]])), c_ (mkCall Tryz.call20 (F20_ok h6) [29, 30] (by kernel_rfl) (by kernel_rfl)), o_, o_, o_, o_, o_, o_, o_, o_, o_, o_, o_, o_, c_ (mkCall Tryz.call17 (F17_ok h8) [0, 15, 16, 17, 18, 19, 20, 7, 21, 9, 22, 23, 24, 25] (by kernel_rfl) (by kernel_rfl)), m_, .pk true, o_, o_, c_ (mkCall Tryz.call16 (F16_ok h10) [0, 15, 16, 17, 18, 19, 20, 7, 21, 9, 22, 23, 24, 25, 31, 32] (by kernel_rfl) (by kernel_rfl)), m_, m_, .pk true, o_, o_, s_, s_, s_, .pk false, o_]] [] (pc ((rfl : true = true)) <| pc ((rfl : true = true)) <| pc ((rfl : false = false)) <| pc ((h2 : (!(decide (r3.2 = 0))) = false)) <| pc ((by decide : 0 < 13)) <| pc zlt1 <| pc zlt1 <| pc ((fun h => h : (r7 = true → r7 = true))) <| pc ((fun _ => zlt1 : (r7 = true → 0 < 1))) <| pc ((fun h => h : (r7 = true → r7 = true))) <| pc ((fun k2 => k2 : (r7 = true → r7 = true))) <| pc ((fun h => h : ((r7 && decide (r5.Row = 1)) = true → (r7 && decide (r5.Row = 1)) = true))) <| pc ((fun _ => zlt1 : ((r7 && decide (r5.Row = 1)) = true → 0 < 1))) <| pc ((fun h => h : ((r7 && decide (r5.Row = 1)) = true → (r7 && decide (r5.Row = 1)) = true))) <| pc ((fun k2 => k2 : ((r7 && decide (r5.Row = 1)) = true → (r7 && decide (r5.Row = 1)) = true))) <| pc ((h7 : ((r7 && decide (r5.Row = 1)) && decide (r5.Col = 2)) = true)) <| pc ((h7 : ((r7 && decide (r5.Row = 1)) && decide (r5.Col = 2)) = true)) <| pc ((h7 : ((r7 && decide (r5.Row = 1)) && decide (r5.Col = 2)) = true)) <| pc ((h7 : ((r7 && decide (r5.Row = 1)) && decide (r5.Col = 2)) = true)) <| pc ((h9 : decide (r8 = 1) = true)) <| pc ((h9 : decide (r8 = 1) = true)) <| pc ((h9 : decide (r8 = 1) = true)) <| pc h11 <| pc ((h9 : decide (r8 = 1) = true)) <| pc ((h9 : decide (r8 = 1) = true)) <| pc ((h12 : decide ((ints ((r9.2.2.drop 0).take r9.2.1)) = [27, 91, 50, 59, 51, 82]) = false)) <| pc ((h12 : decide ((ints ((r9.2.2.drop 0).take r9.2.1)) = [27, 91, 50, 59, 51, 82]) = false)) <| pc ((h12 : decide ((ints ((r9.2.2.drop 0).take r9.2.1)) = [27, 91, 50, 59, 51, 82]) = false)) <| pc ((h12 : decide ((ints ((r9.2.2.drop 0).take r9.2.1)) = [27, 91, 50, 59, 51, 82]) = false)) <| allP_nil) (by kernel_rfl) (by kernel_rfl)
        · replace h := Option.some.inj h
          subst h
          exact WM.retE mixed (e_F8 (false)) [R_ [o_], R_ [c_ (mkCall Tryz.call9 (F9_ok h1) [0, 1, 2, 3, 4, 5, 6, 7, 8, 9, 10, 11, 12, 13] (by kernel_rfl) (by kernel_rfl)), o_, o_, o_, o_, o_], R_ [o_, o_, o_, m_, m_, .pk false], F_, R_ [o_, .op (.fresh 14 (intB .u8 [65, 27, 91, 50, 59, 50, 72, 66, 7, 27, 91, 54, 110])), o_, c_ (mkCall Tryz.call10 (F10_ok h3) [0, 1, 2, 3, 4, 5, 6, 7, 8, 9, 10, 11, 12, 13, 14, 15, 16, 17, 18, 19, 20, 21, 22, 23, 24, 25] (by kernel_rfl) (by kernel_rfl))], R_ [o_, c_ (mkCall Tryz.call11 (F11_ok h4) [0, 15, 16, 17, 18, 19, 20, 7, 21, 9, 22, 23, 24, 25, 26, 27] (by kernel_rfl) (by kernel_rfl)), .op (.fresh 28 (svB 7 [.i .i64 0, .i .i64 0, .nils, .i .i64 0, .i .i64 0, .b false, .s []])), o_], R_ [o_, c_ (mkCall Tryz.call21 (F21_ok h5) [27, 29] (by kernel_rfl) (by kernel_rfl)), .op (.fresh 30 (strB [[65], [32, 66]])), c_ (mkCall Tryz.call20 (F20_ok h6) [29, 30] (by kernel_rfl) (by kernel_rfl)), o_, o_, o_, o_, o_, o_, o_, o_, o_, o_, o_, o_, c_ (mkCall Tryz.call17 (F17_ok h8) [0, 15, 16, 17, 18, 19, 20, 7, 21, 9, 22, 23, 24, 25] (by kernel_rfl) (by kernel_rfl)), m_, .pk true, o_, o_, s_, s_, s_, .pk false, o_, s_, s_, s_, s_, .pk false, o_]] [] (pc ((rfl : true = true)) <| pc ((rfl : true = true)) <| pc ((rfl : false = false)) <| pc ((h2 : (!(decide (r3.2 = 0))) = false)) <| pc ((by decide : 0 < 13)) <| pc zlt1 <| pc zlt1 <| pc ((fun h => h : (r7 = true → r7 = true))) <| pc ((fun _ => zlt1 : (r7 = true → 0 < 1))) <| pc ((fun h => h : (r7 = true → r7 = true))) <| pc ((fun k2 => k2 : (r7 = true → r7 = true))) <| pc ((fun h => h : ((r7 && decide (r5.Row = 1)) = true → (r7 && decide (r5.Row = 1)) = true))) <| pc ((fun _ => zlt1 : ((r7 && decide (r5.Row = 1)) = true → 0 < 1))) <| pc ((fun h => h : ((r7 && decide (r5.Row = 1)) = true → (r7 && decide (r5.Row = 1)) = true))) <| pc ((fun k2 => k2 : ((r7 && decide (r5.Row = 1)) = true → (r7 && decide (r5.Row = 1)) = true))) <| pc ((h7 : ((r7 && decide (r5.Row = 1)) && decide (r5.Col = 2)) = true)) <| pc ((h7 : ((r7 && decide (r5.Row = 1)) && decide (r5.Col = 2)) = true)) <| pc ((h7 : ((r7 && decide (r5.Row = 1)) && decide (r5.Col = 2)) = true)) <| pc ((h7 : ((r7 && decide (r5.Row = 1)) && decide (r5.Col = 2)) = true)) <| pc ((h9 : decide (r8 = 1) = false)) <| pc ((h9 : decide (r8 = 1) = false)) <| pc ((h9 : decide (r8 = 1) = false)) <| pc ((h9 : decide (r8 = 1) = false)) <| pc ((rfl : false = false)) <| pc ((rfl : false = false)) <| pc ((rfl : false = false)) <| pc ((rfl : false = false)) <| pc ((rfl : false = false)) <| allP_nil) (by kernel_rfl) (by kernel_rfl)
      · replace h := Option.some.inj h
        subst h
        exact WM.retE mixed (e_F8 (false)) [R_ [o_], R_ [c_ (mkCall Tryz.call9 (F9_ok h1) [0, 1, 2, 3, 4, 5, 6, 7, 8, 9, 10, 11, 12, 13] (by kernel_rfl) (by kernel_rfl)), o_, o_, o_, o_, o_], R_ [o_, o_, o_, m_, m_, .pk false], F_, R_ [o_, .op (.fresh 14 (intB .u8 [65, 27, 91, 50, 59, 50, 72, 66, 7, 27, 91, 54, 110])), o_, c_ (mkCall Tryz.call10 (F10_ok h3) [0, 1, 2, 3, 4, 5, 6, 7, 8, 9, 10, 11, 12, 13, 14, 15, 16, 17, 18, 19, 20, 21, 22, 23, 24, 25] (by kernel_rfl) (by kernel_rfl))], R_ [o_, c_ (mkCall Tryz.call11 (F11_ok h4) [0, 15, 16, 17, 18, 19, 20, 7, 21, 9, 22, 23, 24, 25, 26, 27] (by kernel_rfl) (by kernel_rfl)), .op (.fresh 28 (svB 7 [.i .i64 0, .i .i64 0, .nils, .i .i64 0, .i .i64 0, .b false, .s []])), o_], R_ [o_, c_ (mkCall Tryz.call21 (F21_ok h5) [27, 29] (by kernel_rfl) (by kernel_rfl)), .op (.fresh 30 (strB [[65], [32, 66]])), c_ (mkCall Tryz.call20 (F20_ok h6) [29, 30] (by kernel_rfl) (by kernel_rfl)), o_, o_, o_, o_, o_, o_, o_, o_, o_, o_, o_, o_, s_, s_, .pk false, o_, s_, s_, s_, s_, .pk false, o_, s_, s_, s_, s_, .pk false, o_]] [] (pc ((rfl : true = true)) <| pc ((rfl : true = true)) <| pc ((rfl : false = false)) <| pc ((h2 : (!(decide (r3.2 = 0))) = false)) <| pc ((by decide : 0 < 13)) <| pc zlt1 <| pc zlt1 <| pc ((fun h => h : (r7 = true → r7 = true))) <| pc ((fun _ => zlt1 : (r7 = true → 0 < 1))) <| pc ((fun h => h : (r7 = true → r7 = true))) <| pc ((fun k2 => k2 : (r7 = true → r7 = true))) <| pc ((fun h => h : ((r7 && decide (r5.Row = 1)) = true → (r7 && decide (r5.Row = 1)) = true))) <| pc ((fun _ => zlt1 : ((r7 && decide (r5.Row = 1)) = true → 0 < 1))) <| pc ((fun h => h : ((r7 && decide (r5.Row = 1)) = true → (r7 && decide (r5.Row = 1)) = true))) <| pc ((fun k2 => k2 : ((r7 && decide (r5.Row = 1)) = true → (r7 && decide (r5.Row = 1)) = true))) <| pc ((h7 : ((r7 && decide (r5.Row = 1)) && decide (r5.Col = 2)) = false)) <| pc ((h7 : ((r7 && decide (r5.Row = 1)) && decide (r5.Col = 2)) = false)) <| pc ((h7 : ((r7 && decide (r5.Row = 1)) && decide (r5.Col = 2)) = false)) <| pc ((rfl : false = false)) <| pc ((rfl : false = false)) <| pc ((rfl : false = false)) <| pc ((rfl : false = false)) <| pc ((rfl : false = false)) <| pc ((rfl : false = false)) <| pc ((rfl : false = false)) <| pc ((rfl : false = false)) <| pc ((rfl : false = false)) <| pc ((rfl : false = false)) <| allP_nil) (by kernel_rfl) (by kernel_rfl)
end Go.Proofs.YtiekchfipaiflaaGreatDoor
