/- Places in a function's code; loops by them; small words for the printed proofs. -/
import Derived.Test.YtiekchfipaiflaaGreatDoorMb
import Derived.Test.YtiekchfipaiflaaGreatDoorChecked
namespace Go.Proofs.YtiekchfipaiflaaGreatDoor
open Go

inductive Nv
  | r | t | f | n
  | l (I : Act → World → Prop)
  | u (n : Nat)
  | k

def normL : Nat → List It → List It
  | 0, k => k
  | f + 1, k => match k with
    | .fin _ :: k => normL f k
    | .rnd m c :: k => match m with
      | 0 => []
      | m + 1 => normL f (.code c :: .rnd m c :: k)
    | .code .skip :: k => normL f k
    | .code (.label _) :: k => normL f k
    | .code (.seq a b) :: k => normL f (.code a :: .code b :: k)
    | .code (.block id b) :: k => normL f (.code b :: .fin id :: k)
    | .code (.exit id) :: k => match popE id k with
      | some k' => normL f k'
      | none => []
    | k => k
def nav : List Nv → List It → List It
  | [], k => k
  | .n :: d, k => nav d (normL 100000 k)
  | .r :: d, k => match normL 100000 k with
    | .code (.region ..) :: k => nav d k
    | _ => []
  | .t :: d, k => match normL 100000 k with
    | .code (.cond _ t _) :: k => nav d (.code t :: k)
    | _ => []
  | .f :: d, k => match normL 100000 k with
    | .code (.cond _ _ e) :: k => nav d (.code e :: k)
    | _ => []
  | .l I :: d, k => match normL 100000 k with
    | .code (.loop c) :: k => nav d (.code c :: .again I :: k)
    | _ => []
  | .u m :: d, k => match normL 100000 k with
    | .code (.loop c) :: k => nav d (.rnd m c :: k)
    | _ => []
  | .k :: d, k => match normL 100000 k with
    | .code (.rangeFunc ..) :: k => nav d k
    | _ => []
def bodyOf (f : Func) : Code :=
  match f.body with
  | some c => c
  | none => .skip
def enterL (I : Act → World → Prop) : List It → Option (List It)
  | .code (.loop c) :: k => some (.code c :: .again I :: k)
  | _ => none

theorem WM.loopN {P : Program} {G : Glob} {n K0 : Nat} {rs : List ResultVar} {v : V} {hs1 : List (Option Blk)} {cx : Cx} {X Y : Type} {k : List It} {y : Y} {kb : (Act → World → Prop) → List It} (hk : ∀ I, enterL I k = some (kb I))
    (L : Nat → X → Option Y) (E : X → Env) (hs : X → List (Option Blk))
    (round : ∀ j x I, L j x = some y → (∀ i x', i < j → L i x' = some y → ∀ a w, cx.In G n K0 (E x') (hs x') a w → I a w) → WM P G n K0 rs v hs1 cx (kb I) (E x) (hs x))
    {j x} (h : L j x = some y) : WM P G n K0 rs v hs1 cx k (E x) (hs x) := by
  match k, hk with
  | .code (.loop c) :: k, hk =>
    refine WM.loop L E hs (fun j x I h1 h2 => ?_) h
    have := round j x I h1 h2
    have e := hk I
    simp only [enterL, Option.some.injEq] at e
    rw [e]; exact this
  | [], hk => exact absurd (hk fun _ _ => True) (by simp [enterL])
  | .fin _ :: _, hk => exact absurd (hk fun _ _ => True) (by simp [enterL])
  | .again _ :: _, hk => exact absurd (hk fun _ _ => True) (by simp [enterL])
  | .rnd _ _ :: _, hk => exact absurd (hk fun _ _ => True) (by simp [enterL])
  | .code c :: k, hk =>
    cases c <;> first
      | (refine WM.loop L E hs (fun j x I h1 h2 => ?_) h
         have := round j x I h1 h2
         have e := hk I
         simp only [enterL, Option.some.injEq] at e
         rw [e]; exact this)
      | exact absurd (hk fun _ _ => True) (by simp [enterL])

theorem WM.retE {P : Program} {G : Glob} {n K0 : Nat} {rs : List ResultVar} {v : V} {hs1 : List (Option Blk)} {cx : Cx} (hm : P.follows .mixedOrders = true) {k E hs} (E' : Env) (an : List (PAnn P G)) (m : Map) {C : List Prop} (hC : allP C)
    (h : lhsM (fullM P G n K0 k E hs an m E' hs1) = rhsM true [] C (fullM P G n K0 k E hs an m E' hs1))
    (hv : resO P (look E') (hOf hs1) rs = some v) : WM P G n K0 rs v hs1 cx k E hs :=
  fullM_ok hm h hC fun _ _ hi => ⟨⟨.inl rfl, [], trivial, _, hv, hi⟩, .inr rfl, [], trivial, _, hv, hi⟩

def sm {α β γ : Type} (x : Sum α β) (f : α → Option γ) (g : β → Option γ) : Option γ :=
  match x with
  | .inl a => f a
  | .inr b => g b
theorem of_sm {α β γ : Type} {x : Sum α β} {f : α → Option γ} {g : β → Option γ} {z : γ} (h : sm x f g = some z) : (∃ a, x = .inl a ∧ f a = some z) ∨ (∃ b, x = .inr b ∧ g b = some z) := by
  cases x with
  | inl a => exact .inl ⟨a, rfl, h⟩
  | inr b => exact .inr ⟨b, rfl, h⟩

theorem not_t {a : Bool} (h : a = false) : (!a) = true := by rw [h]; rfl
theorem not_f {a : Bool} (h : a = true) : (!a) = false := by rw [h]; rfl
theorem nt_of {a : Bool} (h : (!a) = true) : a = false := by cases a <;> simp_all
theorem nf_of {a : Bool} (h : (!a) = false) : a = true := by cases a <;> simp_all
theorem and_t {a b : Bool} (h : a = true) (h' : b = true) : (a && b) = true := by rw [h, h']; rfl
theorem and_f1 {a b : Bool} (h : a = false) : (a && b) = false := by rw [h]; rfl
theorem and_f2 {a b : Bool} (h : b = false) : (a && b) = false := by rw [h]; cases a <;> rfl
theorem or_t1 {a b : Bool} (h : a = true) : (a || b) = true := by rw [h]; rfl
theorem or_t2 {a b : Bool} (h : b = true) : (a || b) = true := by rw [h]; cases a <;> rfl
theorem or_f {a b : Bool} (h : a = false) (h' : b = false) : (a || b) = false := by rw [h, h']; rfl
theorem and1 {a b : Bool} (h : (a && b) = true) : a = true := by cases a <;> simp_all
theorem and2 {a b : Bool} (h : (a && b) = true) : b = true := by cases a <;> simp_all
theorem or1 {a b : Bool} (h : (a || b) = false) : a = false := by cases a <;> simp_all
theorem or2 {a b : Bool} (h : (a || b) = false) : b = false := by cases a <;> simp_all
theorem zlt1 : (0 : Nat) < 1 := Nat.zero_lt_one
theorem mixed : Tryz.prog.follows .mixedOrders = true := Tryz.checked.mixed
end Go.Proofs.YtiekchfipaiflaaGreatDoor
