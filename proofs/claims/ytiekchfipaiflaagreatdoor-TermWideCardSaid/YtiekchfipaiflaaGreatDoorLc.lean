/- The abstract meaning of operations that touch no memory, and that the model's operations do the same. -/
import Derived.Test.YtiekchfipaiflaaGreatDoorLb
import Derived.IntWalk
namespace Go.Proofs.YtiekchfipaiflaaGreatDoor
open Go

def inR (n : Int) : Prop := -9223372036854775808 ≤ n ∧ n ≤ 9223372036854775807
instance (n : Int) : Decidable (inR n) := by unfold inR; infer_instance

theorem wrap_in {n : Int} (h : inR n) : IntKind.i64.wrap n = n := IntWalk.i64_in n h

theorem wrap_has (k : IntKind) (n : Int) : k.has (k.wrap n) := by
  cases k <;> simp only [IntKind.has, IntKind.wrap, IntKind.min, IntKind.max, IntKind.bits, IntKind.signed] <;> simp <;> (try split) <;> omega

theorem ok_wrap (k : IntKind) (n : Int) : okInt k (k.wrap n) := .inr (wrap_has k n)

def imin (a b : Int) : Int := if b < a then b else a
def imax (a b : Int) : Int := if b > a then b else a

def bitA (op : BinOp) (k : IntKind) (a b : Int) : Int :=
  match op with
  | .and => k.wrap (BitVec.ofInt k.bits a &&& BitVec.ofInt k.bits b).toNat
  | .or => k.wrap (BitVec.ofInt k.bits a ||| BitVec.ofInt k.bits b).toNat
  | .xor => k.wrap (BitVec.ofInt k.bits a ^^^ BitVec.ofInt k.bits b).toNat
  | _ => k.wrap (BitVec.ofInt k.bits a &&& ~~~ BitVec.ofInt k.bits b).toNat

/-- A product is held within 64 bits. -/
def wr (n : Int) : Int := IntKind.wrap .i64 n
theorem wr_in {n : Int} (h : inR n) : wr n = n := wrap_in h

def isI64 : IntKind → Bool
  | .i64 => true
  | _ => false

/-- Two whole numbers. -/
def intA (op : BinOp) (k : IntKind) (a b : Int) : Option (List Prop × V) :=
  match op with
  | .add => some (if isI64 k then ([inR (a + b)], .i k (a + b)) else ([], .i k (k.wrap (a + b))))
  | .sub => some (if isI64 k then ([inR (a - b)], .i k (a - b)) else ([], .i k (k.wrap (a - b))))
  | .mul => some ([], .i k (k.wrap (a * b)))
  | .quo => some (if isI64 k then ([b ≠ 0, inR (a.tdiv b)], .i k (a.tdiv b)) else ([b ≠ 0], .i k (k.wrap (a.tdiv b))))
  | .rem => some (if isI64 k then ([b ≠ 0], .i k (a.tmod b)) else ([b ≠ 0, k.has (a.tmod b)], .i k (a.tmod b)))
  | .and => some ([], .i k (bitA .and k a b))
  | .or => some ([], .i k (bitA .or k a b))
  | .xor => some ([], .i k (bitA .xor k a b))
  | .andNot => some ([], .i k (bitA .andNot k a b))
  | .eql => some ([], .b (decide (a = b)))
  | .neq => some ([], .b (!decide (a = b)))
  | .lss => some ([], .b (decide (a < b)))
  | .leq => some ([], .b (decide (a ≤ b)))
  | .gtr => some ([], .b (decide (a > b)))
  | .geq => some ([], .b (decide (a ≥ b)))
  | _ => none

def shA (op : BinOp) (k : IntKind) (a b : Int) : Option (List Prop × V) :=
  match op with
  | .shl => some ([0 ≤ b], .i k (k.wrap (a * 2 ^ (min b.toNat k.bits))))
  | .shr => some (if isI64 k then ([0 ≤ b], .i k (a.fdiv (2 ^ (min b.toNat k.bits)))) else ([0 ≤ b, k.has (a.fdiv (2 ^ (min b.toNat k.bits)))], .i k (a.fdiv (2 ^ (min b.toNat k.bits)))))
  | _ => none

def kEq (k k' : IntKind) : Bool :=
  match k, k' with
  | .i8, .i8 | .i16, .i16 | .i32, .i32 | .i64, .i64 | .u8, .u8 | .u16, .u16 | .u32, .u32 | .u64, .u64 => true
  | _, _ => false
theorem kEq_eq {k k' : IntKind} (h : kEq k k' = true) : k = k' := by cases k <;> cases k' <;> first | rfl | cases h

def i64max : Int := 9223372036854775807

def isShift : BinOp → Bool
  | .shl | .shr => true
  | _ => false
def isEq : BinOp → Bool
  | .eql | .neq => true
  | _ => false

def strA (op : BinOp) (a b : List Int) : Option (List Prop × V) :=
  match op with
  | .add => some ([((a.length + b.length : Nat) : Int) ≤ i64max], .s (a ++ b))
  | .eql => some ([], .b (decide (a = b)))
  | .neq => some ([], .b (!decide (a = b)))
  | _ => none

def binA (op : BinOp) (x y : V) : Option (List Prop × V) :=
  match x, y with
  | .i k a, .i k' b => if isShift op then shA op k a b else if kEq k k' then intA op k a b else none
  | .s a, .s b => strA op a b
  | .b a, .b b => match op with
    | .eql => some ([], .b (a == b))
    | .neq => some ([], .b (!(a == b)))
    | _ => none
  | .nilp, .nilp => match op with
    | .eql => some ([], .b true)
    | .neq => some ([], .b false)
    | _ => none
  | .p .., .nilp | .nilp, .p .. | .rp .., .nilp | .nilp, .rp .. => match op with
    | .eql => some ([], .b false)
    | .neq => some ([], .b true)
    | _ => none
  | .niliface, .niliface => none
  | .iface .., .niliface | .niliface, .iface .. => match op with
    | .eql => some ([], .b false)
    | .neq => some ([], .b true)
    | _ => none
  | _, _ => none

theorem list_u8_inj : ∀ {a b : List UInt8}, a.map (fun c : UInt8 => (c.toNat : Int)) = b.map (fun c : UInt8 => (c.toNat : Int)) → a = b := by
  intro a
  induction a with
  | nil => intro b h; cases b <;> simp at h ⊢
  | cons x a ih =>
    intro b h
    cases b with
    | nil => simp at h
    | cons y b =>
      simp only [List.map_cons, List.cons.injEq] at h
      have : x = y := UInt8.toNat_inj.1 (by omega)
      rw [this, ih h.2]

theorem bytes_loop (s : ByteArray) : ∀ (n i : Nat) (r : List UInt8), s.size - i = n → ByteArray.toList.loop s i r = r.reverse ++ s.data.toList.drop i := by
  intro n
  induction n with
  | zero =>
    intro i r h
    rw [ByteArray.toList.loop.eq_def, if_neg (by omega)]
    rw [List.drop_eq_nil_of_le (by simp; have : s.size = s.data.size := rfl; omega)]; simp
  | succ n ih =>
    intro i r h
    have hs : s.size = s.data.size := rfl
    rw [ByteArray.toList.loop.eq_def, if_pos (by omega), ih (i + 1) _ (by omega)]
    rw [List.drop_eq_getElem_cons (i := i) (by simp; omega)]
    have : s.get! i = s.data[i]'(by omega) := by
      show s.data[i]! = _
      rw [getElem!_pos s.data i (by omega)]
    simp [this]
theorem bytes_toList (s : ByteArray) : s.toList = s.data.toList := by
  unfold ByteArray.toList
  rw [bytes_loop s _ 0 [] rfl]; simp

theorem str_eq {s t : ByteArray} : decide (s.data.toList.map (fun c : UInt8 => (c.toNat : Int)) = t.data.toList.map (fun c : UInt8 => (c.toNat : Int))) = (s.toList == t.toList) := by
  rw [bytes_toList, bytes_toList]
  rw [Bool.eq_iff_iff]
  simp only [decide_eq_true_eq, beq_iff_eq]
  exact ⟨list_u8_inj, fun h => by rw [h]⟩

end Go.Proofs.YtiekchfipaiflaaGreatDoor
