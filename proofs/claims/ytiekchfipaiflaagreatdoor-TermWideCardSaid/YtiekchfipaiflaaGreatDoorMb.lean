/- Words of the printed functions; plain cells as a type; a call from its contract. -/
import Derived.Test.YtiekchfipaiflaaGreatDoorMa
namespace Go.Proofs.YtiekchfipaiflaaGreatDoor
open Go

/-! A function's own words. -/
def chk (p : Prop) [Decidable p] {α : Type} (k : Option α) : Option α := if p then k else none
def bnd {α β : Type} (x : Option α) (k : α → Option β) : Option β :=
  match x with
  | some a => k a
  | none => none
def ifb {α : Type} (b : Bool) (x y : Option α) : Option α :=
  match b with
  | true => x
  | false => y
instance instDecHas (k : IntKind) (n : Int) : Decidable (k.has n) := by unfold IntKind.has; infer_instance
theorem of_chk {p : Prop} [Decidable p] {α : Type} {k : Option α} {y : α} (h : chk p k = some y) : p ∧ k = some y := by
  unfold chk at h
  split at h
  · rename_i hp; exact ⟨hp, h⟩
  · cases h
theorem of_bnd {α β : Type} {x : Option α} {k : α → Option β} {y : β} (h : bnd x k = some y) : ∃ a, x = some a ∧ k a = some y := by
  unfold bnd at h
  split at h
  · exact ⟨_, rfl, h⟩
  · cases h
theorem of_ifb {α : Type} {b : Bool} {x y : Option α} {z : α} (h : ifb b x y = some z) : (b = true ∧ x = some z) ∨ (b = false ∧ y = some z) := by
  cases b
  · exact .inr ⟨rfl, h⟩
  · exact .inl ⟨rfl, h⟩
theorem allP_nil : allP [] := trivial
theorem allP_cons {p : Prop} {r : List Prop} (h : p) (h' : allP r) : allP (p :: r) := ⟨h, h'⟩
theorem pc {p : Prop} {r : List Prop} (h : p) (h' : allP r) : allP (p :: r) := ⟨h, h'⟩

/-! Cells without lists. -/
inductive SV
  | u
  | b (x : Bool)
  | i (k : IntKind) (n : Int)
  | s (x : List Int)
  | nilp
  | p (id idx sub : Nat)
  | nils
  | sl (id off len : Nat)
  | nilfn
  | fn (f : Fn)
  | niliface
  | ifp (t : TypeId) (id idx sub : Nat)
  | ifi (t : TypeId) (k : IntKind) (n : Int)
  | ifs (t : TypeId) (x : List Int)
  | fl (k : FloatKind) (bits : Nat)
def SV.toV : SV → V
  | .u => .u
  | .b x => .b x
  | .i k n => .i k n
  | .s x => .s x
  | .nilp => .nilp
  | .p id idx sub => .p id idx sub
  | .nils => .nils
  | .sl id off len => .sl id off len
  | .nilfn => .nilfn
  | .fn f => .fn f [] []
  | .niliface => .niliface
  | .ifp t id idx sub => .iface t (.p id idx sub)
  | .ifi t k n => .iface t (.i k n)
  | .ifs t x => .iface t (.s x)
  | .fl k n => .fl k n
def V.toSV : V → SV
  | .b x => .b x
  | .i k n => .i k n
  | .s x => .s x
  | .nilp => .nilp
  | .p id idx sub => .p id idx sub
  | .nils => .nils
  | .sl id off len => .sl id off len
  | .nilfn => .nilfn
  | .fn f [] [] => .fn f
  | .niliface => .niliface
  | .iface t (.p id idx sub) => .ifp t id idx sub
  | .iface t (.i k n) => .ifi t k n
  | .iface t (.s x) => .ifs t x
  | .fl k n => .fl k n
  | _ => .u

/-- A struct alone. -/
def svB (size : Nat) (l : List SV) : Blk := ⟨List SV, size, fun x => x.map SV.toV, fun l => l.map V.toSV, [], [l]⟩
/-- Structs in a row. -/
def svsB (size : Nat) (l : List (List SV)) : Blk := ⟨List SV, size, fun x => x.map SV.toV, fun l => l.map V.toSV, [], l⟩
def intB (k : IntKind) (l : List Int) : Blk := ⟨Int, 1, fun n => [.i k n], fun vs => vInt (vs.getD 0 .u), 0, l⟩
def vBool : V → Bool
  | .b x => x
  | _ => false
def vStr : V → List Int
  | .s x => x
  | _ => []
def vRo (α : Type) (d : List α) : V → List α
  | .ro _ _ _ _ _ => d
  | _ => []
def boolB (l : List Bool) : Blk := ⟨Bool, 1, fun n => [.b n], fun vs => vBool (vs.getD 0 .u), false, l⟩
def strB (l : List (List Int)) : Blk := ⟨List Int, 1, fun n => [.s n], fun vs => vStr (vs.getD 0 .u), [], l⟩

def ints (l : List Int) : List Int := l.map fun y => y

/-! A call. -/
def callB (τ : List Nat) (args : List V) (hs : List (Option Blk)) (v : V) (hs' : List (Option Blk)) : Bool :=
  nodupB τ && (Nat.beq τ.length hs'.length && (Nat.ble hs.length hs'.length && (allSome hs && (wf2L (mapOf (τ.take hs.length)) args && wf2 (mapOf τ) v))))
def callE (τ : List Nat) (hs hs' : List (Option Blk)) : List (List V × List V) := wfHs (mapOf (τ.take hs.length)) hs ++ wfHs (mapOf τ) hs'

def mkCall {P : Program} {G : Glob} {K : FuncId} {args : List V} {hs : List (Option Blk)} {v : V} {hs' : List (Option Blk)} (enter : ∀ args w, (callFunc K args).run P w = .ok (.enter K args) w)
    (h : Spec P G K args hs v hs') (τ : List Nat) (hb : callB τ args hs v hs' = true) (he : (callE τ hs hs').map (·.1) = (callE τ hs hs').map (·.2)) : CallD P G where
  K := K
  args := args.map (ren2 (mapOf (τ.take hs.length)))
  blks := blksOf (mapOf (τ.take hs.length)) (τ.take hs.length) hs
  v := ren2 (mapOf τ) v
  wr := wrOf (mapOf τ) τ hs'
  enter := enter
  ok := by
    simp only [callB, Bool.and_eq_true] at hb
    obtain ⟨h1, h2, h3, h4, h5, h6⟩ := hb
    obtain ⟨g1, g2⟩ := allS_append (allS_of he)
    exact CallOK.of h τ h1 (Nat.eq_of_beq_eq_true h2) (Nat.le_of_ble_eq_true h3) h4 h5 g1 h6 g2

/-! Annotations, in short. -/
section
variable {P : Program} {G : Glob}
abbrev o_ : RAnn P G := .op .auto
abbrev m_ : RAnn P G := .must .auto
abbrev s_ : RAnn P G := .skip
abbrev k_ (d : Bool) : RAnn P G := .known .auto d
abbrev n_ (id : Nat) (b : Blk) : RAnn P G := .op (.fresh id b)
abbrev n2_ (i id : Nat) (b : Blk) : RAnn P G := .op (.fresh2 i id b)
abbrev c_ (c : CallD P G) : RAnn P G := .call c
abbrev R_ (l : List (RAnn P G)) : PAnn P G := .reg l
abbrev T_ : PAnn P G := .br true
abbrev F_ : PAnn P G := .br false
end
end Go.Proofs.YtiekchfipaiflaaGreatDoor
