/- Plain lemmas on what was printed: the small functions, a new terminal. -/
import Derived.Test.YtiekchfipaiflaaGreatDoorT4
namespace Go.Proofs.YtiekchfipaiflaaGreatDoor
open Go

theorem chk_t {p : Prop} {i : Decidable p} {α : Type} {k : Option α} (h : p) : @chk p i α k = k := by simp [chk, h]
theorem bnd_s {α β : Type} {a : α} {k : α → Option β} : bnd (some a) k = k a := by simp only [bnd]
theorem ifb_t {α : Type} {x y : Option α} : ifb true x y = x := by simp only [ifb]
theorem ifb_f {α : Type} {x y : Option α} : ifb false x y = y := by simp only [ifb]
theorem sm_l {α β γ : Type} {a : α} {f : α → Option γ} {g : β → Option γ} : sm (.inl a) f g = f a := by simp only [sm]
theorem sm_r {α β γ : Type} {b : β} {f : α → Option γ} {g : β → Option γ} : sm (.inr b) f g = g b := by simp only [sm]
theorem ifb_if {α : Type} {b : Bool} {x y : Option α} : ifb b x y = if b = true then x else y := by cases b <;> rfl
theorem wr_small {n : Int} (h : -1000000 ≤ n) (h' : n ≤ 1000000) : wr n = n := wr_in (by unfold inR; omega)
theorem inR_small {n : Int} (h : -1000000 ≤ n) (h' : n ≤ 1000000) : inR n := by unfold inR; omega

def b0 : cell_Cell := ⟨32, ⟨0, 0, 0⟩, 0⟩

end Go.Proofs.YtiekchfipaiflaaGreatDoor
