/- A product with one, without overflow: 12001 cases. -/
import Derived.Test.YtiekchfipaiflaaGreatDoorT4
namespace Go.Proofs.YtiekchfipaiflaaGreatDoor
open Go
theorem mul64_ok : ∀ n : Nat, n ≤ 12000 → F91 0 1 (IntKind.wrap .u64 (n : Int)) = some (0, (n : Int)) := by
  have h : (List.range 12001).all (fun n => decide (F91 0 1 (IntKind.wrap .u64 ((n : Nat) : Int)) = some (0, (n : Int)))) = true := by kernel_rfl
  intro n hn
  have := List.all_eq_true.1 h n (List.mem_range.2 (by omega))
  exact of_decide_eq_true this
end Go.Proofs.YtiekchfipaiflaaGreatDoor
