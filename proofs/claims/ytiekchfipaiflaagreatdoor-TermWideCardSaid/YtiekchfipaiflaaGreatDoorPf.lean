/- TermWide: whatever the rows, the half of the columns and the number of signs, the statement's function answers true, and what was there reads as it did; the tied card of it. No condition beyond the card's own (the listed variables as the program's text lays them). -/
import Derived.Test.YtiekchfipaiflaaGreatDoorPe
import Derived.Test.YtiekchfipaiflaaGreatDoorNb
namespace Go.Proofs.YtiekchfipaiflaaGreatDoor
open Go
theorem termWide_holds : Rows.TermWideCardSaid := wide_card fun a b c hb => ⟨100000, F4_true fuelW a b c hb⟩
end Go.Proofs.YtiekchfipaiflaaGreatDoor
