/- The closed facts of TopFuel's row, part D. -/
import Derived.Test.YtkeckbmhaplkpaaGreatDoorRows
import Derived.Test.YtkeckbmhaplkpaaGreatDoorCards
import Derived.ProofKit
import Derived.Stop.Joined
import Derived.SevenTiedAt
namespace Go.Proofs.YtkeckbmhaplkpaaGreatDoor.topFuel
open Go.ChangeShapes Go.WideShapes Go.ChangeAt Go.RowKit
theorem k12 : ((Rows.topFuelRow.recurses == Tryz.pinned.checked.prog.recurses 3)) = true := by kernel_rfl
theorem k13 : ((Rows.topFuelRow.named == Tryz.pinned.checked.prog.varsNamed 3)) = true := by kernel_rfl
end Go.Proofs.YtkeckbmhaplkpaaGreatDoor.topFuel
