/- The closed facts of TopLines's row, part D. -/
import Derived.Test.YtkeckbmhaplkpaaGreatDoorRows
import Derived.Test.YtkeckbmhaplkpaaGreatDoorCards
import Derived.ProofKit
import Derived.Stop.Joined
import Derived.SevenTiedAt
namespace Go.Proofs.YtkeckbmhaplkpaaGreatDoor.topLines
open Go.ChangeShapes Go.WideShapes Go.ChangeAt Go.RowKit
theorem k12 : ((Rows.topLinesRow.recurses == Tryz.pinned.checked.prog.recurses 4)) = true := by kernel_rfl
theorem k13 : ((Rows.topLinesRow.named == Tryz.pinned.checked.prog.varsNamed 4)) = true := by kernel_rfl
end Go.Proofs.YtkeckbmhaplkpaaGreatDoor.topLines
