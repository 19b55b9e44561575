/- The closed facts of TopLines's row, part C. -/
import Derived.Test.YtkeckbmhaplkpaaGreatDoorRows
import Derived.Test.YtkeckbmhaplkpaaGreatDoorCards
import Derived.ProofKit
import Derived.Stop.Joined
import Derived.SevenTiedAt
namespace Go.Proofs.YtkeckbmhaplkpaaGreatDoor.topLines
open Go.ChangeShapes Go.WideShapes Go.ChangeAt Go.RowKit
theorem k10 : ((Rows.topLinesRow.inPlace == Tryz.pinned.checked.prog.inPlace 4)) = true := by kernel_rfl
theorem named4 : Tryz.pinned.checked.prog.funcNamed Rows.topLinesRow.func = some 4 := by kernel_rfl
theorem inst4 : Tryz.f4.isInstance Tryz.pinned.checked.prog Rows.topLinesRow.origin Rows.topLinesRow.targs := of_decide_eq_true (by kernel_rfl)
theorem wrap4 : Tryz.f4.isWrapper Tryz.pinned.checked.prog Rows.topLinesRow.wrapper Rows.topLinesRow.mainSum := by unfold Func.isWrapper; first | (rw [if_pos (by decide +kernel)]; kernel_rfl) | (rw [if_neg (by decide +kernel)]; exact ⟨rfl, rfl⟩)
theorem main4 : Tryz.pinned.checked.prog.mainIs = some (true, "55919d4a533e0927de9466b790cfd1b95586adee81ca3a9bc79af0907aeb9804".toList) := by kernel_rfl
theorem text4 : Rows.topLinesRow.wfByText (OpenSpec.ofChange Rows.topLinesSpec) = true := by kernel_rfl
theorem looks4 : false = Tryz.pinned.checked.prog.looks [] := by kernel_rfl
theorem stand4 : ([3, 9].all fun u => !Tryz.pinned.checked.prog.wantsStandIn u) = true := by kernel_rfl
end Go.Proofs.YtkeckbmhaplkpaaGreatDoor.topLines
