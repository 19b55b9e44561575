/- The closed facts of TopIndents's row, part C. -/
import Derived.Test.YtkeckbmhaplkpaaGreatDoorRows
import Derived.Test.YtkeckbmhaplkpaaGreatDoorCards
import Derived.ProofKit
import Derived.Stop.Joined
import Derived.SevenTiedAt
namespace Go.Proofs.YtkeckbmhaplkpaaGreatDoor.topIndents
open Go.ChangeShapes Go.WideShapes Go.ChangeAt Go.RowKit
theorem k10 : ((Rows.topIndentsRow.inPlace == Tryz.pinned.checked.prog.inPlace 5)) = true := by kernel_rfl
theorem named5 : Tryz.pinned.checked.prog.funcNamed Rows.topIndentsRow.func = some 5 := by kernel_rfl
theorem inst5 : Tryz.f5.isInstance Tryz.pinned.checked.prog Rows.topIndentsRow.origin Rows.topIndentsRow.targs := of_decide_eq_true (by kernel_rfl)
theorem wrap5 : Tryz.f5.isWrapper Tryz.pinned.checked.prog Rows.topIndentsRow.wrapper Rows.topIndentsRow.mainSum := by unfold Func.isWrapper; first | (rw [if_pos (by decide +kernel)]; kernel_rfl) | (rw [if_neg (by decide +kernel)]; exact ⟨rfl, rfl⟩)
theorem main5 : Tryz.pinned.checked.prog.mainIs = some (true, "55919d4a533e0927de9466b790cfd1b95586adee81ca3a9bc79af0907aeb9804".toList) := by kernel_rfl
theorem text5 : Rows.topIndentsRow.wfByText (OpenSpec.ofChange Rows.topIndentsSpec) = true := by kernel_rfl
theorem looks5 : false = Tryz.pinned.checked.prog.looks [] := by kernel_rfl
theorem stand5 : ([44, 9].all fun u => !Tryz.pinned.checked.prog.wantsStandIn u) = true := by kernel_rfl
end Go.Proofs.YtkeckbmhaplkpaaGreatDoor.topIndents
