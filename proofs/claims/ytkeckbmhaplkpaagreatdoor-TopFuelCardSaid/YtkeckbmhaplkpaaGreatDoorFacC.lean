/- The closed facts of TopFuel's row, part C. -/
import Derived.Test.YtkeckbmhaplkpaaGreatDoorRows
import Derived.Test.YtkeckbmhaplkpaaGreatDoorCards
import Derived.ProofKit
import Derived.Stop.Joined
import Derived.SevenTiedAt
namespace Go.Proofs.YtkeckbmhaplkpaaGreatDoor.topFuel
open Go.ChangeShapes Go.WideShapes Go.ChangeAt Go.RowKit
theorem k10 : ((Rows.topFuelRow.inPlace == Tryz.pinned.checked.prog.inPlace 3)) = true := by kernel_rfl
theorem named3 : Tryz.pinned.checked.prog.funcNamed Rows.topFuelRow.func = some 3 := by kernel_rfl
theorem inst3 : Tryz.f3.isInstance Tryz.pinned.checked.prog Rows.topFuelRow.origin Rows.topFuelRow.targs := of_decide_eq_true (by kernel_rfl)
theorem wrap3 : Tryz.f3.isWrapper Tryz.pinned.checked.prog Rows.topFuelRow.wrapper Rows.topFuelRow.mainSum := by unfold Func.isWrapper; first | (rw [if_pos (by decide +kernel)]; kernel_rfl) | (rw [if_neg (by decide +kernel)]; exact ⟨rfl, rfl⟩)
theorem main3 : Tryz.pinned.checked.prog.mainIs = some (true, "55919d4a533e0927de9466b790cfd1b95586adee81ca3a9bc79af0907aeb9804".toList) := by kernel_rfl
theorem text3 : Rows.topFuelRow.wfByText (OpenSpec.ofChange Rows.topFuelSpec) = true := by kernel_rfl
theorem looks3 : false = Tryz.pinned.checked.prog.looks [] := by kernel_rfl
theorem stand3 : ([3, 4].all fun u => !Tryz.pinned.checked.prog.wantsStandIn u) = true := by kernel_rfl
end Go.Proofs.YtkeckbmhaplkpaaGreatDoor.topFuel
