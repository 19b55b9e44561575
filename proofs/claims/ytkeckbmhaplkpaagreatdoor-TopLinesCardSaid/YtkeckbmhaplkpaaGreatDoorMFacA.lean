/- The closed facts of TopLines's row, part A. -/
import Derived.Test.YtkeckbmhaplkpaaGreatDoorRows
import Derived.Test.YtkeckbmhaplkpaaGreatDoorCards
import Derived.ProofKit
import Derived.Stop.Joined
import Derived.SevenTiedAt
namespace Go.Proofs.YtkeckbmhaplkpaaGreatDoor.topLines
open Go.ChangeShapes Go.WideShapes Go.ChangeAt Go.RowKit
def kindsB (P : Program) (fn : Func) (c : OpenClaim) : Bool := c.kinds == (if c.domain.isEmpty then [] else fn.params.toList.map fun t => match P.underlying t with | some (.int k) => some k | _ => none)
theorem k1 : (Rows.topLinesRow.wf (OpenSpec.ofChange Rows.topLinesSpec)) = true := by kernel_rfl
theorem k4 : (Tryz.f4.params.all (Tryz.pinned.checked.prog.readableRec ·)) = true := by kernel_rfl
theorem k5 : (namedTie Tryz.pinned.checked.prog Rows.topLinesRow.named Rows.topLinesSpec.vars) = true := by kernel_rfl
theorem k6 : ((Rows.topLinesRow.stops == [])) = true := by kernel_rfl
theorem k7 : ((Tryz.pinned.checked.prog.stops == [])) = true := by kernel_rfl
theorem k8 : ((Rows.topLinesRow.knobs == [])) = true := by kernel_rfl
theorem k9 : ((Tryz.pinned.checked.prog.stopKnobs == [])) = true := by kernel_rfl
theorem k14 : ((Rows.topLinesRow.maps == (Tryz.f4.params.toList ++ Rows.topLinesSpec.plain.varTypes Tryz.pinned.checked.prog).any (Tryz.pinned.checked.prog.mapsRec ·))) = true := by kernel_rfl
theorem k15 : ((Rows.topLinesRow.ifaces == (Tryz.f4.params.toList ++ Rows.topLinesSpec.plain.varTypes Tryz.pinned.checked.prog).any (Tryz.pinned.checked.prog.ifacesRec ·))) = true := by kernel_rfl
theorem k16 : ((Rows.topLinesRow.mapsOut == Tryz.pinned.checked.prog.mapsAmong Tryz.f4.resultTypes.toList)) = true := by kernel_rfl
theorem k17 : ((Rows.topLinesRow.loops == (Tryz.f4.params.toList ++ Rows.topLinesSpec.plain.varTypes Tryz.pinned.checked.prog).any (Tryz.pinned.checked.prog.loopsFrom ·))) = true := by kernel_rfl
theorem k17b : ((Rows.topLinesRow.wideKeys == (Tryz.f4.params.toList ++ Rows.topLinesSpec.plain.varTypes Tryz.pinned.checked.prog ++ Tryz.f4.resultTypes.toList).any (Tryz.pinned.checked.prog.wideKeysFrom ·))) = true := by kernel_rfl
theorem k18 : (Rows.topLinesSpec.vars.all (Tryz.pinned.checked.prog.varReadable ·)) = true := by kernel_rfl
theorem k19 : (Tryz.f4.resultTypes.all (fun t => Tryz.pinned.checked.prog.readableRec t && decide (t < Tryz.pinned.checked.prog.types.size))) = true := by kernel_rfl
theorem k20 : ((Rows.topLinesRow.ifacesOut == Tryz.f4.resultTypes.toList.any (Tryz.pinned.checked.prog.ifacesRec ·))) = true := by kernel_rfl
theorem k21 : ((Rows.topLinesRow.loopsOut == Tryz.f4.resultTypes.toList.any (Tryz.pinned.checked.prog.loopsFrom ·))) = true := by kernel_rfl
theorem k22 : ((Rows.topLinesRow.plainKeys == Tryz.pinned.checked.prog.plainKeys)) = true := by kernel_rfl
theorem k23 : (Rows.topLinesRow.shortTexts.isNone) = true := by kernel_rfl
theorem k23b : (Tryz.pinned.checked.prog.stopsHeard) = true := by kernel_rfl
theorem k24 : (Tryz.pinned.checked.prog.mayEnter) = true := by kernel_rfl
theorem k24b : ((Rows.topLinesRow.lifted == Tryz.pinned.checked.prog.liftsFinal)) = true := by kernel_rfl
theorem k24c : ((Tryz.pinned.checked.prog.make == some Rows.topLinesRow.make)) = true := by kernel_rfl
theorem k25 : (kindsB Tryz.pinned.checked.prog Tryz.f4 Rows.topLinesRow) = true := by kernel_rfl
theorem k26 : ((Rows.topLinesRow.pinned == Rows.topLinesRow.pinnedBy)) = true := by kernel_rfl
theorem k27 : ((Rows.topLinesRow.veiled == (Tryz.f4.params.toList ++ Rows.topLinesSpec.plain.varTypes Tryz.pinned.checked.prog ++ Tryz.f4.resultTypes.toList).any (Tryz.pinned.checked.prog.veiledRec ·))) = true := by kernel_rfl
theorem k28 : (Rows.topLinesRow.veiledFits Tryz.pinned.checked.prog Tryz.f4.params.toList (Tryz.f4.params.toList ++ Rows.topLinesSpec.plain.varTypes Tryz.pinned.checked.prog ++ Tryz.f4.resultTypes.toList)) = true := by kernel_rfl
end Go.Proofs.YtkeckbmhaplkpaaGreatDoor.topLines
