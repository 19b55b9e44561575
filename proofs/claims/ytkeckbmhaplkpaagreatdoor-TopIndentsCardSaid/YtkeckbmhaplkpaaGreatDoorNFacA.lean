/- The closed facts of TopIndents's row, part A. -/
import Derived.Test.YtkeckbmhaplkpaaGreatDoorRows
import Derived.Test.YtkeckbmhaplkpaaGreatDoorCards
import Derived.ProofKit
import Derived.Stop.Joined
import Derived.SevenTiedAt
namespace Go.Proofs.YtkeckbmhaplkpaaGreatDoor.topIndents
open Go.ChangeShapes Go.WideShapes Go.ChangeAt Go.RowKit
def kindsB (P : Program) (fn : Func) (c : OpenClaim) : Bool := c.kinds == (if c.domain.isEmpty then [] else fn.params.toList.map fun t => match P.underlying t with | some (.int k) => some k | _ => none)
theorem k1 : (Rows.topIndentsRow.wf (OpenSpec.ofChange Rows.topIndentsSpec)) = true := by kernel_rfl
theorem k4 : (Tryz.f5.params.all (Tryz.pinned.checked.prog.readableRec ·)) = true := by kernel_rfl
theorem k5 : (namedTie Tryz.pinned.checked.prog Rows.topIndentsRow.named Rows.topIndentsSpec.vars) = true := by kernel_rfl
theorem k6 : ((Rows.topIndentsRow.stops == [])) = true := by kernel_rfl
theorem k7 : ((Tryz.pinned.checked.prog.stops == [])) = true := by kernel_rfl
theorem k8 : ((Rows.topIndentsRow.knobs == [])) = true := by kernel_rfl
theorem k9 : ((Tryz.pinned.checked.prog.stopKnobs == [])) = true := by kernel_rfl
theorem k14 : ((Rows.topIndentsRow.maps == (Tryz.f5.params.toList ++ Rows.topIndentsSpec.plain.varTypes Tryz.pinned.checked.prog).any (Tryz.pinned.checked.prog.mapsRec ·))) = true := by kernel_rfl
theorem k15 : ((Rows.topIndentsRow.ifaces == (Tryz.f5.params.toList ++ Rows.topIndentsSpec.plain.varTypes Tryz.pinned.checked.prog).any (Tryz.pinned.checked.prog.ifacesRec ·))) = true := by kernel_rfl
theorem k16 : ((Rows.topIndentsRow.mapsOut == Tryz.pinned.checked.prog.mapsAmong Tryz.f5.resultTypes.toList)) = true := by kernel_rfl
theorem k17 : ((Rows.topIndentsRow.loops == (Tryz.f5.params.toList ++ Rows.topIndentsSpec.plain.varTypes Tryz.pinned.checked.prog).any (Tryz.pinned.checked.prog.loopsFrom ·))) = true := by kernel_rfl
theorem k17b : ((Rows.topIndentsRow.wideKeys == (Tryz.f5.params.toList ++ Rows.topIndentsSpec.plain.varTypes Tryz.pinned.checked.prog ++ Tryz.f5.resultTypes.toList).any (Tryz.pinned.checked.prog.wideKeysFrom ·))) = true := by kernel_rfl
theorem k18 : (Rows.topIndentsSpec.vars.all (Tryz.pinned.checked.prog.varReadable ·)) = true := by kernel_rfl
theorem k19 : (Tryz.f5.resultTypes.all (fun t => Tryz.pinned.checked.prog.readableRec t && decide (t < Tryz.pinned.checked.prog.types.size))) = true := by kernel_rfl
theorem k20 : ((Rows.topIndentsRow.ifacesOut == Tryz.f5.resultTypes.toList.any (Tryz.pinned.checked.prog.ifacesRec ·))) = true := by kernel_rfl
theorem k21 : ((Rows.topIndentsRow.loopsOut == Tryz.f5.resultTypes.toList.any (Tryz.pinned.checked.prog.loopsFrom ·))) = true := by kernel_rfl
theorem k22 : ((Rows.topIndentsRow.plainKeys == Tryz.pinned.checked.prog.plainKeys)) = true := by kernel_rfl
theorem k23 : (Rows.topIndentsRow.shortTexts.isNone) = true := by kernel_rfl
theorem k23b : (Tryz.pinned.checked.prog.stopsHeard) = true := by kernel_rfl
theorem k24 : (Tryz.pinned.checked.prog.mayEnter) = true := by kernel_rfl
theorem k24b : ((Rows.topIndentsRow.lifted == Tryz.pinned.checked.prog.liftsFinal)) = true := by kernel_rfl
theorem k24c : ((Tryz.pinned.checked.prog.make == some Rows.topIndentsRow.make)) = true := by kernel_rfl
theorem k25 : (kindsB Tryz.pinned.checked.prog Tryz.f5 Rows.topIndentsRow) = true := by kernel_rfl
theorem k26 : ((Rows.topIndentsRow.pinned == Rows.topIndentsRow.pinnedBy)) = true := by kernel_rfl
theorem k27 : ((Rows.topIndentsRow.veiled == (Tryz.f5.params.toList ++ Rows.topIndentsSpec.plain.varTypes Tryz.pinned.checked.prog ++ Tryz.f5.resultTypes.toList).any (Tryz.pinned.checked.prog.veiledRec ·))) = true := by kernel_rfl
theorem k28 : (Rows.topIndentsRow.veiledFits Tryz.pinned.checked.prog Tryz.f5.params.toList (Tryz.f5.params.toList ++ Rows.topIndentsSpec.plain.varTypes Tryz.pinned.checked.prog ++ Tryz.f5.resultTypes.toList)) = true := by kernel_rfl
end Go.Proofs.YtkeckbmhaplkpaaGreatDoor.topIndents
