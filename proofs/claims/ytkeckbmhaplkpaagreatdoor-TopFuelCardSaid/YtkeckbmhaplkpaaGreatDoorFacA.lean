/- The closed facts of TopFuel's row, part A. -/
import Derived.Test.YtkeckbmhaplkpaaGreatDoorRows
import Derived.Test.YtkeckbmhaplkpaaGreatDoorCards
import Derived.ProofKit
import Derived.Stop.Joined
import Derived.SevenTiedAt
namespace Go.Proofs.YtkeckbmhaplkpaaGreatDoor.topFuel
open Go.ChangeShapes Go.WideShapes Go.ChangeAt Go.RowKit
def kindsB (P : Program) (fn : Func) (c : OpenClaim) : Bool := c.kinds == (if c.domain.isEmpty then [] else fn.params.toList.map fun t => match P.underlying t with | some (.int k) => some k | _ => none)
theorem k1 : (Rows.topFuelRow.wf (OpenSpec.ofChange Rows.topFuelSpec)) = true := by kernel_rfl
theorem k4 : (Tryz.f3.params.all (Tryz.pinned.checked.prog.readableRec ·)) = true := by kernel_rfl
theorem k5 : (namedTie Tryz.pinned.checked.prog Rows.topFuelRow.named Rows.topFuelSpec.vars) = true := by kernel_rfl
theorem k6 : ((Rows.topFuelRow.stops == [])) = true := by kernel_rfl
theorem k7 : ((Tryz.pinned.checked.prog.stops == [])) = true := by kernel_rfl
theorem k8 : ((Rows.topFuelRow.knobs == [])) = true := by kernel_rfl
theorem k9 : ((Tryz.pinned.checked.prog.stopKnobs == [])) = true := by kernel_rfl
theorem k14 : ((Rows.topFuelRow.maps == (Tryz.f3.params.toList ++ Rows.topFuelSpec.plain.varTypes Tryz.pinned.checked.prog).any (Tryz.pinned.checked.prog.mapsRec ·))) = true := by kernel_rfl
theorem k15 : ((Rows.topFuelRow.ifaces == (Tryz.f3.params.toList ++ Rows.topFuelSpec.plain.varTypes Tryz.pinned.checked.prog).any (Tryz.pinned.checked.prog.ifacesRec ·))) = true := by kernel_rfl
theorem k16 : ((Rows.topFuelRow.mapsOut == Tryz.pinned.checked.prog.mapsAmong Tryz.f3.resultTypes.toList)) = true := by kernel_rfl
theorem k17 : ((Rows.topFuelRow.loops == (Tryz.f3.params.toList ++ Rows.topFuelSpec.plain.varTypes Tryz.pinned.checked.prog).any (Tryz.pinned.checked.prog.loopsFrom ·))) = true := by kernel_rfl
theorem k17b : ((Rows.topFuelRow.wideKeys == (Tryz.f3.params.toList ++ Rows.topFuelSpec.plain.varTypes Tryz.pinned.checked.prog ++ Tryz.f3.resultTypes.toList).any (Tryz.pinned.checked.prog.wideKeysFrom ·))) = true := by kernel_rfl
theorem k18 : (Rows.topFuelSpec.vars.all (Tryz.pinned.checked.prog.varReadable ·)) = true := by kernel_rfl
theorem k19 : (Tryz.f3.resultTypes.all (fun t => Tryz.pinned.checked.prog.readableRec t && decide (t < Tryz.pinned.checked.prog.types.size))) = true := by kernel_rfl
theorem k20 : ((Rows.topFuelRow.ifacesOut == Tryz.f3.resultTypes.toList.any (Tryz.pinned.checked.prog.ifacesRec ·))) = true := by kernel_rfl
theorem k21 : ((Rows.topFuelRow.loopsOut == Tryz.f3.resultTypes.toList.any (Tryz.pinned.checked.prog.loopsFrom ·))) = true := by kernel_rfl
theorem k22 : ((Rows.topFuelRow.plainKeys == Tryz.pinned.checked.prog.plainKeys)) = true := by kernel_rfl
theorem k23 : (Rows.topFuelRow.shortTexts.isNone) = true := by kernel_rfl
theorem k23b : (Tryz.pinned.checked.prog.stopsHeard) = true := by kernel_rfl
theorem k24 : (Tryz.pinned.checked.prog.mayEnter) = true := by kernel_rfl
theorem k24b : ((Rows.topFuelRow.lifted == Tryz.pinned.checked.prog.liftsFinal)) = true := by kernel_rfl
theorem k24c : ((Tryz.pinned.checked.prog.make == some Rows.topFuelRow.make)) = true := by kernel_rfl
theorem k25 : (kindsB Tryz.pinned.checked.prog Tryz.f3 Rows.topFuelRow) = true := by kernel_rfl
theorem k26 : ((Rows.topFuelRow.pinned == Rows.topFuelRow.pinnedBy)) = true := by kernel_rfl
theorem k27 : ((Rows.topFuelRow.veiled == (Tryz.f3.params.toList ++ Rows.topFuelSpec.plain.varTypes Tryz.pinned.checked.prog ++ Tryz.f3.resultTypes.toList).any (Tryz.pinned.checked.prog.veiledRec ·))) = true := by kernel_rfl
theorem k28 : (Rows.topFuelRow.veiledFits Tryz.pinned.checked.prog Tryz.f3.params.toList (Tryz.f3.params.toList ++ Rows.topFuelSpec.plain.varTypes Tryz.pinned.checked.prog ++ Tryz.f3.resultTypes.toList)) = true := by kernel_rfl
end Go.Proofs.YtkeckbmhaplkpaaGreatDoor.topFuel
