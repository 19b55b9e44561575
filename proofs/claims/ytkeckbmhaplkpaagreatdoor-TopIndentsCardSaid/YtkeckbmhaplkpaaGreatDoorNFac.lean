/- The closed facts of TopIndents's row, part E. -/
import Derived.Test.YtkeckbmhaplkpaaGreatDoorRows
import Derived.Test.YtkeckbmhaplkpaaGreatDoorCards
import Derived.Test.YtkeckbmhaplkpaaGreatDoorNFacC
import Derived.ProofKit
import Derived.Stop.Joined
import Derived.SevenTiedAt
import Derived.Test.YtkeckbmhaplkpaaGreatDoorNFacA
import Derived.Test.YtkeckbmhaplkpaaGreatDoorNFacB
import Derived.Test.YtkeckbmhaplkpaaGreatDoorNFacD
namespace Go.Proofs.YtkeckbmhaplkpaaGreatDoor.topIndents
open Go.ChangeShapes Go.WideShapes Go.ChangeAt Go.RowKit
theorem noGo : Tryz.pinned.checked.prog.funcs.toList.any Func.goes = false := by kernel_rfl
theorem goes_none {P : Program} (h : P.funcs.toList.any Func.goes = false) (f : FuncId) : P.goes f = false := by
  have all : ∀ fn ∈ P.funcs.toList, fn.goes = false := fun fn hf => by
    have := List.any_eq_false.1 h fn hf
    simpa using this
  have e1 : P.funcs.any Func.goes = false := by rw [← Array.any_toList]; exact h
  unfold Program.goes
  rw [e1, Bool.and_false, Bool.or_false, List.any_eq_false]
  intro g _
  cases hg : P.funcs[g]? with
  | none => simp
  | some fn =>
    have hm : fn ∈ P.funcs.toList := Array.mem_toList_iff.2 (Array.mem_of_getElem? hg)
    simp [all fn hm]
theorem goes_of {P : Program} {c : OpenClaim} {f : FuncId} (hs : c.start = .entering) (hn : P.funcNamed c.func = some f) (hg : P.goes f = false) : false = c.goesBy P := by
  unfold OpenClaim.goesBy Program.goesAt Program.goesFrom
  rw [hs, hn]
  simp [hg]
theorem goes5 : false = Rows.topIndentsRow.goesBy Tryz.pinned.checked.prog := goes_of rfl named5 (goes_none noGo 5)
end Go.Proofs.YtkeckbmhaplkpaaGreatDoor.topIndents
/- The closed facts of TopIndents's row. -/
namespace Go.Proofs.YtkeckbmhaplkpaaGreatDoor.topIndents
open Go.ChangeShapes Go.WideShapes Go.ChangeAt Go.RowKit
theorem and2 {a b : Bool} (h : a = true) (k : b = true) : (a && b) = true := by rw [h, k]; rfl
theorem joined_of {P : Program} {f : FuncId} {fn : Func} {s : ChangeSpec} {c : OpenClaim} (k1 : (c.wf (OpenSpec.ofChange s)) = true) (k2 : (laidOutB P) = true) (k3 : (mapsRowed P) = true) (k4 : (fn.params.all (P.readableRec ·)) = true) (k5 : (namedTie P c.named s.vars) = true) (k6 : ((c.stops == [])) = true) (k7 : ((P.stops == [])) = true) (k8 : ((c.knobs == [])) = true) (k9 : ((P.stopKnobs == [])) = true) (k10 : ((c.inPlace == P.inPlace f)) = true) (k11 : ((c.unfollowed == P.unfollowed f)) = true) (k12 : ((c.recurses == P.recurses f)) = true) (k13 : ((c.named == P.varsNamed f)) = true) (k14 : ((c.maps == (fn.params.toList ++ s.plain.varTypes P).any (P.mapsRec ·))) = true) (k15 : ((c.ifaces == (fn.params.toList ++ s.plain.varTypes P).any (P.ifacesRec ·))) = true) (k16 : ((c.mapsOut == P.mapsAmong fn.resultTypes.toList)) = true) (k17 : ((c.loops == (fn.params.toList ++ s.plain.varTypes P).any (P.loopsFrom ·))) = true) (k17b : ((c.wideKeys == (fn.params.toList ++ s.plain.varTypes P ++ fn.resultTypes.toList).any (P.wideKeysFrom ·))) = true) (k18 : (s.vars.all (P.varReadable ·)) = true) (k19 : (fn.resultTypes.all (fun t => P.readableRec t && decide (t < P.types.size))) = true) (k20 : ((c.ifacesOut == fn.resultTypes.toList.any (P.ifacesRec ·))) = true) (k21 : ((c.loopsOut == fn.resultTypes.toList.any (P.loopsFrom ·))) = true) (k22 : ((c.plainKeys == P.plainKeys)) = true) (k23 : (c.shortTexts.isNone) = true) (k23b : (P.stopsHeard) = true) (k24 : (P.mayEnter) = true) (k24b : ((c.lifted == P.liftsFinal)) = true) (k24c : ((P.make == some c.make)) = true) (k25 : (kindsB P fn c) = true) (k26 : ((c.pinned == c.pinnedBy)) = true) (k27 : ((c.veiled == (fn.params.toList ++ s.plain.varTypes P ++ fn.resultTypes.toList).any (P.veiledRec ·))) = true) (k28 : (c.veiledFits P fn.params.toList (fn.params.toList ++ s.plain.varTypes P ++ fn.resultTypes.toList)) = true) : joinedFacts P f fn s c = true := by
  unfold joinedFacts
  exact (and2 (and2 (and2 (and2 (and2 (and2 (and2 (and2 (and2 (and2 (and2 (and2 (and2 (and2 (and2 (and2 (and2 (and2 (and2 (and2 (and2 (and2 (and2 (and2 (and2 (and2 (and2 (and2 (and2 (and2 (and2 k1 k2) k3) k4) k5) k6) k7) k8) k9) k10) k11) k12) k13) k14) k15) k16) k17) k17b) k18) k19) k20) k21) k22) k23) k23b) k24) k24b) k24c) k25) k26) k27) k28)
theorem closed5 : joinedFacts Tryz.pinned.checked.prog 5 Tryz.f5 Rows.topIndentsSpec Rows.topIndentsRow = true := joined_of k1 k2 k3 k4 k5 k6 k7 k8 k9 k10 k11 k12 k13 k14 k15 k16 k17 k17b k18 k19 k20 k21 k22 k23 k23b k24 k24b k24c k25 k26 k27 k28
end Go.Proofs.YtkeckbmhaplkpaaGreatDoor.topIndents
