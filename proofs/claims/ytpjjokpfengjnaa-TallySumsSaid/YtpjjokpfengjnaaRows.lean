/-
  No cell of these rows narrows 'for every input' (looked for: loops, veiled, ifaces, maps, wideKeys, modest, calm, conditions, laid).
  DERIVED. THE GIVEN ROWS OF THIS SEAT. 8 by the template 'for every input the law returns true; each argument reads behind the call as it read before'; 0 by the template 'total and deterministic' (their statements: YtpjjokpfengjnaaTotals.lean).
  GIVEN WITH THE SEED: the statements are not yours to turn. If you find one false, say at which input.
  Laid BY PROGRAM, IN A SANDBOX (cutbox-rows.mjs): the forced cells as the released guide's own fill.sh prints them over the translation 790191695568651a… (all of the seat's roots in one cut). By AI agents, Wed Nov 11 2026. No macro, syntax, notation, axiom, sorry.
-/
import Derived.Test.YtpjjokpfengjnaaChecked
import GoSem.Claim
import GoSem.ClaimJoined
import GoSem.ClaimMapViews
import Derived.JoinedTies
import Derived.KernelRfl
namespace Go.Proofs.Ytpjjokpfengjnaa
/- THE CELL 'sum', in the pinned program and in every row, IS THE sha256 OF THE DUMP (.gsa) THAT YtpjjokpfengjnaaProg.lean LOADS. Nothing in Lean hashes anything: it is a label: what it is worth is what the hold of that sum in a sandbox is worth. -/
noncomputable def Try.pinned : Pinned := { name := "ytpjjokpfengjnaa", sum := "790191695568651a9b7e018ed300561ba6c71adb312335be8fc8144ea5c30387", checked := Try.checked }
namespace Rows
def none {H : Type} : Left H := { results := [], args := [] }

/-- 'gimletlaw2.TallyTells': WHATEVER THE INPUT: true; the input reads as it did. -/
def tallyTellsSpec : ChangeSpec := { name := "tallyTells", fn := fun _ => fun
  | [d] => { results := [.lit (.bool true)], args := [d] }
  | _ => none }
def tallyTellsRow : OpenClaim := { program := "ytpjjokpfengjnaa", sum := "790191695568651a9b7e018ed300561ba6c71adb312335be8fc8144ea5c30387", func := "gimlet/gimletlaw2.TallyTells", spec := "tallyTells", apart := false }
def TallyTellsSaid : Prop := tallyTellsRow.holds Try.pinned (OpenSpec.ofChange tallyTellsSpec)

/-- ITS FALSE NEIGHBOUR: 'it returns false'. Refute it at one input. -/
def tallyTellsWrong : ChangeSpec := { name := "tallyTells", fn := fun _ => fun
  | [d] => { results := [.lit (.bool false)], args := [d] }
  | _ => none }
def TallyTellsWrongFalsely : Prop := tallyTellsRow.holds Try.pinned (OpenSpec.ofChange tallyTellsWrong)

/-- 'gimletlaw2.TallyCut': WHATEVER THE INPUT: true; the input reads as it did. -/
def tallyCutSpec : ChangeSpec := { name := "tallyCut", fn := fun _ => fun
  | [d1, d2] => { results := [.lit (.bool true)], args := [d1, d2] }
  | _ => none }
def tallyCutRow : OpenClaim := { program := "ytpjjokpfengjnaa", sum := "790191695568651a9b7e018ed300561ba6c71adb312335be8fc8144ea5c30387", func := "gimlet/gimletlaw2.TallyCut", spec := "tallyCut", apart := false }
def TallyCutSaid : Prop := tallyCutRow.holds Try.pinned (OpenSpec.ofChange tallyCutSpec)

/-- ITS FALSE NEIGHBOUR: 'it returns false'. Refute it at one input. -/
def tallyCutWrong : ChangeSpec := { name := "tallyCut", fn := fun _ => fun
  | [d1, d2] => { results := [.lit (.bool false)], args := [d1, d2] }
  | _ => none }
def TallyCutWrongFalsely : Prop := tallyCutRow.holds Try.pinned (OpenSpec.ofChange tallyCutWrong)

/-- 'gimletlaw2.TallyBy': WHATEVER THE INPUT: true; the input reads as it did. -/
def tallyBySpec : ChangeSpec := { name := "tallyBy", fn := fun _ => fun
  | [d1, d2, d3, d4, d5] => { results := [.lit (.bool true)], args := [d1, d2, d3, d4, d5] }
  | _ => none }
def tallyByRow : OpenClaim := { program := "ytpjjokpfengjnaa", sum := "790191695568651a9b7e018ed300561ba6c71adb312335be8fc8144ea5c30387", func := "gimlet/gimletlaw2.TallyBy", spec := "tallyBy", apart := false }
def TallyBySaid : Prop := tallyByRow.holds Try.pinned (OpenSpec.ofChange tallyBySpec)

/-- ITS FALSE NEIGHBOUR: 'it returns false'. Refute it at one input. -/
def tallyByWrong : ChangeSpec := { name := "tallyBy", fn := fun _ => fun
  | [d1, d2, d3, d4, d5] => { results := [.lit (.bool false)], args := [d1, d2, d3, d4, d5] }
  | _ => none }
def TallyByWrongFalsely : Prop := tallyByRow.holds Try.pinned (OpenSpec.ofChange tallyByWrong)

/-- 'gimletlaw2.TallyUpto': WHATEVER THE INPUT: true; the input reads as it did. -/
def tallyUptoSpec : ChangeSpec := { name := "tallyUpto", fn := fun _ => fun
  | [d1, d2, d3] => { results := [.lit (.bool true)], args := [d1, d2, d3] }
  | _ => none }
def tallyUptoRow : OpenClaim := { program := "ytpjjokpfengjnaa", sum := "790191695568651a9b7e018ed300561ba6c71adb312335be8fc8144ea5c30387", func := "gimlet/gimletlaw2.TallyUpto", spec := "tallyUpto", apart := false }
def TallyUptoSaid : Prop := tallyUptoRow.holds Try.pinned (OpenSpec.ofChange tallyUptoSpec)

/-- ITS FALSE NEIGHBOUR: 'it returns false'. Refute it at one input. -/
def tallyUptoWrong : ChangeSpec := { name := "tallyUpto", fn := fun _ => fun
  | [d1, d2, d3] => { results := [.lit (.bool false)], args := [d1, d2, d3] }
  | _ => none }
def TallyUptoWrongFalsely : Prop := tallyUptoRow.holds Try.pinned (OpenSpec.ofChange tallyUptoWrong)

/-- 'gimletlaw2.TallyMost': WHATEVER THE INPUT: true; the input reads as it did. -/
def tallyMostSpec : ChangeSpec := { name := "tallyMost", fn := fun _ => fun
  | [d1, d2, d3] => { results := [.lit (.bool true)], args := [d1, d2, d3] }
  | _ => none }
def tallyMostRow : OpenClaim := { program := "ytpjjokpfengjnaa", sum := "790191695568651a9b7e018ed300561ba6c71adb312335be8fc8144ea5c30387", func := "gimlet/gimletlaw2.TallyMost", spec := "tallyMost", apart := false }
def TallyMostSaid : Prop := tallyMostRow.holds Try.pinned (OpenSpec.ofChange tallyMostSpec)

/-- ITS FALSE NEIGHBOUR: 'it returns false'. Refute it at one input. -/
def tallyMostWrong : ChangeSpec := { name := "tallyMost", fn := fun _ => fun
  | [d1, d2, d3] => { results := [.lit (.bool false)], args := [d1, d2, d3] }
  | _ => none }
def TallyMostWrongFalsely : Prop := tallyMostRow.holds Try.pinned (OpenSpec.ofChange tallyMostWrong)

/-- 'gimletlaw2.TallyOn': WHATEVER THE INPUT: true; the input reads as it did. -/
def tallyOnSpec : ChangeSpec := { name := "tallyOn", fn := fun _ => fun
  | [d1, d2, d3, d4] => { results := [.lit (.bool true)], args := [d1, d2, d3, d4] }
  | _ => none }
def tallyOnRow : OpenClaim := { program := "ytpjjokpfengjnaa", sum := "790191695568651a9b7e018ed300561ba6c71adb312335be8fc8144ea5c30387", func := "gimlet/gimletlaw2.TallyOn", spec := "tallyOn", apart := false }
def TallyOnSaid : Prop := tallyOnRow.holds Try.pinned (OpenSpec.ofChange tallyOnSpec)

/-- ITS FALSE NEIGHBOUR: 'it returns false'. Refute it at one input. -/
def tallyOnWrong : ChangeSpec := { name := "tallyOn", fn := fun _ => fun
  | [d1, d2, d3, d4] => { results := [.lit (.bool false)], args := [d1, d2, d3, d4] }
  | _ => none }
def TallyOnWrongFalsely : Prop := tallyOnRow.holds Try.pinned (OpenSpec.ofChange tallyOnWrong)

/-- 'gimletlaw2.TallyFolds': WHATEVER THE INPUT: true; the input reads as it did. -/
def tallyFoldsSpec : ChangeSpec := { name := "tallyFolds", fn := fun _ => fun
  | [d] => { results := [.lit (.bool true)], args := [d] }
  | _ => none }
def tallyFoldsRow : OpenClaim := { program := "ytpjjokpfengjnaa", sum := "790191695568651a9b7e018ed300561ba6c71adb312335be8fc8144ea5c30387", func := "gimlet/gimletlaw2.TallyFolds", spec := "tallyFolds", apart := false }
def TallyFoldsSaid : Prop := tallyFoldsRow.holds Try.pinned (OpenSpec.ofChange tallyFoldsSpec)

/-- ITS FALSE NEIGHBOUR: 'it returns false'. Refute it at one input. -/
def tallyFoldsWrong : ChangeSpec := { name := "tallyFolds", fn := fun _ => fun
  | [d] => { results := [.lit (.bool false)], args := [d] }
  | _ => none }
def TallyFoldsWrongFalsely : Prop := tallyFoldsRow.holds Try.pinned (OpenSpec.ofChange tallyFoldsWrong)

/-- 'gimletlaw2.TallySums': WHATEVER THE INPUT: true; the input reads as it did. -/
def tallySumsSpec : ChangeSpec := { name := "tallySums", fn := fun _ => fun
  | [d1, d2] => { results := [.lit (.bool true)], args := [d1, d2] }
  | _ => none }
def tallySumsRow : OpenClaim := { program := "ytpjjokpfengjnaa", sum := "790191695568651a9b7e018ed300561ba6c71adb312335be8fc8144ea5c30387", func := "gimlet/gimletlaw2.TallySums", spec := "tallySums", apart := false }
def TallySumsSaid : Prop := tallySumsRow.holds Try.pinned (OpenSpec.ofChange tallySumsSpec)

/-- ITS FALSE NEIGHBOUR: 'it returns false'. Refute it at one input. -/
def tallySumsWrong : ChangeSpec := { name := "tallySums", fn := fun _ => fun
  | [d1, d2] => { results := [.lit (.bool false)], args := [d1, d2] }
  | _ => none }
def TallySumsWrongFalsely : Prop := tallySumsRow.holds Try.pinned (OpenSpec.ofChange tallySumsWrong)

/- THE SECOND FORM. 'bulk': how many values and letters a reading holds, each counted each time it is reached (what is shared counts as often as it is met; a slice's spare places count too). A statement '..UptoSaid' is the law's where the arguments, and the package variables that the reading takes, are together of bulk at most 1048576: NARROWER than '..Said'. Prove '..Said' where nothing that the law and all that it calls make is longer than what came in: it says more and counts as full. Else prove '..UptoSaid'. A law counts once. -/
mutual
def uptoBulk {H : Type} : DataW H → Nat
  | .lit (.string bytes) => bytes.length + 1
  | .lit _ => 1
  | .nil => 1
  | .ptr d => uptoBulk d + 1
  | .slice elems spare => uptoBulkAll elems + uptoBulkAll spare + 1
  | .agg parts => uptoBulkAll parts + 1
  | .iface _ d => uptoBulk d + 1
  | .map entries => uptoBulkEntries entries + 1
  | .held _ => 1
def uptoBulkAll {H : Type} : List (DataW H) → Nat
  | [] => 0
  | d :: r => uptoBulk d + uptoBulkAll r
def uptoBulkEntries {H : Type} : List (Lit × DataW H) → Nat
  | [] => 0
  | x :: r => uptoBulkEntry x + uptoBulkEntries r
def uptoBulkEntry {H : Type} : Lit × DataW H → Nat
  | (.string bytes, d) => bytes.length + uptoBulk d + 1
  | (_, d) => uptoBulk d + 1
 end
def uptoSmall : (H : Type) → List (DataW H) → Bool := fun _ ds => decide (uptoBulkAll ds ≤ 1048576)
def OpenSpec.upto (s : _root_.Go.ChangeSpec) : _root_.Go.OpenSpec := { _root_.Go.OpenSpec.ofChange s with cond := some uptoSmall }

/-- 'gimletlaw2.TallyTells', WHERE WHAT IT READS IS OF BULK AT MOST 1048576: true; the input reads as it did. -/
def tallyTellsUptoRow : OpenClaim := { program := "ytpjjokpfengjnaa", sum := "790191695568651a9b7e018ed300561ba6c71adb312335be8fc8144ea5c30387", func := "gimlet/gimletlaw2.TallyTells", spec := "tallyTells", apart := false, narrowed := true }
def TallyTellsUptoSaid : Prop := tallyTellsUptoRow.holds Try.pinned (OpenSpec.upto tallyTellsSpec)

/-- 'gimletlaw2.TallyCut', WHERE WHAT IT READS IS OF BULK AT MOST 1048576: true; the input reads as it did. -/
def tallyCutUptoRow : OpenClaim := { program := "ytpjjokpfengjnaa", sum := "790191695568651a9b7e018ed300561ba6c71adb312335be8fc8144ea5c30387", func := "gimlet/gimletlaw2.TallyCut", spec := "tallyCut", apart := false, narrowed := true }
def TallyCutUptoSaid : Prop := tallyCutUptoRow.holds Try.pinned (OpenSpec.upto tallyCutSpec)

/-- 'gimletlaw2.TallyBy', WHERE WHAT IT READS IS OF BULK AT MOST 1048576: true; the input reads as it did. -/
def tallyByUptoRow : OpenClaim := { program := "ytpjjokpfengjnaa", sum := "790191695568651a9b7e018ed300561ba6c71adb312335be8fc8144ea5c30387", func := "gimlet/gimletlaw2.TallyBy", spec := "tallyBy", apart := false, narrowed := true }
def TallyByUptoSaid : Prop := tallyByUptoRow.holds Try.pinned (OpenSpec.upto tallyBySpec)

/-- 'gimletlaw2.TallyUpto', WHERE WHAT IT READS IS OF BULK AT MOST 1048576: true; the input reads as it did. -/
def tallyUptoUptoRow : OpenClaim := { program := "ytpjjokpfengjnaa", sum := "790191695568651a9b7e018ed300561ba6c71adb312335be8fc8144ea5c30387", func := "gimlet/gimletlaw2.TallyUpto", spec := "tallyUpto", apart := false, narrowed := true }
def TallyUptoUptoSaid : Prop := tallyUptoUptoRow.holds Try.pinned (OpenSpec.upto tallyUptoSpec)

/-- 'gimletlaw2.TallyMost', WHERE WHAT IT READS IS OF BULK AT MOST 1048576: true; the input reads as it did. -/
def tallyMostUptoRow : OpenClaim := { program := "ytpjjokpfengjnaa", sum := "790191695568651a9b7e018ed300561ba6c71adb312335be8fc8144ea5c30387", func := "gimlet/gimletlaw2.TallyMost", spec := "tallyMost", apart := false, narrowed := true }
def TallyMostUptoSaid : Prop := tallyMostUptoRow.holds Try.pinned (OpenSpec.upto tallyMostSpec)

/-- 'gimletlaw2.TallyOn', WHERE WHAT IT READS IS OF BULK AT MOST 1048576: true; the input reads as it did. -/
def tallyOnUptoRow : OpenClaim := { program := "ytpjjokpfengjnaa", sum := "790191695568651a9b7e018ed300561ba6c71adb312335be8fc8144ea5c30387", func := "gimlet/gimletlaw2.TallyOn", spec := "tallyOn", apart := false, narrowed := true }
def TallyOnUptoSaid : Prop := tallyOnUptoRow.holds Try.pinned (OpenSpec.upto tallyOnSpec)

/-- 'gimletlaw2.TallyFolds', WHERE WHAT IT READS IS OF BULK AT MOST 1048576: true; the input reads as it did. -/
def tallyFoldsUptoRow : OpenClaim := { program := "ytpjjokpfengjnaa", sum := "790191695568651a9b7e018ed300561ba6c71adb312335be8fc8144ea5c30387", func := "gimlet/gimletlaw2.TallyFolds", spec := "tallyFolds", apart := false, narrowed := true }
def TallyFoldsUptoSaid : Prop := tallyFoldsUptoRow.holds Try.pinned (OpenSpec.upto tallyFoldsSpec)

/-- 'gimletlaw2.TallySums', WHERE WHAT IT READS IS OF BULK AT MOST 1048576: true; the input reads as it did. -/
def tallySumsUptoRow : OpenClaim := { program := "ytpjjokpfengjnaa", sum := "790191695568651a9b7e018ed300561ba6c71adb312335be8fc8144ea5c30387", func := "gimlet/gimletlaw2.TallySums", spec := "tallySums", apart := false, narrowed := true }
def TallySumsUptoSaid : Prop := tallySumsUptoRow.holds Try.pinned (OpenSpec.upto tallySumsSpec)

end Rows
end Go.Proofs.Ytpjjokpfengjnaa
