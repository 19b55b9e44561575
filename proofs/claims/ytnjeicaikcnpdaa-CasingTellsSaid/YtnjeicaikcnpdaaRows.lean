/-
  No cell of these rows narrows 'for every input' (looked for: loops, veiled, ifaces, maps, wideKeys, modest, calm, conditions, laid).
  DERIVED. THE GIVEN ROWS OF THIS SEAT. 5 by the template 'for every input the law returns true; each argument reads behind the call as it read before'; 0 by the template 'total and deterministic' (their statements: YtnjeicaikcnpdaaTotals.lean).
  GIVEN WITH THE SEED: the statements are not yours to turn. If you find one false, say at which input.
  Laid BY PROGRAM, IN A SANDBOX (cutbox-rows.mjs): the forced cells as the released guide's own fill.sh prints them over the translation 7ba73a79e02ed549… (all of the seat's roots in one cut). By AI agents, Wed Nov 11 2026. No macro, syntax, notation, axiom, sorry.
-/
import Derived.Test.YtnjeicaikcnpdaaChecked
import GoSem.Claim
import GoSem.ClaimJoined
import GoSem.ClaimMapViews
import Derived.JoinedTies
import Derived.KernelRfl
namespace Go.Proofs.Ytnjeicaikcnpdaa
/- THE CELL 'sum', in the pinned program and in every row, IS THE sha256 OF THE DUMP (.gsa) THAT YtnjeicaikcnpdaaProg.lean LOADS. Nothing in Lean hashes anything: it is a label: what it is worth is what the hold of that sum in a sandbox is worth. -/
noncomputable def Try.pinned : Pinned := { name := "ytnjeicaikcnpdaa", sum := "7ba73a79e02ed54901738d59cb99a3399a520e58fdf91c92ec3b0b152ad0fedc", checked := Try.checked }
namespace Rows
def none {H : Type} : Left H := { results := [], args := [] }

/-- 'gimletlaw17.CasingTells': WHATEVER THE INPUT: true; the input reads as it did. -/
def casingTellsSpec : ChangeSpec := { name := "casingTells", fn := fun _ => fun
  | [d1, d2] => { results := [.lit (.bool true)], args := [d1, d2] }
  | _ => none }
def casingTellsRow : OpenClaim := { program := "ytnjeicaikcnpdaa", sum := "7ba73a79e02ed54901738d59cb99a3399a520e58fdf91c92ec3b0b152ad0fedc", func := "gimlet/gimletlaw17.CasingTells", spec := "casingTells", inPlace := ["internal/abi.NoEscape"], apart := false }
def CasingTellsSaid : Prop := casingTellsRow.holds Try.pinned (OpenSpec.ofChange casingTellsSpec)

/-- ITS FALSE NEIGHBOUR: 'it returns false'. Refute it at one input. -/
def casingTellsWrong : ChangeSpec := { name := "casingTells", fn := fun _ => fun
  | [d1, d2] => { results := [.lit (.bool false)], args := [d1, d2] }
  | _ => none }
def CasingTellsWrongFalsely : Prop := casingTellsRow.holds Try.pinned (OpenSpec.ofChange casingTellsWrong)

/-- 'gimletlaw17.CasingNames': WHATEVER THE INPUT: true; the input reads as it did. -/
def casingNamesSpec : ChangeSpec := { name := "casingNames", fn := fun _ => fun
  | [d1, d2] => { results := [.lit (.bool true)], args := [d1, d2] }
  | _ => none }
def casingNamesRow : OpenClaim := { program := "ytnjeicaikcnpdaa", sum := "7ba73a79e02ed54901738d59cb99a3399a520e58fdf91c92ec3b0b152ad0fedc", func := "gimlet/gimletlaw17.CasingNames", spec := "casingNames", inPlace := ["internal/abi.NoEscape"], apart := false }
def CasingNamesSaid : Prop := casingNamesRow.holds Try.pinned (OpenSpec.ofChange casingNamesSpec)

/-- ITS FALSE NEIGHBOUR: 'it returns false'. Refute it at one input. -/
def casingNamesWrong : ChangeSpec := { name := "casingNames", fn := fun _ => fun
  | [d1, d2] => { results := [.lit (.bool false)], args := [d1, d2] }
  | _ => none }
def CasingNamesWrongFalsely : Prop := casingNamesRow.holds Try.pinned (OpenSpec.ofChange casingNamesWrong)

/-- 'gimletlaw17.CasingLetters': WHATEVER THE INPUT: true; the input reads as it did. -/
def casingLettersSpec : ChangeSpec := { name := "casingLetters", fn := fun _ => fun
  | [d] => { results := [.lit (.bool true)], args := [d] }
  | _ => none }
def casingLettersRow : OpenClaim := { program := "ytnjeicaikcnpdaa", sum := "7ba73a79e02ed54901738d59cb99a3399a520e58fdf91c92ec3b0b152ad0fedc", func := "gimlet/gimletlaw17.CasingLetters", spec := "casingLetters", inPlace := ["internal/abi.NoEscape"], apart := false }
def CasingLettersSaid : Prop := casingLettersRow.holds Try.pinned (OpenSpec.ofChange casingLettersSpec)

/-- ITS FALSE NEIGHBOUR: 'it returns false'. Refute it at one input. -/
def casingLettersWrong : ChangeSpec := { name := "casingLetters", fn := fun _ => fun
  | [d] => { results := [.lit (.bool false)], args := [d] }
  | _ => none }
def CasingLettersWrongFalsely : Prop := casingLettersRow.holds Try.pinned (OpenSpec.ofChange casingLettersWrong)

/-- 'gimletlaw17.CasingWords': WHATEVER THE INPUT: true; the input reads as it did. -/
def casingWordsSpec : ChangeSpec := { name := "casingWords", fn := fun _ => fun
  | [d] => { results := [.lit (.bool true)], args := [d] }
  | _ => none }
def casingWordsRow : OpenClaim := { program := "ytnjeicaikcnpdaa", sum := "7ba73a79e02ed54901738d59cb99a3399a520e58fdf91c92ec3b0b152ad0fedc", func := "gimlet/gimletlaw17.CasingWords", spec := "casingWords", inPlace := ["internal/abi.NoEscape"], apart := false }
def CasingWordsSaid : Prop := casingWordsRow.holds Try.pinned (OpenSpec.ofChange casingWordsSpec)

/-- ITS FALSE NEIGHBOUR: 'it returns false'. Refute it at one input. -/
def casingWordsWrong : ChangeSpec := { name := "casingWords", fn := fun _ => fun
  | [d] => { results := [.lit (.bool false)], args := [d] }
  | _ => none }
def CasingWordsWrongFalsely : Prop := casingWordsRow.holds Try.pinned (OpenSpec.ofChange casingWordsWrong)

/-- 'gimletlaw17.CasingJoin': WHATEVER THE INPUT: true; the input reads as it did. -/
def casingJoinSpec : ChangeSpec := { name := "casingJoin", fn := fun _ => fun
  | [d1, d2, d3] => { results := [.lit (.bool true)], args := [d1, d2, d3] }
  | _ => none }
def casingJoinRow : OpenClaim := { program := "ytnjeicaikcnpdaa", sum := "7ba73a79e02ed54901738d59cb99a3399a520e58fdf91c92ec3b0b152ad0fedc", func := "gimlet/gimletlaw17.CasingJoin", spec := "casingJoin", inPlace := ["internal/abi.NoEscape"], apart := false }
def CasingJoinSaid : Prop := casingJoinRow.holds Try.pinned (OpenSpec.ofChange casingJoinSpec)

/-- ITS FALSE NEIGHBOUR: 'it returns false'. Refute it at one input. -/
def casingJoinWrong : ChangeSpec := { name := "casingJoin", fn := fun _ => fun
  | [d1, d2, d3] => { results := [.lit (.bool false)], args := [d1, d2, d3] }
  | _ => none }
def CasingJoinWrongFalsely : Prop := casingJoinRow.holds Try.pinned (OpenSpec.ofChange casingJoinWrong)

/- THE SECOND FORM. 'bulk': how many values and letters a reading holds, each counted each time it is reached (what is shared counts as often as it is met; a slice's spare places count too). A statement '..UptoSaid' is the law's where the arguments, and the package variables that the reading takes, are together of bulk at most 1048576: NARROWER than '..Said'. Prove '..Said' where nothing that the law and all that it calls make is longer than what came in: it says more and counts as full. Else prove '..UptoSaid'. A law counts once. -/
mutual
def uptoBulk {H : Type} : DataW H → Nat
  | .lit (.string bytes) => bytes.length + 1
  | .lit _ => 1
  | .nil => 1
  | .ptr d => uptoBulk d + 1
  | .slice elems spare => uptoBulkAll elems + uptoBulkAll spare + 1
  | .agg parts => uptoBulkAll parts + 1
  | .iface _ d => uptoBulk d + 1
  | .map entries => uptoBulkEntries entries + 1
  | .held _ => 1
def uptoBulkAll {H : Type} : List (DataW H) → Nat
  | [] => 0
  | d :: r => uptoBulk d + uptoBulkAll r
def uptoBulkEntries {H : Type} : List (Lit × DataW H) → Nat
  | [] => 0
  | x :: r => uptoBulkEntry x + uptoBulkEntries r
def uptoBulkEntry {H : Type} : Lit × DataW H → Nat
  | (.string bytes, d) => bytes.length + uptoBulk d + 1
  | (_, d) => uptoBulk d + 1
 end
def uptoSmall : (H : Type) → List (DataW H) → Bool := fun _ ds => decide (uptoBulkAll ds ≤ 1048576)
def OpenSpec.upto (s : _root_.Go.ChangeSpec) : _root_.Go.OpenSpec := { _root_.Go.OpenSpec.ofChange s with cond := some uptoSmall }

/-- 'gimletlaw17.CasingTells', WHERE WHAT IT READS IS OF BULK AT MOST 1048576: true; the input reads as it did. -/
def casingTellsUptoRow : OpenClaim := { program := "ytnjeicaikcnpdaa", sum := "7ba73a79e02ed54901738d59cb99a3399a520e58fdf91c92ec3b0b152ad0fedc", func := "gimlet/gimletlaw17.CasingTells", spec := "casingTells", inPlace := ["internal/abi.NoEscape"], apart := false, narrowed := true }
def CasingTellsUptoSaid : Prop := casingTellsUptoRow.holds Try.pinned (OpenSpec.upto casingTellsSpec)

/-- 'gimletlaw17.CasingNames', WHERE WHAT IT READS IS OF BULK AT MOST 1048576: true; the input reads as it did. -/
def casingNamesUptoRow : OpenClaim := { program := "ytnjeicaikcnpdaa", sum := "7ba73a79e02ed54901738d59cb99a3399a520e58fdf91c92ec3b0b152ad0fedc", func := "gimlet/gimletlaw17.CasingNames", spec := "casingNames", inPlace := ["internal/abi.NoEscape"], apart := false, narrowed := true }
def CasingNamesUptoSaid : Prop := casingNamesUptoRow.holds Try.pinned (OpenSpec.upto casingNamesSpec)

/-- 'gimletlaw17.CasingLetters', WHERE WHAT IT READS IS OF BULK AT MOST 1048576: true; the input reads as it did. -/
def casingLettersUptoRow : OpenClaim := { program := "ytnjeicaikcnpdaa", sum := "7ba73a79e02ed54901738d59cb99a3399a520e58fdf91c92ec3b0b152ad0fedc", func := "gimlet/gimletlaw17.CasingLetters", spec := "casingLetters", inPlace := ["internal/abi.NoEscape"], apart := false, narrowed := true }
def CasingLettersUptoSaid : Prop := casingLettersUptoRow.holds Try.pinned (OpenSpec.upto casingLettersSpec)

/-- 'gimletlaw17.CasingWords', WHERE WHAT IT READS IS OF BULK AT MOST 1048576: true; the input reads as it did. -/
def casingWordsUptoRow : OpenClaim := { program := "ytnjeicaikcnpdaa", sum := "7ba73a79e02ed54901738d59cb99a3399a520e58fdf91c92ec3b0b152ad0fedc", func := "gimlet/gimletlaw17.CasingWords", spec := "casingWords", inPlace := ["internal/abi.NoEscape"], apart := false, narrowed := true }
def CasingWordsUptoSaid : Prop := casingWordsUptoRow.holds Try.pinned (OpenSpec.upto casingWordsSpec)

/-- 'gimletlaw17.CasingJoin', WHERE WHAT IT READS IS OF BULK AT MOST 1048576: true; the input reads as it did. -/
def casingJoinUptoRow : OpenClaim := { program := "ytnjeicaikcnpdaa", sum := "7ba73a79e02ed54901738d59cb99a3399a520e58fdf91c92ec3b0b152ad0fedc", func := "gimlet/gimletlaw17.CasingJoin", spec := "casingJoin", inPlace := ["internal/abi.NoEscape"], apart := false, narrowed := true }
def CasingJoinUptoSaid : Prop := casingJoinUptoRow.holds Try.pinned (OpenSpec.upto casingJoinSpec)

end Rows
end Go.Proofs.Ytnjeicaikcnpdaa
