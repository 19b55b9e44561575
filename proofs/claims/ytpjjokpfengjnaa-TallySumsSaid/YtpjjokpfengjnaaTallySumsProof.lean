/-
  The statement Rows.TallySumsSaid ('gimlet/gimletlaw2.TallySums'): for every input the call returns true and each argument reads as it did. No condition. The frame is the guide's template, turned to two arrays by value; the walk is in TallySumsWalk.
-/
import Derived.Test.YtpjjokpfengjnaaRows
import Derived.Test.YtpjjokpfengjnaaTallySumsWalk
import Derived.WalkKit
import Derived.ProofKit
import Derived.OpenShut
import Derived.Below
import Derived.Laws.IdiomArrays
namespace Go.Proofs.Ytpjjokpfengjnaa.tallySums
open Go.ChangeShapes Go.WideShapes Go.ChangeAt Go.RowKit
set_option linter.unusedVariables false

theorem own : ownKnob Try.prog.godebug = none := by kernel_rfl
theorem laidOut : laidOutB Try.prog = true := by kernel_rfl
theorem cells3 : Try.prog.cellsOf 3 = 1 := by kernel_rfl
theorem cells42 : Try.prog.cellsOf 42 = 4 := by kernel_rfl
theorem list4 {α : Type} (l : List α) (h : (⟨l⟩ : Array α).size = 4) : ∃ a b c d, l = [a, b, c, d] := by
  match l, h with
  | [a, b, c, d], _ => exact ⟨a, b, c, d, rfl⟩
/-- An array of four numbers, opened. -/
theorem open_four {H : Type} {enc : TypeId × Value → H} {W : World} {base base' : Nat} {sp : Nat → Bool} {held : Bool} {v : Value} {d : DataW H} {p : List MemPlace} {r : Reach}
    (hv : Value.okWide Try.prog W r base 42 v) (h : DataW.Trod enc Try.prog W base' sp held 42 v d p) :
    ∃ x0 x1 x2 x3 : Int, v = .agg #[.int .i64 x0, .int .i64 x1, .int .i64 x2, .int .i64 x3] ∧ p = [] ∧
      ∀ (W' : World) (sp' : Nat → Bool), DataW.Trod enc Try.prog W' base' sp' held 42 (.agg #[.int .i64 x0, .int .i64 x1, .int .i64 x2, .int .i64 x3]) d [] := by
  obtain ⟨cs, rfl, hsz, _⟩ : ∃ cs, v = .agg cs ∧ cs.size = Try.prog.cellsOf 42 ∧ Row.okWide Try.prog W r base 42 cs := by
    have := hv
    simpa [Value.okWide, Try.underlying42] using this
  rw [cells42] at hsz
  obtain ⟨l⟩ := cs
  obtain ⟨c0, c1, c2, c3, rfl⟩ := list4 l hsz
  obtain ⟨fuel, hf⟩ := h
  obtain ⟨y0, y1, y2, y3, m, hx, hy0, hy1, hy2, hy3⟩ := trod_array4 Try.underlying42 cells3 hf
  obtain ⟨x0, e0, rfl, w0⟩ := DataW.trod_int Try.underlying3 hy0
  obtain ⟨x1, e1, rfl, w1⟩ := DataW.trod_int Try.underlying3 hy1
  obtain ⟨x2, e2, rfl, w2⟩ := DataW.trod_int Try.underlying3 hy2
  obtain ⟨x3, e3, rfl, w3⟩ := DataW.trod_int Try.underlying3 hy3
  simp at e0 e1 e2 e3
  subst e0 e1 e2 e3
  simp only [Prod.mk.injEq] at hx
  obtain ⟨rfl, rfl⟩ := hx
  refine ⟨x0, x1, x2, x3, rfl, rfl, fun W' sp' => ⟨2, ?_⟩⟩
  simp [DataW.trod, Value.cells, Try.underlying42, Try.underlying3, cells42, cells3, w0, w1, w2, w3, show List.range 4 = [0, 1, 2, 3] from rfl]

/-! ### THE ROW's STEP -/
set_option maxRecDepth 100000 in
theorem lifted (os : Os) (started : os.Started) (H : Type) (enc : TypeId × Value → H) :
    ReturnsInHanded {} Try.checked os 10 .any (Rows.tallySumsSpec.pre6 enc Try.prog Try.f10 Rows.tallySumsRow.domain false) (Rows.tallySumsSpec.post enc Try.prog Try.f10 false true false false) := by
  refine returnsInHanded_of_change (C := Try.checked) own started (by kernel_rfl) Try.func10
    (ChangeSpec.witness6 (enc := enc) (C := Try.checked) false ⟨#[], #[.agg #[.int .i64 0, .int .i64 0, .int .i64 0, .int .i64 0], .agg #[.int .i64 0, .int .i64 0, .int .i64 0, .int .i64 0]], []⟩ 8 (by kernel_rfl) (by kernel_rfl) (by kernel_rfl) (by kernel_rfl)) ?_
  intro W base args ds gs before hval0 hW hcnd _
  have hval : ∀ (j : Nat) t v, Try.f10.params[j]? = some t → args[j]? = some v → Value.okWide Try.prog W .any base t v := hval0
  have hW' := hW
  obtain ⟨p, q, hA0, hV, rfl, hfz, hnd⟩ := hW
  have hA : DataW.TrodAll enc Try.prog W 0 (fun _ => true) true Try.f10.params.toList args.toList ds p := hA0
  rw [Try.params10] at hA hval
  obtain ⟨v0, vs0, d0, ds0, p0, q0, hargs, rfl, rfl, h0, r0⟩ := trodAll_cons hA
  obtain ⟨v1, vs1, d1, ds1, p1, q1, rfl, rfl, rfl, h1, r1⟩ := trodAll_cons r0
  obtain ⟨rfl, rfl, rfl⟩ := trodAll_nil r1
  obtain rfl : args = #[v0, v1] := by cases args; simp_all
  obtain ⟨rfl, rfl⟩ := trodVars_none hV
  obtain ⟨a0, a1, a2, a3, rfl, rfl, sa⟩ := open_four (hval 0 42 v0 rfl rfl) h0
  obtain ⟨b0, b1, b2, b3, rfl, rfl, sb⟩ := open_four (hval 1 42 v1 rfl rfl) h1
  clear hA0 hval0
  simp only [List.append_nil] at hW'
  refine (walk a0 a1 a2 a3 b0 b1 b2 b3 W).mono fun e W' ⟨he, hg⟩ => ?_
  subst he
  exact ⟨_, rfl, _, _, _, [], _, [], hW', trodAll_mk1 (shut_bool Try.underlying4 _), (trodAll_cons_mk (sa _ _) (trodAll_cons_mk (sb _ _) trodAll_mk0)), rfl, hg.frame _, fun h => by cases h⟩

theorem over : Rows.tallySumsRow.holds Try.pinned (OpenSpec.ofChange Rows.tallySumsSpec) :=
  OpenClaim.holds_of_wide 10 Try.f10 rfl rfl rfl rfl rfl rfl rfl ⟨rfl, rfl, rfl, rfl, rfl⟩ rfl rfl rfl rfl rfl (by kernel_rfl) Try.func10 (by kernel_rfl)
    (of_decide_eq_true (by kernel_rfl)) (by unfold Func.isWrapper; first | (rw [if_pos (by decide +kernel)]; kernel_rfl) | (rw [if_neg (by decide +kernel)]; exact ⟨rfl, rfl⟩))
    (fun os started H enc _ => lifted os started H enc)

/-- The statement. -/
theorem proved : Rows.TallySumsSaid := over
end Go.Proofs.Ytpjjokpfengjnaa.tallySums
