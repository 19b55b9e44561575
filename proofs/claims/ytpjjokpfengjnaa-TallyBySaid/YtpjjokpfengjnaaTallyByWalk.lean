/- The walk of TallyBy: whatever the numbers and the way, it answers true; nothing that was there has turned. -/
import Derived.Test.YtpjjokpfengjnaaLawKit
namespace Go.Proofs.Ytpjjokpfengjnaa.tallyBy
open Go.RowKit Go.Sort
open M

theorem walk (a0 : Int) (a1 : Int) (a2 : Int) (a3 : Int) (a4 : Int) (_w0 : (Lit.int .i64 a0).wf = true) (_w1 : (Lit.int .i64 a1).wf = true) (_w2 : (Lit.int .i64 a2).wf = true) (_w3 : (Lit.int .i64 a3).wf = true) (_w4 : (Lit.int .i64 a4).wf = true) (w : World) :
    Calls Try.prog 5 #[.int .i64 a0, .int .i64 a1, .int .i64 a2, .int .i64 a3, .int .i64 a4] w fun e w' => e = .returned (.bool true) ∧ Below w.heap.size w w' := by
  clear _w0 _w1 _w2 _w3 _w4
  go_enter Try.func5, Try.ntmps5
  go_wp2
  have hB := two_new w (.cells #[.int .i64 a0, .int .i64 a1, .int .i64 a2, .int .i64 a3] 24) (.cells #[.int .i64 a0, .int .i64 a1, .int .i64 a2, .int .i64 a3] 26)
  have hc := (Tly.new w 24 a0 a1 a2 a3).alloc (.cells #[.int .i64 a0, .int .i64 a1, .int .i64 a2, .int .i64 a3] 26)
  have hd := Tly.new (w.alloc (.cells #[.int .i64 a0, .int .i64 a1, .int .i64 a2, .int .i64 a3] 24)) 26 a0 a1 a2 a3
  rw [World.size_alloc] at hd
  generalize (w.alloc (.cells #[.int .i64 a0, .int .i64 a1, .int .i64 a2, .int .i64 a3] 24)).alloc (.cells #[.int .i64 a0, .int .i64 a1, .int .i64 a2, .int .i64 a3] 26) = W at *
  have cA := awake_q W
  have cB : ∀ x d os, Calls Try.prog 16 #[.agg #[.int .i64 a0, .int .i64 a1, .int .i64 a2, .int .i64 a3], .int .i64 x] (grow (redrawn W d) os) fun e w'' => e = .returned (.int .i64 (byF a0 a1 a2 a3 x)) ∧ ∃ p : Regrown, w'' = grow (redrawn W p.d) p.os := fun x d os => Calls.regrown_of (by_any _ _ _ _ _ _)
  have cR : ∀ x d os, Calls Try.prog 17 #[.agg #[.int .i64 a0, .int .i64 a1, .int .i64 a2, .int .i64 a3], .int .i64 x] (grow (redrawn W d) os) fun e w'' => e = .returned (.int .i64 (byF a0 a1 a2 a3 x)) ∧ ∃ p : Regrown, w'' = grow (redrawn W p.d) p.os := fun x d os => Calls.regrown_of (rby_any _ _ _ _ _ _)
  have cB0 : ∀ d os, Calls Try.prog 16 #[.agg #[.int .i64 a0, .int .i64 a1, .int .i64 a2, .int .i64 a3], .int .i64 0] (grow (redrawn W d) os) fun e w'' => e = .returned (.int .i64 a0) ∧ ∃ p : Regrown, w'' = grow (redrawn W p.d) p.os := cB 0
  have cB3 : ∀ d os, Calls Try.prog 16 #[.agg #[.int .i64 a0, .int .i64 a1, .int .i64 a2, .int .i64 a3], .int .i64 3] (grow (redrawn W d) os) fun e w'' => e = .returned (.int .i64 a1) ∧ ∃ p : Regrown, w'' = grow (redrawn W p.d) p.os := cB 3
  obtain ⟨c0, c1, c2, c3⟩ := hc.cell
  obtain ⟨d0, d1, d2, d3⟩ := hd.cell
  have k0 := cell_regrown c0
  have k1 := cell_regrown c1
  have k2 := cell_regrown c2
  have k3 := cell_regrown c3
  have l0 := cell_regrown d0
  have l1 := cell_regrown d1
  have l2 := cell_regrown d2
  have l3 := cell_regrown d3
  refine wp_region_quiet_below (by kernel_rfl) (by kernel_rfl) ?_
  repeat (quiet_step (first | (with_reducible exact cA _ _) | (with_reducible exact cB0 _ _) | (with_reducible exact cB3 _ _) | (with_reducible exact cB a4 _ _) | (with_reducible exact cR a4 _ _)))
  refine wpQuiet_nil ?_
  intro _ hw'
  obtain ⟨⟨dq, osq⟩, hw''⟩ := hw'
  subst hw''
  go_wp2
  go_ret
  exact ⟨rfl, bt hB (below_regrown W dq osq)⟩
end Go.Proofs.Ytpjjokpfengjnaa.tallyBy
