/- The walk of TallyUpto: whatever the text, the way and the number, it answers true; nothing that was there has turned. -/
import Derived.Test.YtpjjokpfengjnaaLawKit
namespace Go.Proofs.Ytpjjokpfengjnaa.tallyUpto
open Go.RowKit Go.Sort
open M

theorem walk (a0 : ByteArray) (a1 : Int) (a2 : Int) (w0 : a0.size ≤ maxLen) (_w1 : (Lit.int .i64 a1).wf = true) (w2 : (Lit.int .i64 a2).wf = true) (w : World) :
    Calls Try.prog 6 #[.string a0, .int .i64 a1, .int .i64 a2] w fun e w' => e = .returned (.bool true) ∧ Below w.heap.size w w' := by
  unfold maxLen at w0
  have hn : a2 ≤ 9223372036854775807 := (Go.bounds_i64 w2).2
  clear w2
  by_cases hs : 200 < a0.size
  · go_enter Try.func6, Try.ntmps6
    go_wp2_with fail
    refine (awake_any _).mono ?_
    rintro e w1 ⟨rfl, hb1⟩
    go_wp2
    go_ret
    exact ⟨rfl, hb1⟩
  · have h' : decide (200 < (a0.size : Int)) = false := by simp; omega
    go_enter Try.func6, Try.ntmps6
    go_wp2_with fail
    refine (upto_any _ _ _ _ (by omega) hn).mono ?_
    rintro e w1 ⟨rfl, hb1⟩
    go_wp2_with fail
    refine (rupto_any _ _ _ _ (by omega)).mono ?_
    rintro e w2 ⟨rfl, hb2⟩
    go_wp2_with fail
    refine (awake_any _).mono ?_
    rintro e w3 ⟨rfl, hb3⟩
    go_wp2
    go_ret
    exact ⟨rfl, bt (bt hb1 hb2) hb3⟩
end Go.Proofs.Ytpjjokpfengjnaa.tallyUpto
