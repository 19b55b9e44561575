/- The walk of TallyTells: whatever the text, it answers true; nothing that was there has turned. -/
import Derived.Test.YtpjjokpfengjnaaAwake
import Derived.Test.YtpjjokpfengjnaaRupto
namespace Go.Proofs.Ytpjjokpfengjnaa.tallyTells
open Go.RowKit Go.Sort
open M

theorem walk (a0 : ByteArray) (w0 : a0.size ≤ maxLen) (w : World) :
    Calls Try.prog 3 #[.string a0] w fun e w' => e = .returned (.bool true) ∧ Below w.heap.size w w' := by
  unfold maxLen at w0
  by_cases hs : 300 < a0.size
  · go_enter Try.func3, Try.ntmps3
    go_wp2_with fail
    refine (awake_any _).mono ?_
    rintro e w1 ⟨rfl, hb1⟩
    go_wp2
    go_ret
    exact ⟨rfl, hb1⟩
  · have h' : decide (300 < (a0.size : Int)) = false := by simp; omega
    go_enter Try.func3, Try.ntmps3
    go_wp2_with fail
    refine (of_any _ _ (by omega)).mono ?_
    rintro e w1 ⟨rfl, hb1⟩
    go_wp2_with fail
    refine (rof_any _ _ (by omega)).mono ?_
    rintro e w2 ⟨rfl, hb2⟩
    go_wp2_with fail
    refine (awake_any _).mono ?_
    rintro e w3 ⟨rfl, hb3⟩
    go_wp2
    go_ret
    exact ⟨rfl, bt (ba (ba (bt hb1 hb2) _) _) hb3⟩
end Go.Proofs.Ytpjjokpfengjnaa.tallyTells
