/- The walk of TallyMost: whatever the text, the way and the number, it answers true; nothing that was there has turned. -/
import Derived.Test.YtpjjokpfengjnaaLawKit
namespace Go.Proofs.Ytpjjokpfengjnaa.tallyMost
open Go.RowKit Go.Sort
open M

theorem walk (a0 : ByteArray) (a1 : Int) (a2 : Int) (w0 : a0.size ≤ maxLen) (_w1 : (Lit.int .i64 a1).wf = true) (w2 : (Lit.int .i64 a2).wf = true) (w : World) :
    Calls Try.prog 7 #[.string a0, .int .i64 a1, .int .i64 a2] w fun e w' => e = .returned (.bool true) ∧ Below w.heap.size w w' := by
  unfold maxLen at w0
  have hn : a2 ≤ 9223372036854775807 := (Go.bounds_i64 w2).2
  clear w2
  by_cases hs : 200 < a0.size
  · go_enter Try.func7, Try.ntmps7
    go_wp2_with fail
    refine (awake_any _).mono ?_
    rintro e w1 ⟨rfl, hb1⟩
    go_wp2
    go_ret
    exact ⟨rfl, hb1⟩
  have h' : decide (200 < (a0.size : Int)) = false := by simp; omega
  by_cases h0 : a2 < 0
  · go_enter Try.func7, Try.ntmps7
    go_wp2_with fail
    refine (awake_any _).mono ?_
    rintro e w1 ⟨rfl, hb1⟩
    go_wp2
    go_ret
    exact ⟨rfl, hb1⟩
  have h0' : decide (a2 < 0) = false := by simpa using h0
  have hl := low_bd a1 4 (by omega)
  have k1 := upto_le (wBy (low a1 4)) a0.data.toList a2
  have k2 := upto_tot (wBy (low a1 4)) a0.data.toList a2 (by omega)
  have k3 := upto_more (wBy (low a1 4)) a0.data.toList a2
  have hlen : a0.data.toList.length = a0.size := by simp
  rw [hlen] at k1 k3
  clear hlen
  generalize hK : upto (wBy (low a1 4)) a0.data.toList a2 = K at *
  have HK := Lib.hid hK
  clear hK
  have e2 : decide (a2 < tot (wBy (low a1 4)) (a0.data.toList.take K)) = false := by simp; omega
  clear k2
  by_cases hk : K = a0.size
  · subst hk
    rw [List.take_of_length_le (by simp)] at e2
    clear k1 k3
    go_enter Try.func7, Try.ntmps7
    go_wp2_with fail
    refine (low4_any _ _).mono ?_
    rintro e w1 ⟨rfl, rfl⟩
    go_wp2_with fail
    refine (upto_low _ _ _ _ (by omega) (by omega) hn).mono ?_
    rw [HK.out]
    rintro e w1 ⟨rfl, hb1⟩
    go_wp2_with fail
    refine (of_any _ _ (by omega)).mono ?_
    rintro e w2 ⟨rfl, hb2⟩
    go_wp2_with fail
    refine (by_tot _ _ _).mono ?_
    rintro e w3 ⟨rfl, hb3⟩
    go_wp2_with fail
    refine (awake_any _).mono ?_
    rintro e w4 ⟨rfl, hb4⟩
    go_wp2
    go_ret
    exact ⟨rfl, bt (bt (bt hb1 hb2) hb3) hb4⟩
  · have hlt : K < a0.size := by omega
    have e3 : a2 < tot (wBy (low a1 4)) (a0.data.toList.take (K + 1)) := k3 hlt
    have hne : ((K : Int) == (a0.size : Int)) = false := by simp only [beq_eq_false_iff_ne]; omega
    clear k1 k3 hk
    go_enter Try.func7, Try.ntmps7
    go_wp2_with fail
    refine (low4_any _ _).mono ?_
    rintro e w1 ⟨rfl, rfl⟩
    go_wp2_with fail
    refine (upto_low _ _ _ _ (by omega) (by omega) hn).mono ?_
    rw [HK.out]
    rintro e w1 ⟨rfl, hb1⟩
    go_wp2_with fail
    refine (of_front _ K (by omega) _).mono ?_
    rintro e w2 ⟨rfl, hb2⟩
    go_wp2_with fail
    refine (by_tot _ _ _).mono ?_
    rintro e w3 ⟨rfl, hb3⟩
    go_wp2_with fail
    refine (of_front _ (K + 1) (by omega) _).mono ?_
    rintro e w4 ⟨rfl, hb4⟩
    go_wp2_with fail
    refine (by_tot _ _ _).mono ?_
    rintro e w5 ⟨rfl, hb5⟩
    go_wp2_with fail
    refine (awake_any _).mono ?_
    rintro e w6 ⟨rfl, hb6⟩
    go_wp2
    go_ret
    exact ⟨rfl, bt (bt (bt (bt (bt hb1 hb2) hb3) hb4) hb5) hb6⟩
end Go.Proofs.Ytpjjokpfengjnaa.tallyMost
