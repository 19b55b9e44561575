/- The walk of TallyOn: whatever the texts, the way and the number, it answers true; nothing that was there has turned. -/
import Derived.Test.YtpjjokpfengjnaaLawKit
namespace Go.Proofs.Ytpjjokpfengjnaa.tallyOn
open Go.RowKit Go.Sort
open M

theorem walk (a0 : ByteArray) (a1 : ByteArray) (a2 : Int) (a3 : Int) (w0 : a0.size ≤ maxLen) (w1 : a1.size ≤ maxLen) (_w2 : (Lit.int .i64 a2).wf = true) (w3 : (Lit.int .i64 a3).wf = true) (w : World) :
    Calls Try.prog 8 #[.string a0, .string a1, .int .i64 a2, .int .i64 a3] w fun e w' => e = .returned (.bool true) ∧ Below w.heap.size w w' := by
  unfold maxLen at w0 w1
  have hn : a3 ≤ 9223372036854775807 := (Go.bounds_i64 w3).2
  clear w3
  by_cases hs : 100 < a0.size
  · go_enter Try.func8, Try.ntmps8
    go_wp2_with fail
    refine (awake_any _).mono ?_
    rintro e w1 ⟨rfl, hb1⟩
    go_wp2
    go_ret
    exact ⟨rfl, hb1⟩
  have h' : decide (100 < (a0.size : Int)) = false := by simp; omega
  by_cases ht : 100 < a1.size
  · go_enter Try.func8, Try.ntmps8
    go_wp2_with fail
    refine (awake_any _).mono ?_
    rintro e w1 ⟨rfl, hb1⟩
    go_wp2
    go_ret
    exact ⟨rfl, hb1⟩
  have ht' : decide (100 < (a1.size : Int)) = false := by simp; omega
  by_cases h0 : a3 < 0
  · go_enter Try.func8, Try.ntmps8
    go_wp2_with fail
    refine (awake_any _).mono ?_
    rintro e w1 ⟨rfl, hb1⟩
    go_wp2
    go_ret
    exact ⟨rfl, hb1⟩
  have h0' : decide (a3 < 0) = false := by simpa using h0
  have hl := low_bd a2 4 (by omega)
  have hf := wBy_bd (low a2 4)
  have hbd := tot_bd (wBy (low a2 4)) hf a0.data.toList
  have hlen : a0.data.toList.length = a0.size := by simp
  have hsz : (a0 ++ a1).size ≤ 1048576 := by rw [ByteArray.size_append]; omega
  by_cases hc : a3 < tot (wBy (low a2 4)) a0.data.toList
  · obtain ⟨e1, e2⟩ := upto_app_lt (wBy (low a2 4)) a0.data.toList a1.data.toList a3 (by omega) hc
    rw [← app_list] at e1
    rw [hlen] at e2
    have E1 := Lib.hid e1
    clear e1 hlen hbd hf
    go_enter Try.func8, Try.ntmps8
    go_wp2_with fail
    refine (low4_any _ _).mono ?_
    rintro e w1 ⟨rfl, rfl⟩
    go_wp2_with fail
    refine (of_any _ _ (by omega)).mono ?_
    rintro e w1 ⟨rfl, hb1⟩
    go_wp2_with fail
    refine (by_tot _ _ _).mono ?_
    rintro e w2 ⟨rfl, hb2⟩
    go_wp2_with fail
    refine (upto_low _ _ _ _ hsz (by omega) hn).mono ?_
    rw [E1.out]
    rintro e w3 ⟨rfl, hb3⟩
    go_wp2_with fail
    refine (upto_low _ _ _ _ (by omega) (by omega) hn).mono ?_
    rintro e w4 ⟨rfl, hb4⟩
    go_wp2_with fail
    refine (awake_any _).mono ?_
    rintro e w5 ⟨rfl, hb5⟩
    go_wp2
    go_ret
    exact ⟨rfl, bt (bt (bt (bt hb1 hb2) hb3) hb4) hb5⟩
  · have e1 := upto_app_ge (wBy (low a2 4)) hf a0.data.toList a1.data.toList a3 (by omega)
    rw [← app_list, hlen] at e1
    have E1 := Lib.hid e1
    have k1 := upto_le (wBy (low a2 4)) a1.data.toList (a3 - tot (wBy (low a2 4)) a0.data.toList)
    have hlen1 : a1.data.toList.length = a1.size := by simp
    rw [hlen1] at k1
    have hc' : decide (a3 < tot (wBy (low a2 4)) a0.data.toList) = false := by simpa using hc
    have hc2 : 0 ≤ a3 - tot (wBy (low a2 4)) a0.data.toList := by omega
    rw [hlen] at hbd
    clear e1 hlen hf hc hlen1
    go_enter Try.func8, Try.ntmps8
    go_wp2_with fail
    refine (low4_any _ _).mono ?_
    rintro e w1 ⟨rfl, rfl⟩
    go_wp2_with fail
    refine (of_any _ _ (by omega)).mono ?_
    rintro e w1 ⟨rfl, hb1⟩
    go_wp2_with fail
    refine (by_tot _ _ _).mono ?_
    rintro e w2 ⟨rfl, hb2⟩
    go_wp2_with fail
    refine (upto_low _ _ _ _ hsz (by omega) hn).mono ?_
    rw [E1.out]
    rintro e w3 ⟨rfl, hb3⟩
    go_wp2_with fail
    refine (upto_low _ _ _ _ (by omega) hc2 (by omega)).mono ?_
    rintro e w4 ⟨rfl, hb4⟩
    go_wp2_with fail
    refine (awake_any _).mono ?_
    rintro e w5 ⟨rfl, hb5⟩
    go_wp2
    go_ret
    exact ⟨rfl, bt (bt (bt (bt hb1 hb2) hb3) hb4) hb5⟩
end Go.Proofs.Ytpjjokpfengjnaa.tallyOn
