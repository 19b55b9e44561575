/- The walk of TallyCut: whatever the text and the place, it answers true; nothing that was there has turned. -/
import Derived.Test.YtpjjokpfengjnaaLawKit
namespace Go.Proofs.Ytpjjokpfengjnaa.tallyCut
open Go.RowKit Go.Sort
open M

theorem cut_tot (f : Int → Int) (l : List UInt8) (k : Nat) : tot f (l.take k) + tot f (l.drop k) = tot f l := by
  rw [← tot_append, List.take_append_drop]

theorem walk (a0 : ByteArray) (a1 : Int) (w0 : a0.size ≤ maxLen) (_w1 : (Lit.int .i64 a1).wf = true) (w : World) :
    Calls Try.prog 4 #[.string a0, .int .i64 a1] w fun e w' => e = .returned (.bool true) ∧ Below w.heap.size w w' := by
  unfold maxLen at w0
  by_cases hs : 200 < a0.size
  · go_enter Try.func4, Try.ntmps4
    go_wp2_with fail
    refine (awake_any _).mono ?_
    rintro e w1 ⟨rfl, hb1⟩
    go_wp2
    go_ret
    exact ⟨rfl, hb1⟩
  have h' : decide (200 < (a0.size : Int)) = false := by simp; omega
  obtain ⟨K, hK, hk⟩ : ∃ K : Nat, low a1 ((a0.size : Int) + 1) = K ∧ K ≤ a0.size := by
    have h := low_bd a1 ((a0.size : Int) + 1) (by omega)
    exact ⟨(low a1 ((a0.size : Int) + 1)).toNat, by omega, by omega⟩
  have HK := Lib.hid hK
  clear hK
  have b0 := tot_bd one one_bd a0.data.toList
  have b1 := tot_bd wK wK_bd a0.data.toList
  have b2 := tot_bd wR wR_bd a0.data.toList
  have b3 := tot_bd wU wU_bd a0.data.toList
  have hlen : a0.data.toList.length = a0.size := by simp
  rw [hlen] at b0 b1 b2 b3
  have cA := awake_q w
  have cO : ∀ d os, Calls Try.prog 12 #[.string a0] (grow (redrawn w d) os) fun e w'' => e = .returned (.agg #[.int .i64 (tot one a0.data.toList), .int .i64 (tot wK a0.data.toList), .int .i64 (tot wR a0.data.toList), .int .i64 (tot wU a0.data.toList)]) ∧ ∃ p : Regrown, w'' = grow (redrawn w p.d) p.os :=
    fun d os => Calls.regrown_of (of_any _ _ (by omega))
  have cF : ∀ d os, Calls Try.prog 12 #[.string (a0.extract 0 K)] (grow (redrawn w d) os) fun e w'' => e = .returned (.agg #[.int .i64 (tot one (a0.data.toList.take K)), .int .i64 (tot wK (a0.data.toList.take K)), .int .i64 (tot wR (a0.data.toList.take K)), .int .i64 (tot wU (a0.data.toList.take K))]) ∧ ∃ p : Regrown, w'' = grow (redrawn w p.d) p.os :=
    fun d os => Calls.regrown_of (of_front _ _ (by omega) _)
  have cK : ∀ d os, Calls Try.prog 12 #[.string (a0.extract K a0.size)] (grow (redrawn w d) os) fun e w'' => e = .returned (.agg #[.int .i64 (tot one (a0.data.toList.drop K)), .int .i64 (tot wK (a0.data.toList.drop K)), .int .i64 (tot wR (a0.data.toList.drop K)), .int .i64 (tot wU (a0.data.toList.drop K))]) ∧ ∃ p : Regrown, w'' = grow (redrawn w p.d) p.os :=
    fun d os => Calls.regrown_of (of_back _ _ (by omega) _)
  have cP : ∀ d os, Calls Try.prog 15 #[.agg #[.int .i64 (tot one (a0.data.toList.take K)), .int .i64 (tot wK (a0.data.toList.take K)), .int .i64 (tot wR (a0.data.toList.take K)), .int .i64 (tot wU (a0.data.toList.take K))],
      .agg #[.int .i64 (tot one (a0.data.toList.drop K)), .int .i64 (tot wK (a0.data.toList.drop K)), .int .i64 (tot wR (a0.data.toList.drop K)), .int .i64 (tot wU (a0.data.toList.drop K))]] (grow (redrawn w d) os) fun e w'' =>
      e = .returned (.agg #[.int .i64 (tot one a0.data.toList), .int .i64 (tot wK a0.data.toList), .int .i64 (tot wR a0.data.toList), .int .i64 (tot wU a0.data.toList)]) ∧ ∃ p : Regrown, w'' = grow (redrawn w p.d) p.os := fun d os => by
    have e0 := cut_tot one a0.data.toList K
    have e1 := cut_tot wK a0.data.toList K
    have e2 := cut_tot wR a0.data.toList K
    have e3 := cut_tot wU a0.data.toList K
    have h := plus_any (tot one (a0.data.toList.take K)) (tot wK (a0.data.toList.take K)) (tot wR (a0.data.toList.take K)) (tot wU (a0.data.toList.take K)) (tot one (a0.data.toList.drop K)) (tot wK (a0.data.toList.drop K)) (tot wR (a0.data.toList.drop K)) (tot wU (a0.data.toList.drop K)) (grow (redrawn w d) os)
      (by omega) (by omega) (by omega) (by omega) (by omega) (by omega) (by omega) (by omega)
    rw [e0, e1, e2, e3] at h
    exact Calls.regrown_of h
  have cZ : ∀ d os, Calls Try.prog 15 #[.agg #[.int .i64 (tot one a0.data.toList), .int .i64 (tot wK a0.data.toList), .int .i64 (tot wR a0.data.toList), .int .i64 (tot wU a0.data.toList)], .agg #[.int .i64 0, .int .i64 0, .int .i64 0, .int .i64 0]] (grow (redrawn w d) os) fun e w'' =>
      e = .returned (.agg #[.int .i64 (tot one a0.data.toList), .int .i64 (tot wK a0.data.toList), .int .i64 (tot wR a0.data.toList), .int .i64 (tot wU a0.data.toList)]) ∧ ∃ p : Regrown, w'' = grow (redrawn w p.d) p.os := fun d os => by
    have h := plus_any (tot one a0.data.toList) (tot wK a0.data.toList) (tot wR a0.data.toList) (tot wU a0.data.toList) 0 0 0 0 (grow (redrawn w d) os)
      (by omega) (by omega) (by omega) (by omega) (by omega) (by omega) (by omega) (by omega)
    rw [Int.add_zero, Int.add_zero, Int.add_zero, Int.add_zero] at h
    exact Calls.regrown_of h
  clear hlen
  go_enter Try.func4, Try.ntmps4
  go_wp2_with fail
  refine (low_any _ _ (by omega) (by omega) _).mono ?_
  rw [HK.out]
  rintro e w1 ⟨rfl, rfl⟩
  go_wp2_with fail
  refine wp_region_quiet_below (by kernel_rfl) (by kernel_rfl) ?_
  repeat (quiet_step (first | (with_reducible exact cA _ _) | (with_reducible exact cO _ _) | (with_reducible exact cF _ _) | (with_reducible exact cK _ _) | (with_reducible exact cP _ _) | (with_reducible exact cZ _ _)))
  refine wpQuiet_nil ?_
  intro _ hw'
  obtain ⟨⟨dq, osq⟩, hw''⟩ := hw'
  subst hw''
  go_wp2
  go_ret
  exact ⟨rfl, below_regrown w dq osq⟩
end Go.Proofs.Ytpjjokpfengjnaa.tallyCut
