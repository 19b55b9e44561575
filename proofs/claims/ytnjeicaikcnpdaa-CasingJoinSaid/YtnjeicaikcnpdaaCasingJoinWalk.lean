/- The walk of CasingJoin: whatever the texts and the sign, it answers true; nothing that was there has turned. -/
import Derived.Test.YtnjeicaikcnpdaaLow
import Derived.OpenShut
namespace Go.Proofs.Ytnjeicaikcnpdaa.casingJoin
open Go.RowKit
open M

theorem jn_any (p e e' : Bool) (l : List UInt8) : jn false p e l = jn false p e' l := by
  induction l generalizing p e e' with
  | nil => rfl
  | cons c r ih =>
    simp only [jn, Bool.false_and]
    split
    · rfl
    · exact ih _ _ _
theorem jn_app (p e : Bool) (l m : List UInt8) (c : UInt8) (hc : wd c = false) : jn false p e (l ++ c :: m) = jn false p e l ++ jn false false true m := by
  induction l generalizing p e with
  | nil =>
    simp only [List.nil_append, jn, hc]
    exact jn_any _ _ _ _
  | cons d r ih =>
    simp only [List.cons_append, jn]
    split
    · rw [ih]; rfl
    · rw [ih]
theorem turn5 (l : List UInt8) : turn l 5 = jn false false true l := rfl
theorem mid (s t : ByteArray) (c : UInt8) : (s ++ ⟨#[c]⟩ ++ t).data.toList = s.data.toList ++ c :: t.data.toList := by
  rw [ByteArray.data_append, ByteArray.data_append]
  simp
theorem str_app (l m : List UInt8) : (⟨l.toArray⟩ : ByteArray) ++ ⟨m.toArray⟩ = ⟨(l ++ m).toArray⟩ := by
  apply ByteArray.ext
  rw [ByteArray.data_append]
  simp
theorem turn_p (s : ByteArray) (w : World) (hs : s.size ≤ 1048576) :
    Calls Try.prog 9 #[.string s, .int .i64 5] w fun e w' => e = .returned (.tuple #[.string ⟨(jn false false true s.data.toList).toArray⟩, .int .i64 0]) ∧ Below w.heap.size w w' := turn_any s 5 w hs
theorem turn_m (s t : ByteArray) (c : UInt8) (hc : wd c = false) (w : World) (hs : s.size ≤ 100) (ht : t.size ≤ 100) :
    Calls Try.prog 9 #[.string (s ++ ⟨#[c]⟩ ++ t), .int .i64 5] w fun e w' => e = .returned (.tuple #[.string (⟨(jn false false true s.data.toList).toArray⟩ ++ ⟨(jn false false true t.data.toList).toArray⟩), .int .i64 0]) ∧ Below w.heap.size w w' := by
  have h1 : (⟨#[c]⟩ : ByteArray).size = 1 := rfl
  have h := turn_p (s ++ ⟨#[c]⟩ ++ t) w (by rw [ByteArray.size_append, ByteArray.size_append, h1]; omega)
  rw [mid, jn_app _ _ _ _ _ hc] at h
  rw [str_app]
  exact h

theorem sg0 : ((⟨#[45, 95, 32, 46, 47]⟩ : ByteArray).extract 0 5).extract 0 1 = ⟨#[45]⟩ := by
  apply ByteArray.ext
  rw [ByteArray.data_extract, ByteArray.data_extract]
  rfl
theorem sg1 : ((⟨#[45, 95, 32, 46, 47]⟩ : ByteArray).extract 1 5).extract 0 1 = ⟨#[95]⟩ := by
  apply ByteArray.ext
  rw [ByteArray.data_extract, ByteArray.data_extract]
  rfl
theorem sg2 : ((⟨#[45, 95, 32, 46, 47]⟩ : ByteArray).extract 2 5).extract 0 1 = ⟨#[32]⟩ := by
  apply ByteArray.ext
  rw [ByteArray.data_extract, ByteArray.data_extract]
  rfl
theorem sg3 : ((⟨#[45, 95, 32, 46, 47]⟩ : ByteArray).extract 3 5).extract 0 1 = ⟨#[46]⟩ := by
  apply ByteArray.ext
  rw [ByteArray.data_extract, ByteArray.data_extract]
  rfl
theorem sg4 : ((⟨#[45, 95, 32, 46, 47]⟩ : ByteArray).extract 4 5).extract 0 1 = ⟨#[47]⟩ := by
  apply ByteArray.ext
  rw [ByteArray.data_extract, ByteArray.data_extract]
  rfl
theorem walk (a0 : ByteArray) (a1 : ByteArray) (a2 : Int) (w0 : a0.size ≤ maxLen) (w1 : a1.size ≤ maxLen) (_w2 : (Lit.int .i64 a2).wf = true) (w : World) :
    Calls Try.prog 7 #[.string a0, .string a1, .int .i64 a2] w fun e w' => e = .returned (.bool true) ∧ Below w.heap.size w w' := by
  clear _w2
  unfold maxLen at w0 w1
  by_cases hs : 100 < a0.size
  · go_enter Try.func7, Try.ntmps7
    go_wp2_with fail
    refine (awake_any _).mono ?_
    rintro e w1 ⟨rfl, hb1⟩
    go_wp2
    go_ret
    exact ⟨rfl, hb1⟩
  have hs' : decide (100 < (a0.size : Int)) = false := by simp; omega
  by_cases ht : 100 < a1.size
  · go_enter Try.func7, Try.ntmps7
    go_wp2_with fail
    refine (awake_any _).mono ?_
    rintro e w1 ⟨rfl, hb1⟩
    go_wp2
    go_ret
    exact ⟨rfl, hb1⟩
  have ht' : decide (100 < (a1.size : Int)) = false := by simp; omega
  have hl1 := jn_le false false true a0.data.toList
  have hl2 := jn_le false false true a1.data.toList
  have hlen : a0.data.toList.length = a0.size := by simp
  have hlen1 : a1.data.toList.length = a1.size := by simp
  rw [hlen] at hl1
  rw [hlen1] at hl2
  clear hlen hlen1
  obtain ⟨K, hK, hk0, hk5⟩ : ∃ K : Int, low a2 5 = K ∧ 0 ≤ K ∧ K < 5 := ⟨_, rfl, low_bd a2 5 (by omega)⟩
  have HK := Lib.hid hK
  clear hK
  have h5 : K = 0 ∨ K = 1 ∨ K = 2 ∨ K = 3 ∨ K = 4 := by omega
  rcases h5 with rfl | rfl | rfl | rfl | rfl
  · go_enter Try.func7, Try.ntmps7
    go_wp2_with fail
    refine (low_any _ 5 (by omega) (by omega) _).mono ?_
    rw [HK.out]
    rintro e w1 ⟨rfl, rfl⟩
    go_wp2_with fail
    refine (turn_p _ _ (by omega)).mono ?_
    rintro e w1 ⟨rfl, hb1⟩
    go_wp2_with fail
    refine (turn_p _ _ (by omega)).mono ?_
    rintro e w2 ⟨rfl, hb2⟩
    go_wp2_with fail
    rw [sg0]
    refine (turn_m _ _ 45 (by decide) _ (by omega) (by omega)).mono ?_
    rintro e w3 ⟨rfl, hb3⟩
    go_wp2_with fail
    refine (awake_any _).mono ?_
    rintro e w4 ⟨rfl, hb4⟩
    go_wp2
    go_ret
    exact ⟨rfl, bt (bt (bt hb1 hb2) hb3) hb4⟩
  · go_enter Try.func7, Try.ntmps7
    go_wp2_with fail
    refine (low_any _ 5 (by omega) (by omega) _).mono ?_
    rw [HK.out]
    rintro e w1 ⟨rfl, rfl⟩
    go_wp2_with fail
    refine (turn_p _ _ (by omega)).mono ?_
    rintro e w1 ⟨rfl, hb1⟩
    go_wp2_with fail
    refine (turn_p _ _ (by omega)).mono ?_
    rintro e w2 ⟨rfl, hb2⟩
    go_wp2_with fail
    rw [sg1]
    refine (turn_m _ _ 95 (by decide) _ (by omega) (by omega)).mono ?_
    rintro e w3 ⟨rfl, hb3⟩
    go_wp2_with fail
    refine (awake_any _).mono ?_
    rintro e w4 ⟨rfl, hb4⟩
    go_wp2
    go_ret
    exact ⟨rfl, bt (bt (bt hb1 hb2) hb3) hb4⟩
  · go_enter Try.func7, Try.ntmps7
    go_wp2_with fail
    refine (low_any _ 5 (by omega) (by omega) _).mono ?_
    rw [HK.out]
    rintro e w1 ⟨rfl, rfl⟩
    go_wp2_with fail
    refine (turn_p _ _ (by omega)).mono ?_
    rintro e w1 ⟨rfl, hb1⟩
    go_wp2_with fail
    refine (turn_p _ _ (by omega)).mono ?_
    rintro e w2 ⟨rfl, hb2⟩
    go_wp2_with fail
    rw [sg2]
    refine (turn_m _ _ 32 (by decide) _ (by omega) (by omega)).mono ?_
    rintro e w3 ⟨rfl, hb3⟩
    go_wp2_with fail
    refine (awake_any _).mono ?_
    rintro e w4 ⟨rfl, hb4⟩
    go_wp2
    go_ret
    exact ⟨rfl, bt (bt (bt hb1 hb2) hb3) hb4⟩
  · go_enter Try.func7, Try.ntmps7
    go_wp2_with fail
    refine (low_any _ 5 (by omega) (by omega) _).mono ?_
    rw [HK.out]
    rintro e w1 ⟨rfl, rfl⟩
    go_wp2_with fail
    refine (turn_p _ _ (by omega)).mono ?_
    rintro e w1 ⟨rfl, hb1⟩
    go_wp2_with fail
    refine (turn_p _ _ (by omega)).mono ?_
    rintro e w2 ⟨rfl, hb2⟩
    go_wp2_with fail
    rw [sg3]
    refine (turn_m _ _ 46 (by decide) _ (by omega) (by omega)).mono ?_
    rintro e w3 ⟨rfl, hb3⟩
    go_wp2_with fail
    refine (awake_any _).mono ?_
    rintro e w4 ⟨rfl, hb4⟩
    go_wp2
    go_ret
    exact ⟨rfl, bt (bt (bt hb1 hb2) hb3) hb4⟩
  · go_enter Try.func7, Try.ntmps7
    go_wp2_with fail
    refine (low_any _ 5 (by omega) (by omega) _).mono ?_
    rw [HK.out]
    rintro e w1 ⟨rfl, rfl⟩
    go_wp2_with fail
    refine (turn_p _ _ (by omega)).mono ?_
    rintro e w1 ⟨rfl, hb1⟩
    go_wp2_with fail
    refine (turn_p _ _ (by omega)).mono ?_
    rintro e w2 ⟨rfl, hb2⟩
    go_wp2_with fail
    rw [sg4]
    refine (turn_m _ _ 47 (by decide) _ (by omega) (by omega)).mono ?_
    rintro e w3 ⟨rfl, hb3⟩
    go_wp2_with fail
    refine (awake_any _).mono ?_
    rintro e w4 ⟨rfl, hb4⟩
    go_wp2
    go_ret
    exact ⟨rfl, bt (bt (bt hb1 hb2) hb3) hb4⟩
end Go.Proofs.Ytnjeicaikcnpdaa.casingJoin
