/- The contracts of the small functions on bytes, the program's and the reference's. -/
import Derived.Test.YtnjeicaikcnpdaaBuild
import Derived.Test.YtnjeicaikcnpdaaMath
namespace Go.Proofs.Ytnjeicaikcnpdaa
open Go.RowKit
open M

theorem upper_any (c : UInt8) (w : World) : Calls Try.prog 16 #[.int .u8 (c.toNat : Int)] w fun e w' => e = .returned (.int .u8 ((up c).toNat : Int)) ∧ w = w' := by
  have hb := c.toNat_lt
  by_cases a : 97 ≤ c.toNat
  · by_cases b : c.toNat ≤ 122
    · have e1 : ((up c).toNat : Int) = (c.toNat : Int) - 32 := by rw [up_nat c ⟨a, b⟩]; omega
      rw [e1]
      clear e1
      generalize c.toNat = n at *
      go_enter Try.func16, Try.ntmps16
      go_wp2
      go_ret
      exact ⟨rfl, rfl⟩
    · rw [up_same c (by omega)]
      have b' : decide ((c.toNat : Int) ≤ 122) = false := by simp; omega
      clear b
      generalize c.toNat = n at *
      go_enter Try.func16, Try.ntmps16
      go_wp2
      go_ret
      exact ⟨rfl, rfl⟩
  · rw [up_same c (by omega)]
    have a' : decide ((97 : Int) ≤ (c.toNat : Int)) = false := by simp; omega
    clear a
    generalize c.toNat = n at *
    go_enter Try.func16, Try.ntmps16
    go_wp2
    go_ret
    exact ⟨rfl, rfl⟩
theorem lower_any (c : UInt8) (w : World) : Calls Try.prog 17 #[.int .u8 (c.toNat : Int)] w fun e w' => e = .returned (.int .u8 ((dn c).toNat : Int)) ∧ w = w' := by
  have hb := c.toNat_lt
  by_cases a : 65 ≤ c.toNat
  · by_cases b : c.toNat ≤ 90
    · have e1 : ((dn c).toNat : Int) = (c.toNat : Int) + 32 := by rw [dn_nat c ⟨a, b⟩]; omega
      rw [e1]
      clear e1
      generalize c.toNat = n at *
      go_enter Try.func17, Try.ntmps17
      go_wp2
      go_ret
      exact ⟨rfl, rfl⟩
    · rw [dn_same c (by omega)]
      have b' : decide ((c.toNat : Int) ≤ 90) = false := by simp; omega
      clear b
      generalize c.toNat = n at *
      go_enter Try.func17, Try.ntmps17
      go_wp2
      go_ret
      exact ⟨rfl, rfl⟩
  · rw [dn_same c (by omega)]
    have a' : decide ((65 : Int) ≤ (c.toNat : Int)) = false := by simp; omega
    clear a
    generalize c.toNat = n at *
    go_enter Try.func17, Try.ntmps17
    go_wp2
    go_ret
    exact ⟨rfl, rfl⟩
theorem rup_any (c : UInt8) (w : World) : Calls Try.prog 19 #[.int .u8 (c.toNat : Int)] w fun e w' => e = .returned (.int .u8 ((up c).toNat : Int)) ∧ w = w' := by
  have hb := c.toNat_lt
  by_cases a : 97 ≤ c.toNat
  · by_cases b : c.toNat ≤ 122
    · have e1 : ((up c).toNat : Int) = (c.toNat : Int) - 32 := by rw [up_nat c ⟨a, b⟩]; omega
      rw [e1]
      clear e1
      generalize c.toNat = n at *
      go_enter Try.func19, Try.ntmps19
      go_wp2
      go_ret
      exact ⟨rfl, rfl⟩
    · rw [up_same c (by omega)]
      have b' : decide ((c.toNat : Int) ≤ 122) = false := by simp; omega
      clear b
      generalize c.toNat = n at *
      go_enter Try.func19, Try.ntmps19
      go_wp2
      go_ret
      exact ⟨rfl, rfl⟩
  · rw [up_same c (by omega)]
    have a' : decide ((97 : Int) ≤ (c.toNat : Int)) = false := by simp; omega
    clear a
    generalize c.toNat = n at *
    go_enter Try.func19, Try.ntmps19
    go_wp2
    go_ret
    exact ⟨rfl, rfl⟩
theorem rdown_any (c : UInt8) (w : World) : Calls Try.prog 20 #[.int .u8 (c.toNat : Int)] w fun e w' => e = .returned (.int .u8 ((dn c).toNat : Int)) ∧ w = w' := by
  have hb := c.toNat_lt
  by_cases a : 65 ≤ c.toNat
  · by_cases b : c.toNat ≤ 90
    · have e1 : ((dn c).toNat : Int) = (c.toNat : Int) + 32 := by rw [dn_nat c ⟨a, b⟩]; omega
      rw [e1]
      clear e1
      generalize c.toNat = n at *
      go_enter Try.func20, Try.ntmps20
      go_wp2
      go_ret
      exact ⟨rfl, rfl⟩
    · rw [dn_same c (by omega)]
      have b' : decide ((c.toNat : Int) ≤ 90) = false := by simp; omega
      clear b
      generalize c.toNat = n at *
      go_enter Try.func20, Try.ntmps20
      go_wp2
      go_ret
      exact ⟨rfl, rfl⟩
  · rw [dn_same c (by omega)]
    have a' : decide ((65 : Int) ≤ (c.toNat : Int)) = false := by simp; omega
    clear a
    generalize c.toNat = n at *
    go_enter Try.func20, Try.ntmps20
    go_wp2
    go_ret
    exact ⟨rfl, rfl⟩

/-- Where a byte lies. -/
theorem parts (n : Nat) : n < 48 ∨ (48 ≤ n ∧ n ≤ 57) ∨ (57 < n ∧ n < 65) ∨ (65 ≤ n ∧ n ≤ 90) ∨ (90 < n ∧ n < 97) ∨ (97 ≤ n ∧ n ≤ 122) ∨ (122 < n ∧ n < 128) ∨ 128 ≤ n := by omega
theorem wd_of (c : UInt8) : wd c = (decide (48 ≤ c.toNat ∧ c.toNat ≤ 57) || decide (65 ≤ c.toNat ∧ c.toNat ≤ 90) || decide (97 ≤ c.toNat ∧ c.toNat ≤ 122) || decide (128 ≤ c.toNat)) := by
  unfold wd letter
  rw [Bool.eq_iff_iff]
  simp
  omega
theorem word_any (c : UInt8) (w : World) : Calls Try.prog 23 #[.int .u8 (c.toNat : Int)] w fun e w' => e = .returned (.bool (wd c)) ∧ w = w' := by
  have hb := c.toNat_lt
  rcases parts c.toNat with h | h | h | h | h | h | h | h
  · have e : wd c = false := by rw [wd_of]; simp; omega
    rw [e]; clear e
    have t0 : decide (97 ≤ (c.toNat : Int)) = false := by simp; omega
    have t1 : (c.toNat : Int) ≤ 122 := by omega
    have t2 : decide (65 ≤ (c.toNat : Int)) = false := by simp; omega
    have t3 : (c.toNat : Int) ≤ 90 := by omega
    have t4 : decide (48 ≤ (c.toNat : Int)) = false := by simp; omega
    have t5 : (c.toNat : Int) ≤ 57 := by omega
    have t6 : decide (128 ≤ (c.toNat : Int)) = false := by simp; omega
    clear h
    generalize c.toNat = n at *
    go_enter Try.func23, Try.ntmps23
    go_wp2
    go_ret
    exact ⟨rfl, rfl⟩
  · have e : wd c = true := by rw [wd_of]; simp; omega
    rw [e]; clear e
    have t0 : decide (97 ≤ (c.toNat : Int)) = false := by simp; omega
    have t1 : (c.toNat : Int) ≤ 122 := by omega
    have t2 : decide (65 ≤ (c.toNat : Int)) = false := by simp; omega
    have t3 : (c.toNat : Int) ≤ 90 := by omega
    have t4 : 48 ≤ (c.toNat : Int) := by omega
    have t5 : (c.toNat : Int) ≤ 57 := by omega
    have t6 : decide (128 ≤ (c.toNat : Int)) = false := by simp; omega
    clear h
    generalize c.toNat = n at *
    go_enter Try.func23, Try.ntmps23
    go_wp2
    go_ret
    exact ⟨rfl, rfl⟩
  · have e : wd c = false := by rw [wd_of]; simp; omega
    rw [e]; clear e
    have t0 : decide (97 ≤ (c.toNat : Int)) = false := by simp; omega
    have t1 : (c.toNat : Int) ≤ 122 := by omega
    have t2 : decide (65 ≤ (c.toNat : Int)) = false := by simp; omega
    have t3 : (c.toNat : Int) ≤ 90 := by omega
    have t4 : 48 ≤ (c.toNat : Int) := by omega
    have t5 : decide ((c.toNat : Int) ≤ 57) = false := by simp; omega
    have t6 : decide (128 ≤ (c.toNat : Int)) = false := by simp; omega
    clear h
    generalize c.toNat = n at *
    go_enter Try.func23, Try.ntmps23
    go_wp2
    go_ret
    exact ⟨rfl, rfl⟩
  · have e : wd c = true := by rw [wd_of]; simp; omega
    rw [e]; clear e
    have t0 : decide (97 ≤ (c.toNat : Int)) = false := by simp; omega
    have t1 : (c.toNat : Int) ≤ 122 := by omega
    have t2 : 65 ≤ (c.toNat : Int) := by omega
    have t3 : (c.toNat : Int) ≤ 90 := by omega
    have t4 : 48 ≤ (c.toNat : Int) := by omega
    have t5 : decide ((c.toNat : Int) ≤ 57) = false := by simp; omega
    have t6 : decide (128 ≤ (c.toNat : Int)) = false := by simp; omega
    clear h
    generalize c.toNat = n at *
    go_enter Try.func23, Try.ntmps23
    go_wp2
    go_ret
    exact ⟨rfl, rfl⟩
  · have e : wd c = false := by rw [wd_of]; simp; omega
    rw [e]; clear e
    have t0 : decide (97 ≤ (c.toNat : Int)) = false := by simp; omega
    have t1 : (c.toNat : Int) ≤ 122 := by omega
    have t2 : 65 ≤ (c.toNat : Int) := by omega
    have t3 : decide ((c.toNat : Int) ≤ 90) = false := by simp; omega
    have t4 : 48 ≤ (c.toNat : Int) := by omega
    have t5 : decide ((c.toNat : Int) ≤ 57) = false := by simp; omega
    have t6 : decide (128 ≤ (c.toNat : Int)) = false := by simp; omega
    clear h
    generalize c.toNat = n at *
    go_enter Try.func23, Try.ntmps23
    go_wp2
    go_ret
    exact ⟨rfl, rfl⟩
  · have e : wd c = true := by rw [wd_of]; simp; omega
    rw [e]; clear e
    have t0 : 97 ≤ (c.toNat : Int) := by omega
    have t1 : (c.toNat : Int) ≤ 122 := by omega
    have t2 : 65 ≤ (c.toNat : Int) := by omega
    have t3 : decide ((c.toNat : Int) ≤ 90) = false := by simp; omega
    have t4 : 48 ≤ (c.toNat : Int) := by omega
    have t5 : decide ((c.toNat : Int) ≤ 57) = false := by simp; omega
    have t6 : decide (128 ≤ (c.toNat : Int)) = false := by simp; omega
    clear h
    generalize c.toNat = n at *
    go_enter Try.func23, Try.ntmps23
    go_wp2
    go_ret
    exact ⟨rfl, rfl⟩
  · have e : wd c = false := by rw [wd_of]; simp; omega
    rw [e]; clear e
    have t0 : 97 ≤ (c.toNat : Int) := by omega
    have t1 : decide ((c.toNat : Int) ≤ 122) = false := by simp; omega
    have t2 : 65 ≤ (c.toNat : Int) := by omega
    have t3 : decide ((c.toNat : Int) ≤ 90) = false := by simp; omega
    have t4 : 48 ≤ (c.toNat : Int) := by omega
    have t5 : decide ((c.toNat : Int) ≤ 57) = false := by simp; omega
    have t6 : decide (128 ≤ (c.toNat : Int)) = false := by simp; omega
    clear h
    generalize c.toNat = n at *
    go_enter Try.func23, Try.ntmps23
    go_wp2
    go_ret
    exact ⟨rfl, rfl⟩
  · have e : wd c = true := by rw [wd_of]; simp; omega
    rw [e]; clear e
    have t0 : 97 ≤ (c.toNat : Int) := by omega
    have t1 : decide ((c.toNat : Int) ≤ 122) = false := by simp; omega
    have t2 : 65 ≤ (c.toNat : Int) := by omega
    have t3 : decide ((c.toNat : Int) ≤ 90) = false := by simp; omega
    have t4 : 48 ≤ (c.toNat : Int) := by omega
    have t5 : decide ((c.toNat : Int) ≤ 57) = false := by simp; omega
    have t6 : 128 ≤ (c.toNat : Int) := by omega
    clear h
    generalize c.toNat = n at *
    go_enter Try.func23, Try.ntmps23
    go_wp2
    go_ret
    exact ⟨rfl, rfl⟩
theorem rletter_any (c : UInt8) (w : World) : Calls Try.prog 29 #[.int .u8 (c.toNat : Int)] w fun e w' => e = .returned (.bool (letter c)) ∧ w = w' := by
  have hb := c.toNat_lt
  rcases parts c.toNat with h | h | h | h | h | h | h | h
  · have e : letter c = false := by unfold letter; simp; omega
    rw [e]; clear e
    have t0 : decide (65 ≤ (c.toNat : Int)) = false := by simp; omega
    have t1 : (c.toNat : Int) ≤ 90 := by omega
    have t2 : decide (97 ≤ (c.toNat : Int)) = false := by simp; omega
    have t3 : (c.toNat : Int) ≤ 122 := by omega
    clear h
    generalize c.toNat = n at *
    go_enter Try.func29, Try.ntmps29
    go_wp2
    go_ret
    exact ⟨rfl, rfl⟩
  · have e : letter c = false := by unfold letter; simp; omega
    rw [e]; clear e
    have t0 : decide (65 ≤ (c.toNat : Int)) = false := by simp; omega
    have t1 : (c.toNat : Int) ≤ 90 := by omega
    have t2 : decide (97 ≤ (c.toNat : Int)) = false := by simp; omega
    have t3 : (c.toNat : Int) ≤ 122 := by omega
    clear h
    generalize c.toNat = n at *
    go_enter Try.func29, Try.ntmps29
    go_wp2
    go_ret
    exact ⟨rfl, rfl⟩
  · have e : letter c = false := by unfold letter; simp; omega
    rw [e]; clear e
    have t0 : decide (65 ≤ (c.toNat : Int)) = false := by simp; omega
    have t1 : (c.toNat : Int) ≤ 90 := by omega
    have t2 : decide (97 ≤ (c.toNat : Int)) = false := by simp; omega
    have t3 : (c.toNat : Int) ≤ 122 := by omega
    clear h
    generalize c.toNat = n at *
    go_enter Try.func29, Try.ntmps29
    go_wp2
    go_ret
    exact ⟨rfl, rfl⟩
  · have e : letter c = true := by unfold letter; simp; omega
    rw [e]; clear e
    have t0 : 65 ≤ (c.toNat : Int) := by omega
    have t1 : (c.toNat : Int) ≤ 90 := by omega
    have t2 : decide (97 ≤ (c.toNat : Int)) = false := by simp; omega
    have t3 : (c.toNat : Int) ≤ 122 := by omega
    clear h
    generalize c.toNat = n at *
    go_enter Try.func29, Try.ntmps29
    go_wp2
    go_ret
    exact ⟨rfl, rfl⟩
  · have e : letter c = false := by unfold letter; simp; omega
    rw [e]; clear e
    have t0 : 65 ≤ (c.toNat : Int) := by omega
    have t1 : decide ((c.toNat : Int) ≤ 90) = false := by simp; omega
    have t2 : decide (97 ≤ (c.toNat : Int)) = false := by simp; omega
    have t3 : (c.toNat : Int) ≤ 122 := by omega
    clear h
    generalize c.toNat = n at *
    go_enter Try.func29, Try.ntmps29
    go_wp2
    go_ret
    exact ⟨rfl, rfl⟩
  · have e : letter c = true := by unfold letter; simp; omega
    rw [e]; clear e
    have t0 : 65 ≤ (c.toNat : Int) := by omega
    have t1 : decide ((c.toNat : Int) ≤ 90) = false := by simp; omega
    have t2 : 97 ≤ (c.toNat : Int) := by omega
    have t3 : (c.toNat : Int) ≤ 122 := by omega
    clear h
    generalize c.toNat = n at *
    go_enter Try.func29, Try.ntmps29
    go_wp2
    go_ret
    exact ⟨rfl, rfl⟩
  · have e : letter c = false := by unfold letter; simp; omega
    rw [e]; clear e
    have t0 : 65 ≤ (c.toNat : Int) := by omega
    have t1 : decide ((c.toNat : Int) ≤ 90) = false := by simp; omega
    have t2 : 97 ≤ (c.toNat : Int) := by omega
    have t3 : decide ((c.toNat : Int) ≤ 122) = false := by simp; omega
    clear h
    generalize c.toNat = n at *
    go_enter Try.func29, Try.ntmps29
    go_wp2
    go_ret
    exact ⟨rfl, rfl⟩
  · have e : letter c = false := by unfold letter; simp; omega
    rw [e]; clear e
    have t0 : 65 ≤ (c.toNat : Int) := by omega
    have t1 : decide ((c.toNat : Int) ≤ 90) = false := by simp; omega
    have t2 : 97 ≤ (c.toNat : Int) := by omega
    have t3 : decide ((c.toNat : Int) ≤ 122) = false := by simp; omega
    clear h
    generalize c.toNat = n at *
    go_enter Try.func29, Try.ntmps29
    go_wp2
    go_ret
    exact ⟨rfl, rfl⟩
end Go.Proofs.Ytnjeicaikcnpdaa
