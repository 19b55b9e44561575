/- The contract of the reference's in: is a byte in a word? -/
import Derived.Test.YtnjeicaikcnpdaaLow
namespace Go.Proofs.Ytnjeicaikcnpdaa
open Go.RowKit
open M

theorem rin_any (c : UInt8) (w : World) : Calls Try.prog 27 #[.int .u8 (c.toNat : Int)] w fun e w' => e = .returned (.bool (wd c)) ∧ w = w' := by
  have hb := c.toNat_lt
  rcases parts c.toNat with h | h | h | h | h | h | h | h
  · have e : wd c = false := by rw [wd_of]; simp; omega
    have el : letter c = false := by unfold letter; simp; omega
    rw [e]; clear e
    have EL := Lib.hid el
    clear el
    have t4 : decide (48 ≤ (c.toNat : Int)) = false := by simp; omega
    have t5 : (c.toNat : Int) ≤ 57 := by omega
    have t6 : decide (128 ≤ (c.toNat : Int)) = false := by simp; omega
    clear h
    go_enter Try.func27, Try.ntmps27
    go_wp2_with fail
    refine (rletter_any c _).mono ?_
    rw [EL.out]
    rintro e w1 ⟨rfl, rfl⟩
    go_wp2
    go_ret
    exact ⟨rfl, rfl⟩
  · have e : wd c = true := by rw [wd_of]; simp; omega
    have el : letter c = false := by unfold letter; simp; omega
    rw [e]; clear e
    have EL := Lib.hid el
    clear el
    have t4 : 48 ≤ (c.toNat : Int) := by omega
    have t5 : (c.toNat : Int) ≤ 57 := by omega
    have t6 : decide (128 ≤ (c.toNat : Int)) = false := by simp; omega
    clear h
    go_enter Try.func27, Try.ntmps27
    go_wp2_with fail
    refine (rletter_any c _).mono ?_
    rw [EL.out]
    rintro e w1 ⟨rfl, rfl⟩
    go_wp2
    go_ret
    exact ⟨rfl, rfl⟩
  · have e : wd c = false := by rw [wd_of]; simp; omega
    have el : letter c = false := by unfold letter; simp; omega
    rw [e]; clear e
    have EL := Lib.hid el
    clear el
    have t4 : 48 ≤ (c.toNat : Int) := by omega
    have t5 : decide ((c.toNat : Int) ≤ 57) = false := by simp; omega
    have t6 : decide (128 ≤ (c.toNat : Int)) = false := by simp; omega
    clear h
    go_enter Try.func27, Try.ntmps27
    go_wp2_with fail
    refine (rletter_any c _).mono ?_
    rw [EL.out]
    rintro e w1 ⟨rfl, rfl⟩
    go_wp2
    go_ret
    exact ⟨rfl, rfl⟩
  · have e : wd c = true := by rw [wd_of]; simp; omega
    have el : letter c = true := by unfold letter; simp; omega
    rw [e]; clear e
    have EL := Lib.hid el
    clear el
    have t4 : 48 ≤ (c.toNat : Int) := by omega
    have t5 : decide ((c.toNat : Int) ≤ 57) = false := by simp; omega
    have t6 : decide (128 ≤ (c.toNat : Int)) = false := by simp; omega
    clear h
    go_enter Try.func27, Try.ntmps27
    go_wp2_with fail
    refine (rletter_any c _).mono ?_
    rw [EL.out]
    rintro e w1 ⟨rfl, rfl⟩
    go_wp2
    go_ret
    exact ⟨rfl, rfl⟩
  · have e : wd c = false := by rw [wd_of]; simp; omega
    have el : letter c = false := by unfold letter; simp; omega
    rw [e]; clear e
    have EL := Lib.hid el
    clear el
    have t4 : 48 ≤ (c.toNat : Int) := by omega
    have t5 : decide ((c.toNat : Int) ≤ 57) = false := by simp; omega
    have t6 : decide (128 ≤ (c.toNat : Int)) = false := by simp; omega
    clear h
    go_enter Try.func27, Try.ntmps27
    go_wp2_with fail
    refine (rletter_any c _).mono ?_
    rw [EL.out]
    rintro e w1 ⟨rfl, rfl⟩
    go_wp2
    go_ret
    exact ⟨rfl, rfl⟩
  · have e : wd c = true := by rw [wd_of]; simp; omega
    have el : letter c = true := by unfold letter; simp; omega
    rw [e]; clear e
    have EL := Lib.hid el
    clear el
    have t4 : 48 ≤ (c.toNat : Int) := by omega
    have t5 : decide ((c.toNat : Int) ≤ 57) = false := by simp; omega
    have t6 : decide (128 ≤ (c.toNat : Int)) = false := by simp; omega
    clear h
    go_enter Try.func27, Try.ntmps27
    go_wp2_with fail
    refine (rletter_any c _).mono ?_
    rw [EL.out]
    rintro e w1 ⟨rfl, rfl⟩
    go_wp2
    go_ret
    exact ⟨rfl, rfl⟩
  · have e : wd c = false := by rw [wd_of]; simp; omega
    have el : letter c = false := by unfold letter; simp; omega
    rw [e]; clear e
    have EL := Lib.hid el
    clear el
    have t4 : 48 ≤ (c.toNat : Int) := by omega
    have t5 : decide ((c.toNat : Int) ≤ 57) = false := by simp; omega
    have t6 : decide (128 ≤ (c.toNat : Int)) = false := by simp; omega
    clear h
    go_enter Try.func27, Try.ntmps27
    go_wp2_with fail
    refine (rletter_any c _).mono ?_
    rw [EL.out]
    rintro e w1 ⟨rfl, rfl⟩
    go_wp2
    go_ret
    exact ⟨rfl, rfl⟩
  · have e : wd c = true := by rw [wd_of]; simp; omega
    have el : letter c = false := by unfold letter; simp; omega
    rw [e]; clear e
    have EL := Lib.hid el
    clear el
    have t4 : 48 ≤ (c.toNat : Int) := by omega
    have t5 : decide ((c.toNat : Int) ≤ 57) = false := by simp; omega
    have t6 : 128 ≤ (c.toNat : Int) := by omega
    clear h
    go_enter Try.func27, Try.ntmps27
    go_wp2_with fail
    refine (rletter_any c _).mono ?_
    rw [EL.out]
    rintro e w1 ⟨rfl, rfl⟩
    go_wp2
    go_ret
    exact ⟨rfl, rfl⟩
end Go.Proofs.Ytnjeicaikcnpdaa
