/- The walk of CasingLetters: whatever the text, it answers true; nothing that was there has turned. -/
import Derived.Test.YtnjeicaikcnpdaaLow
import Derived.OpenShut
import Derived.BigQuiet
namespace Go.Proofs.Ytnjeicaikcnpdaa.casingLetters
open Go.RowKit
open M

def upB (s : ByteArray) : ByteArray := ⟨(s.data.toList.map up).toArray⟩
def dnB (s : ByteArray) : ByteArray := ⟨(s.data.toList.map dn).toArray⟩
def cpB (s : ByteArray) : ByteArray := ⟨(capd s.data.toList).toArray⟩
theorem up_up (c : UInt8) : up (up c) = up c := by
  by_cases h : 97 ≤ c.toNat ∧ c.toNat ≤ 122
  · exact up_same _ (by rw [up_nat c h]; omega)
  · rw [up_same c h, up_same c h]
theorem up_dn (c : UInt8) : up (dn c) = up c := by
  by_cases h : 65 ≤ c.toNat ∧ c.toNat ≤ 90
  · apply UInt8.toNat_inj.1
    have h1 := dn_nat c h
    rw [up_nat (dn c) (by omega), h1, up_same c (by omega)]
    omega
  · rw [dn_same c h]
theorem upB_upB (s : ByteArray) : upB (upB s) = upB s := by
  unfold upB
  simp [List.map_map, Function.comp_def, up_up]
theorem upB_dnB (s : ByteArray) : upB (dnB s) = upB s := by
  unfold upB dnB
  simp [List.map_map, Function.comp_def, up_dn]
theorem upB_size (s : ByteArray) : (upB s).size = s.size := by
  unfold upB
  show (List.toArray _).size = s.data.size
  simp
theorem dnB_size (s : ByteArray) : (dnB s).size = s.size := by
  unfold dnB
  show (List.toArray _).size = s.data.size
  simp
theorem cpB_size (s : ByteArray) : (cpB s).size = s.size := by
  unfold cpB
  show (List.toArray _).size = s.data.size
  simp [capd_len]
theorem upB_get (s : ByteArray) (k : Nat) (h : k < s.size) (h' : k < (upB s).size) : (upB s)[k] = up s[k] := by
  show (upB s).data[k] = up s.data[k]
  simp [upB]
theorem dnB_get (s : ByteArray) (k : Nat) (h : k < s.size) (h' : k < (dnB s).size) : (dnB s)[k] = dn s[k] := by
  show (dnB s).data[k] = dn s.data[k]
  simp [dnB]
theorem cpB_zero (s : ByteArray) (h : 0 < s.size) (h' : 0 < (cpB s).size) : (cpB s)[0] = up s[0] := by
  show (cpB s).data[0] = up s.data[0]
  obtain ⟨⟨l⟩⟩ := s
  cases l with
  | nil => simp [ByteArray.size] at h
  | cons c r => simp [cpB, capd]
theorem cpB_succ (s : ByteArray) (k : Nat) (h : k + 1 < s.size) (h' : k + 1 < (cpB s).size) : (cpB s)[k + 1] = s[k + 1] := by
  show (cpB s).data[k + 1] = s.data[k + 1]
  obtain ⟨⟨l⟩⟩ := s
  cases l with
  | nil => simp [ByteArray.size] at h
  | cons c r => simp [cpB, capd]
theorem and_low : ∀ n : Fin 26, bits .and .u8 ((n.val + 97 : Nat) : Int) 223 = ((n.val + 65 : Nat) : Int) := by decide +kernel
theorem and_high : ∀ n : Fin 26, bits .and .u8 ((n.val + 65 : Nat) : Int) 223 = ((n.val + 65 : Nat) : Int) := by decide +kernel
theorem or_low : ∀ n : Fin 26, bits .or .u8 ((n.val + 97 : Nat) : Int) 32 = ((n.val + 97 : Nat) : Int) := by decide +kernel
theorem or_high : ∀ n : Fin 26, bits .or .u8 ((n.val + 65 : Nat) : Int) 32 = ((n.val + 97 : Nat) : Int) := by decide +kernel

theorem and_l (n : Nat) (h : 97 ≤ n ∧ n ≤ 122) : bits .and .u8 (n : Int) 223 = (n : Int) - 32 := by
  obtain ⟨m, rfl⟩ : ∃ m, n = m + 97 := ⟨n - 97, by omega⟩
  rw [show ((m + 97 : Nat) : Int) - 32 = ((m + 65 : Nat) : Int) by omega]
  exact and_low ⟨m, by omega⟩
theorem and_h (n : Nat) (h : 65 ≤ n ∧ n ≤ 90) : bits .and .u8 (n : Int) 223 = (n : Int) := by
  obtain ⟨m, rfl⟩ : ∃ m, n = m + 65 := ⟨n - 65, by omega⟩
  exact and_high ⟨m, by omega⟩
theorem or_l (n : Nat) (h : 97 ≤ n ∧ n ≤ 122) : bits .or .u8 (n : Int) 32 = (n : Int) := by
  obtain ⟨m, rfl⟩ : ∃ m, n = m + 97 := ⟨n - 97, by omega⟩
  exact or_low ⟨m, by omega⟩
theorem or_h (n : Nat) (h : 65 ≤ n ∧ n ≤ 90) : bits .or .u8 (n : Int) 32 = (n : Int) + 32 := by
  obtain ⟨m, rfl⟩ : ∃ m, n = m + 65 := ⟨n - 65, by omega⟩
  rw [show ((m + 65 : Nat) : Int) + 32 = ((m + 97 : Nat) : Int) by omega]
  exact or_high ⟨m, by omega⟩

theorem t_up (s : ByteArray) (w : World) (hs : s.size ≤ 1048576) : Calls Try.prog 9 #[.string s, .int .i64 1] w fun e w' => e = .returned (.tuple #[.string (upB s), .int .i64 0]) ∧ Below w.heap.size w w' := turn_up s w hs
theorem t_dn (s : ByteArray) (w : World) (hs : s.size ≤ 1048576) : Calls Try.prog 9 #[.string s, .int .i64 2] w fun e w' => e = .returned (.tuple #[.string (dnB s), .int .i64 0]) ∧ Below w.heap.size w w' := turn_down s w hs
theorem t_cp (s : ByteArray) (w : World) (hs : s.size ≤ 1048576) : Calls Try.prog 9 #[.string s, .int .i64 3] w fun e w' => e = .returned (.tuple #[.string (cpB s), .int .i64 0]) ∧ Below w.heap.size w w' := turn_cap s w hs
theorem t_upup (s : ByteArray) (w : World) (hs : s.size ≤ 1048576) : Calls Try.prog 9 #[.string (upB s), .int .i64 1] w fun e w' => e = .returned (.tuple #[.string (upB s), .int .i64 0]) ∧ Below w.heap.size w w' := by
  have h := t_up (upB s) w (by rw [upB_size]; exact hs)
  rwa [upB_upB] at h
theorem t_updn (s : ByteArray) (w : World) (hs : s.size ≤ 1048576) : Calls Try.prog 9 #[.string (dnB s), .int .i64 1] w fun e w' => e = .returned (.tuple #[.string (upB s), .int .i64 0]) ∧ Below w.heap.size w w' := by
  have h := t_up (dnB s) w (by rw [dnB_size]; exact hs)
  rwa [upB_dnB] at h

set_option maxRecDepth 100000 in
set_option maxHeartbeats 8000000 in
theorem walk (a0 : ByteArray) (w0 : a0.size ≤ maxLen) (w : World) :
    Calls Try.prog 5 #[.string a0] w fun e w' => e = .returned (.bool true) ∧ Below w.heap.size w w' := by
  unfold maxLen at w0
  by_cases hs : 200 < a0.size
  · go_enter Try.func5, Try.ntmps5
    go_wp2_with fail
    refine (awake_any _).mono ?_
    rintro e w1 ⟨rfl, hb1⟩
    go_wp2
    go_ret
    exact ⟨rfl, hb1⟩
  have hs' : decide (200 < (a0.size : Int)) = false := by simp; omega
  have z1 := upB_size a0
  have z2 := dnB_size a0
  have z3 := cpB_size a0
  have z1' : (((upB a0).size : Int) != (a0.size : Int)) = false := by rw [z1]; simp
  have z2' : (((dnB a0).size : Int) != (a0.size : Int)) = false := by rw [z2]; simp
  have z3' : (((cpB a0).size : Int) != (a0.size : Int)) = false := by rw [z3]; simp
  have Z1 := Lib.hid z1
  have Z2 := Lib.hid z2
  have Z3 := Lib.hid z3
  clear z1 z2 z3
  go_enter Try.func5, Try.ntmps5
  go_wp2_with fail
  refine (t_up _ _ (by omega)).mono ?_
  rintro e w1 ⟨rfl, hb1⟩
  go_wp2_with fail
  refine (t_dn _ _ (by omega)).mono ?_
  rintro e w2 ⟨rfl, hb2⟩
  go_wp2_with fail
  refine (t_cp _ _ (by omega)).mono ?_
  rintro e w3 ⟨rfl, hb3⟩
  go_wp2_with fail
  refine (t_upup _ _ (by omega)).mono ?_
  rintro e w4 ⟨rfl, hb4⟩
  go_wp2_with fail
  refine (t_updn _ _ (by omega)).mono ?_
  rintro e w5 ⟨rfl, hb5⟩
  have hB := bt (bt (bt (bt hb1 hb2) hb3) hb4) hb5
  clear hb1 hb2 hb3 hb4 hb5
  go_wp2
  go_loopw [13] (fun i wr => ∃ k : Nat, k ≤ a0.size ∧ i = .int .i64 k ∧ Below w.heap.size w wr) (fun i _ => a0.size - (intOf i).toNat)
  case atStart => exact ⟨0, Nat.zero_le _, rfl, hB⟩
  case round =>
    clear hB
    obtain ⟨k, hk, rfl, hB⟩ := hrel
    by_cases hlt : k < a0.size
    · have q1 : k < (upB a0).size := by rw [Z1.out]; exact hlt
      have q2 : k < (dnB a0).size := by rw [Z2.out]; exact hlt
      have q3 : k < (cpB a0).size := by rw [Z3.out]; exact hlt
      have g1 := upB_get a0 k hlt q1
      have g2 := dnB_get a0 k hlt q2
      have hb := (a0[k]).toNat_lt
      have hp : (a0[k]).toNat < 65 ∨ (65 ≤ (a0[k]).toNat ∧ (a0[k]).toNat ≤ 90) ∨ (90 < (a0[k]).toNat ∧ (a0[k]).toNat < 97) ∨ (97 ≤ (a0[k]).toNat ∧ (a0[k]).toNat ≤ 122) ∨ 122 < (a0[k]).toNat := by omega
      rcases hp with hh | hh | hh | hh | hh
      · -- A
        rw [up_same _ (by omega)] at g1
        rw [dn_same _ (by omega)] at g2
        have t1 : decide ((97 : Int) ≤ ((a0[k]).toNat : Int)) = false := by simp; omega
        have t3 : decide ((65 : Int) ≤ ((a0[k]).toNat : Int)) = false := by simp; omega
        rcases k with _ | k
        · have g3 := cpB_zero a0 hlt q3
          rw [up_same _ (by omega)] at g3
          clear hh hb
          go_wp2
          go_quiet (fail)
          go_wp2
          go_roundw
          case rel => exact ⟨0 + 1, by omega, by go_num, ⟨hB.os, hB.tape, hB.output, hB.size, hB.block⟩⟩
          case measure => simp [intOf]; omega
        · have g3 := cpB_succ a0 k hlt q3
          have kp : (0 : Int) < (k : Int) + 1 := by omega
          have kz : (((k : Int) + 1) == 0) = false := by simp only [beq_eq_false_iff_ne]; omega
          clear hh hb
          go_wp2
          go_quiet (fail)
          go_wp2
          go_roundw
          case rel => exact ⟨k + 1 + 1, by omega, by go_num, ⟨hB.os, hB.tape, hB.output, hB.size, hB.block⟩⟩
          case measure => simp [intOf]; omega
      · -- B
        have hu := up_same (a0[k]) (by omega)
        rw [hu] at g1
        have hd : ((dn a0[k]).toNat : Int) = ((a0[k]).toNat : Int) + 32 := by rw [dn_nat _ hh]; omega
        have ba : bits .and .u8 ((a0[k]).toNat : Int) 223 = ((a0[k]).toNat : Int) := and_h _ hh
        have bo : bits .or .u8 ((a0[k]).toNat : Int) 32 = ((a0[k]).toNat : Int) + 32 := or_h _ hh
        have t1 : decide ((97 : Int) ≤ ((a0[k]).toNat : Int)) = false := by simp; omega
        have t3 : (65 : Int) ≤ ((a0[k]).toNat : Int) := by omega
        have t4 : ((a0[k]).toNat : Int) ≤ 90 := by omega
        rcases k with _ | k
        · have g3 := cpB_zero a0 hlt q3
          rw [hu] at g3
          clear hu
          clear hh hb
          go_wp2
          go_quiet (fail)
          go_wp2
          go_roundw
          case rel => exact ⟨0 + 1, by omega, by go_num, ⟨hB.os, hB.tape, hB.output, hB.size, hB.block⟩⟩
          case measure => simp [intOf]; omega
        · have g3 := cpB_succ a0 k hlt q3
          have kp : (0 : Int) < (k : Int) + 1 := by omega
          have kz : (((k : Int) + 1) == 0) = false := by simp only [beq_eq_false_iff_ne]; omega
          clear hu
          clear hh hb
          go_wp2
          go_quiet (fail)
          go_wp2
          go_roundw
          case rel => exact ⟨k + 1 + 1, by omega, by go_num, ⟨hB.os, hB.tape, hB.output, hB.size, hB.block⟩⟩
          case measure => simp [intOf]; omega
      · -- C
        rw [up_same _ (by omega)] at g1
        rw [dn_same _ (by omega)] at g2
        have t1 : decide ((97 : Int) ≤ ((a0[k]).toNat : Int)) = false := by simp; omega
        have t3 : (65 : Int) ≤ ((a0[k]).toNat : Int) := by omega
        have t4 : decide (((a0[k]).toNat : Int) ≤ 90) = false := by simp; omega
        rcases k with _ | k
        · have g3 := cpB_zero a0 hlt q3
          rw [up_same _ (by omega)] at g3
          clear hh hb
          go_wp2
          go_quiet (fail)
          go_wp2
          go_roundw
          case rel => exact ⟨0 + 1, by omega, by go_num, ⟨hB.os, hB.tape, hB.output, hB.size, hB.block⟩⟩
          case measure => simp [intOf]; omega
        · have g3 := cpB_succ a0 k hlt q3
          have kp : (0 : Int) < (k : Int) + 1 := by omega
          have kz : (((k : Int) + 1) == 0) = false := by simp only [beq_eq_false_iff_ne]; omega
          clear hh hb
          go_wp2
          go_quiet (fail)
          go_wp2
          go_roundw
          case rel => exact ⟨k + 1 + 1, by omega, by go_num, ⟨hB.os, hB.tape, hB.output, hB.size, hB.block⟩⟩
          case measure => simp [intOf]; omega
      · -- D
        have hd := dn_same (a0[k]) (by omega)
        rw [hd] at g2
        have hu : ((up a0[k]).toNat : Int) = ((a0[k]).toNat : Int) - 32 := by rw [up_nat _ hh]; omega
        have ba : bits .and .u8 ((a0[k]).toNat : Int) 223 = ((a0[k]).toNat : Int) - 32 := and_l _ hh
        have bo : bits .or .u8 ((a0[k]).toNat : Int) 32 = ((a0[k]).toNat : Int) := or_l _ hh
        have t1 : (97 : Int) ≤ ((a0[k]).toNat : Int) := by omega
        have t2 : ((a0[k]).toNat : Int) ≤ 122 := by omega
        rcases k with _ | k
        · have g3 := cpB_zero a0 hlt q3
          clear hd
          clear hh hb
          go_wp2
          go_quiet (fail)
          go_wp2
          go_roundw
          case rel => exact ⟨0 + 1, by omega, by go_num, ⟨hB.os, hB.tape, hB.output, hB.size, hB.block⟩⟩
          case measure => simp [intOf]; omega
        · have g3 := cpB_succ a0 k hlt q3
          have kp : (0 : Int) < (k : Int) + 1 := by omega
          have kz : (((k : Int) + 1) == 0) = false := by simp only [beq_eq_false_iff_ne]; omega
          clear hd
          clear hh hb
          go_wp2
          go_quiet (fail)
          go_wp2
          go_roundw
          case rel => exact ⟨k + 1 + 1, by omega, by go_num, ⟨hB.os, hB.tape, hB.output, hB.size, hB.block⟩⟩
          case measure => simp [intOf]; omega
      · -- E
        rw [up_same _ (by omega)] at g1
        rw [dn_same _ (by omega)] at g2
        have t1 : (97 : Int) ≤ ((a0[k]).toNat : Int) := by omega
        have t2 : decide (((a0[k]).toNat : Int) ≤ 122) = false := by simp; omega
        have t3 : (65 : Int) ≤ ((a0[k]).toNat : Int) := by omega
        have t4 : decide (((a0[k]).toNat : Int) ≤ 90) = false := by simp; omega
        rcases k with _ | k
        · have g3 := cpB_zero a0 hlt q3
          rw [up_same _ (by omega)] at g3
          clear hh hb
          go_wp2
          go_quiet (fail)
          go_wp2
          go_roundw
          case rel => exact ⟨0 + 1, by omega, by go_num, ⟨hB.os, hB.tape, hB.output, hB.size, hB.block⟩⟩
          case measure => simp [intOf]; omega
        · have g3 := cpB_succ a0 k hlt q3
          have kp : (0 : Int) < (k : Int) + 1 := by omega
          have kz : (((k : Int) + 1) == 0) = false := by simp only [beq_eq_false_iff_ne]; omega
          clear hh hb
          go_wp2
          go_quiet (fail)
          go_wp2
          go_roundw
          case rel => exact ⟨k + 1 + 1, by omega, by go_num, ⟨hB.os, hB.tape, hB.output, hB.size, hB.block⟩⟩
          case measure => simp [intOf]; omega
    · obtain rfl : a0.size = k := by omega
      go_wp2_with fail
      refine (awake_any _).mono ?_
      rintro e w6 ⟨rfl, hb6⟩
      go_wp2
      go_ret
      exact ⟨rfl, bt hB hb6⟩
end Go.Proofs.Ytnjeicaikcnpdaa.casingLetters
