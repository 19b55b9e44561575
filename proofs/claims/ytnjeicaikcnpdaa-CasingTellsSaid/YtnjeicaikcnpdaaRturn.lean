/- What the reference's Turn hands back: the text turned, the code. -/
import Derived.Test.YtnjeicaikcnpdaaWords
namespace Go.Proofs.Ytnjeicaikcnpdaa
open Go.RowKit
open M

set_option maxRecDepth 100000 in
set_option maxHeartbeats 2000000 in
theorem rturn_up (s : ByteArray) (w : World) (hs : s.size ≤ 1048576) :
    Calls Try.prog 10 #[.string s, .int .i64 1] w fun e w' => e = .returned (.tuple #[.string ⟨(s.data.toList.map up).toArray⟩, .int .i64 0]) ∧ Below w.heap.size w w' := by
  have hconv := conv_to s w
  have hB := cw_below s w
  have hR := cw_bts s w
  go_enter Try.func10, Try.ntmps10
  go_wp2
  clear hconv
  generalize cw w s = W1 at *
  have hcp := cap5_ge s w
  generalize cap5 w s = cp at *
  go_loopw [7] (fun i wr => ∃ k : Nat, k ≤ s.size ∧ i = .int .i64 k ∧ Bts wr w.heap.size (mix up s.data.toList k) ∧ Below w.heap.size w wr) (fun i _ => s.size - (intOf i).toNat)
  case atStart => exact ⟨0, Nat.zero_le _, rfl, by rw [mix_zero]; exact hR, hB⟩
  case round =>
    clear hR hB
    obtain ⟨k, hk, rfl, hR, hB⟩ := hrel
    have hsz : s.data.toList.length = s.size := by simp
    by_cases hlt : k < s.size
    · have hc := hR.2.1 k (by rw [mix_len]; omega)
      rw [mix_get up _ k (by omega)] at hc
      have hf := hR.2.2 k (by rw [mix_len]; omega)
      have hn := hR.set k (up (s.data.toList[k]'(by omega))) (by rw [mix_len]; omega)
      rw [mix_succ up _ k (by omega)] at hn
      obtain ⟨c, hcv⟩ : ∃ c, s.data.toList[k]'(by omega) = c := ⟨_, rfl⟩
      rw [hcv] at hc hn
      clear hcv hsz
      go_wp2_with fail
      refine (rup_any _ _).mono ?_
      rintro e w1 ⟨rfl, rfl⟩
      go_wp2
      go_roundw
      case rel => exact ⟨k + 1, by omega, by go_num, hn, hB.setCell (p := ⟨w.heap.size, k, none⟩) (Nat.le_refl _) _⟩
      case measure => simp [intOf]; omega
    · obtain rfl : s.size = k := by omega
      rw [← hsz, mix_all] at hR
      have hb := hR.back s.size cp (by simp)
      clear hsz
      go_wp2
      go_ret2
      exact ⟨rfl, hB⟩
set_option maxRecDepth 100000 in
set_option maxHeartbeats 2000000 in
theorem rturn_down (s : ByteArray) (w : World) (hs : s.size ≤ 1048576) :
    Calls Try.prog 10 #[.string s, .int .i64 2] w fun e w' => e = .returned (.tuple #[.string ⟨(s.data.toList.map dn).toArray⟩, .int .i64 0]) ∧ Below w.heap.size w w' := by
  have hconv := conv_to s w
  have hB := cw_below s w
  have hR := cw_bts s w
  go_enter Try.func10, Try.ntmps10
  go_wp2
  clear hconv
  generalize cw w s = W1 at *
  have hcp := cap5_ge s w
  generalize cap5 w s = cp at *
  go_loopw [8] (fun i wr => ∃ k : Nat, k ≤ s.size ∧ i = .int .i64 k ∧ Bts wr w.heap.size (mix dn s.data.toList k) ∧ Below w.heap.size w wr) (fun i _ => s.size - (intOf i).toNat)
  case atStart => exact ⟨0, Nat.zero_le _, rfl, by rw [mix_zero]; exact hR, hB⟩
  case round =>
    clear hR hB
    obtain ⟨k, hk, rfl, hR, hB⟩ := hrel
    have hsz : s.data.toList.length = s.size := by simp
    by_cases hlt : k < s.size
    · have hc := hR.2.1 k (by rw [mix_len]; omega)
      rw [mix_get dn _ k (by omega)] at hc
      have hf := hR.2.2 k (by rw [mix_len]; omega)
      have hn := hR.set k (dn (s.data.toList[k]'(by omega))) (by rw [mix_len]; omega)
      rw [mix_succ dn _ k (by omega)] at hn
      obtain ⟨c, hcv⟩ : ∃ c, s.data.toList[k]'(by omega) = c := ⟨_, rfl⟩
      rw [hcv] at hc hn
      clear hcv hsz
      go_wp2_with fail
      refine (rdown_any _ _).mono ?_
      rintro e w1 ⟨rfl, rfl⟩
      go_wp2
      go_roundw
      case rel => exact ⟨k + 1, by omega, by go_num, hn, hB.setCell (p := ⟨w.heap.size, k, none⟩) (Nat.le_refl _) _⟩
      case measure => simp [intOf]; omega
    · obtain rfl : s.size = k := by omega
      rw [← hsz, mix_all] at hR
      have hb := hR.back s.size cp (by simp)
      clear hsz
      go_wp2
      go_ret2
      exact ⟨rfl, hB⟩
set_option maxRecDepth 100000 in
theorem rturn_cap (s : ByteArray) (w : World) (_hs : s.size ≤ 1048576) :
    Calls Try.prog 10 #[.string s, .int .i64 3] w fun e w' => e = .returned (.tuple #[.string ⟨(capd s.data.toList).toArray⟩, .int .i64 0]) ∧ Below w.heap.size w w' := by
  have hconv := conv_to s w
  have hB := cw_below s w
  have hR := cw_bts s w
  have hsz : s.data.toList.length = s.size := by simp
  cases hl : s.data.toList with
  | nil =>
    rw [hl] at hsz hR
    have h0 : s.size = 0 := hsz.symm
    have hz : decide ((0 : Int) < (s.size : Int)) = false := decide_eq_false (by omega)
    have hz2 : decide (0 < s.size) = false := decide_eq_false (by omega)
    have hz3 : ¬ 0 < s.size := by omega
    have hb := hR.back s.size (cap5 w s) (by rw [h0]; rfl)
    clear hl hsz h0 _hs
    go_enter Try.func10, Try.ntmps10
    go_wp2
    go_ret2
    exact ⟨rfl, hB⟩
  | cons c r =>
    rw [hl] at hsz hR
    have hz : (0 : Int) < (s.size : Int) := by simp at hsz; omega
    have hc := hR.2.1 0 (by simp)
    simp only [List.getElem_cons_zero] at hc
    have hf := hR.2.2 0 (by simp)
    have hn := hR.set 0 (up c) (by simp)
    rw [List.set_cons_zero] at hn
    have hb := hn.back s.size (cap5 w s) (by simpa using hsz)
    clear hl hsz hR hn
    go_enter Try.func10, Try.ntmps10
    go_wp2_with fail
    refine (rup_any _ _).mono ?_
    rintro e w1 ⟨rfl, rfl⟩
    go_wp2
    go_ret2
    exact ⟨rfl, hB.setCell (p := ⟨w.heap.size, 0, none⟩) (Nat.le_refl _) _⟩
set_option maxRecDepth 100000 in
theorem rturn_no (s : ByteArray) (way : Int) (w : World) (h : way < 1 ∨ 5 < way) :
    Calls Try.prog 10 #[.string s, .int .i64 way] w fun e w' => e = .returned (.tuple #[.string ⟨#[]⟩, .int .i64 2]) ∧ Below w.heap.size w w' := by
  have hconv := conv_to s w
  have hB := cw_below s w
  have e1 : (way == 1) = false := by simp only [beq_eq_false_iff_ne]; omega
  have e2 : (way == 2) = false := by simp only [beq_eq_false_iff_ne]; omega
  have e3 : (way == 3) = false := by simp only [beq_eq_false_iff_ne]; omega
  have e4 : (way == 4) = false := by simp only [beq_eq_false_iff_ne]; omega
  have e5 : (way == 5) = false := by simp only [beq_eq_false_iff_ne]; omega
  clear h
  go_enter Try.func10, Try.ntmps10
  go_wp2
  go_ret2
  exact ⟨rfl, hB⟩
end Go.Proofs.Ytnjeicaikcnpdaa
