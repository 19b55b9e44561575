/- What the reference's Upto hands back: the same front. -/
import Derived.Test.YtpjjokpfengjnaaRof
import Derived.Test.YtpjjokpfengjnaaUpto
namespace Go.Proofs.Ytpjjokpfengjnaa
open Go.RowKit Go.Sort
open M

theorem rbyw_any (n way : Int) (w : World) :
    Calls Try.prog 17 #[.agg #[.int .i64 1, .int .i64 (wK n), .int .i64 (wR n), .int .i64 (wU n)], .int .i64 way] w fun e w' => e = .returned (.int .i64 (wBy way n)) ∧ Below w.heap.size w w' := rby_any _ _ _ _ _ _
theorem rof_byte (s : ByteArray) (k : Nat) (h : k < s.size) (w : World) :
    Calls Try.prog 13 #[.string (s.extract k (k + 1))] w fun e w' =>
      e = .returned (.agg #[.int .i64 1, .int .i64 (wK (s[k].toNat : Int)), .int .i64 (wR (s[k].toNat : Int)), .int .i64 (wU (s[k].toNat : Int))]) ∧ Below w.heap.size w w' := by
  have e1 : (s.extract k (k + 1)).data.toList = [s[k]] := by
    rw [ByteArray.data_extract, Array.toList_extract, List.extract_eq_take_drop, List.drop_eq_getElem_cons (by simpa using h)]
    simp
    rfl
  have h1 : (s.extract k (k + 1)).size ≤ 1048576 := by rw [ByteArray.size_extract]; omega
  refine (rof_any _ w h1).mono fun e w' ⟨he, hb⟩ => ⟨?_, hb⟩
  rw [he, e1]
  simp [tot, one]
set_option maxHeartbeats 1000000 in
theorem rupto_any (s : ByteArray) (way n : Int) (w : World) (hs : s.size ≤ 1048576) :
    Calls Try.prog 19 #[.string s, .int .i64 way, .int .i64 n] w fun e w' => e = .returned (.int .i64 (uptoR s way n)) ∧ Below w.heap.size w w' := by
  by_cases h0 : n < 0
  · have hv : uptoR s way n = -1 := by simp [uptoR, h0]
    rw [hv]; clear hv
    go_enter Try.func19, Try.ntmps19
    go_wp2
    go_ret
    exact ⟨rfl, Below.refl _ _⟩
  by_cases h1 : way < 0
  · have hv : uptoR s way n = -1 := by simp [uptoR, h1]
    rw [hv]; clear hv
    have h0' : decide (n < 0) = false := by simpa using h0
    clear h0
    go_enter Try.func19, Try.ntmps19
    go_wp2
    go_ret
    exact ⟨rfl, Below.refl _ _⟩
  by_cases h2 : 3 < way
  · have hv : uptoR s way n = -1 := by simp [uptoR, h2]
    rw [hv]; clear hv
    have h0' : decide (n < 0) = false := by simpa using h0
    have h1' : decide (way < 0) = false := by simpa using h1
    clear h0 h1
    go_enter Try.func19, Try.ntmps19
    go_wp2
    go_ret
    exact ⟨rfl, Below.refl _ _⟩
  have hv : uptoR s way n = (upto (wBy way) s.data.toList n : Int) := by simp [uptoR, h0, h1, h2]
  rw [hv]; clear hv
  have h0' : decide (n < 0) = false := by simpa using h0
  have h1' : decide (way < 0) = false := by simpa using h1
  have h2' : decide (3 < way) = false := by simpa using h2
  have hn0 : 0 ≤ n := by omega
  clear h0 h1 h2
  go_enter Try.func19, Try.ntmps19
  go_wp2
  go_loopw [7, 8] (fun many i wr => ∃ (k : Nat) (m : Int), k ≤ s.size ∧ i = .int .i64 k ∧ 0 ≤ m ∧ m ≤ n ∧ m ≤ 2 * k ∧ many = .int .i64 m ∧ Hid ((upto (wBy way) s.data.toList n : Int) = k + upto (wBy way) (s.data.toList.drop k) (n - m)) ∧ Below w.heap.size w wr)
    (fun _ i _ => s.size - (intOf i).toNat)
  case atStart => exact ⟨0, 0, Nat.zero_le _, rfl, by omega, hn0, by omega, rfl, Lib.hid (by simp), Below.refl _ _⟩
  case round =>
    obtain ⟨k, m, hk, rfl, hm0, hm1, hm2, rfl, H, hb⟩ := hrel
    by_cases hlt : k < s.size
    · have hbt := byte_bd s k hlt
      have g := wBy_bd way (s[k].toNat : Int)
      have hd := upto_drop (wBy way) s.data.toList k (by simpa using hlt) (n - m)
      rw [show (s.data.toList[k]'(by simpa using hlt)) = s[k] from rfl] at hd
      have HD := Lib.hid hd
      clear hd
      by_cases hc : n < m + wBy way (s[k].toNat : Int)
      · have fin : (upto (wBy way) s.data.toList n : Int) = k := by rw [H.out, HD.out, if_pos (by omega)]; simp
        have F := Lib.hid fin
        clear fin
        go_wp2_with fail
        refine (rof_byte s k hlt _).mono ?_
        rintro e w1 ⟨rfl, hb1⟩
        go_wp2_with fail
        refine (rbyw_any _ _ _).mono ?_
        rintro e w2 ⟨rfl, hb2⟩
        go_wp2
        go_ret
        exact ⟨ret_i F.out.symm, (hb.trans (hb1.mono hb.size)).trans (hb2.mono (Nat.le_trans hb.size hb1.size))⟩
      · have nx : (upto (wBy way) s.data.toList n : Int) = ((k + 1 : Nat) : Int) + upto (wBy way) (s.data.toList.drop (k + 1)) (n - (m + wBy way (s[k].toNat : Int))) := by
          rw [H.out, HD.out, if_neg (by omega), show n - m - wBy way (s[k].toNat : Int) = n - (m + wBy way (s[k].toNat : Int)) by omega]; omega
        have N := Lib.hid nx
        clear nx
        have hc' : decide (n < m + wBy way (s[k].toNat : Int)) = false := by simpa using hc
        have hc2 : m + wBy way (s[k].toNat : Int) ≤ n := by omega
        clear hc
        go_wp2_with fail
        refine (rof_byte s k hlt _).mono ?_
        rintro e w1 ⟨rfl, hb1⟩
        go_wp2_with fail
        refine (rbyw_any _ _ _).mono ?_
        rintro e w2 ⟨rfl, hb2⟩
        go_wp2
        go_roundw
        case rel => exact ⟨k + 1, _, by omega, by go_num, by omega, by omega, by omega, rfl, N, (hb.trans (hb1.mono hb.size)).trans (hb2.mono (Nat.le_trans hb.size hb1.size))⟩
        case measure => simp [intOf]; omega
    · obtain rfl : k = s.size := by omega
      have fin : (upto (wBy way) s.data.toList n : Int) = s.size := by
        rw [H.out, List.drop_of_length_le (by simp)]; simp [upto]
      have F := Lib.hid fin
      clear fin
      go_wp2
      go_ret
      exact ⟨ret_i F.out.symm, hb⟩
end Go.Proofs.Ytpjjokpfengjnaa
