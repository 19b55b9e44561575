/- What Low and tally's Upto hand back: the greatest front that has at most n by a way. -/
import Derived.Test.YtpjjokpfengjnaaOf
namespace Go.Proofs.Ytpjjokpfengjnaa
open Go.RowKit Go.Sort
open M

def low (x n : Int) : Int := (x % 18446744073709551616) % n
theorem low_bd (x n : Int) (h : 1 ≤ n) : 0 ≤ low x n ∧ low x n < n := by
  unfold low
  exact ⟨Int.emod_nonneg _ (by omega), Int.emod_lt_of_pos _ (by omega)⟩
theorem low_eq (x n : Int) (h1 : 1 ≤ n) (h2 : n ≤ 1048576) : wrap64 ((IntKind.u64.wrap x).tmod n) = low x n := by
  have e : IntKind.u64.wrap x = x % 18446744073709551616 := IntKind.wrap_u64 x
  have h := low_bd x n h1
  unfold low at h ⊢
  rw [e, Int.tmod_eq_emod_of_nonneg (Int.emod_nonneg _ (by omega))]
  generalize x % 18446744073709551616 % n = r at *
  unfold wrap64
  omega
theorem low_any (x n : Int) (h1 : 1 ≤ n) (h2 : n ≤ 1048576) (w : World) :
    Calls Try.prog 14 #[.int .i64 x, .int .i64 n] w fun e w' => e = .returned (.int .i64 (low x n)) ∧ w = w' := by
  go_enter Try.func14, Try.ntmps14
  go_wp2
  go_ret
  exact ⟨congrArg (fun z => Ending.returned (.int .i64 z)) (low_eq x n h1 h2), rfl⟩
theorem byw_any (n way : Int) (w : World) :
    Calls Try.prog 16 #[.agg #[.int .i64 1, .int .i64 (wK n), .int .i64 (wR n), .int .i64 (wU n)], .int .i64 way] w fun e w' => e = .returned (.int .i64 (wBy way n)) ∧ Below w.heap.size w w' := by_any _ _ _ _ _ _

theorem ret_i {a b : Int} (h : a = b) : Ending.returned (.int .i64 a) = Ending.returned (.int .i64 b) := by rw [h]

def uptoR (s : ByteArray) (way n : Int) : Int := if n < 0 ∨ way < 0 ∨ 3 < way then -1 else (upto (wBy way) s.data.toList n : Int)

set_option maxHeartbeats 1000000 in
theorem upto_any (s : ByteArray) (way n : Int) (w : World) (hs : s.size ≤ 1048576) (hn : n ≤ 9223372036854775807) :
    Calls Try.prog 18 #[.string s, .int .i64 way, .int .i64 n] w fun e w' => e = .returned (.int .i64 (uptoR s way n)) ∧ Below w.heap.size w w' := by
  by_cases h0 : n < 0
  · have hv : uptoR s way n = -1 := by simp [uptoR, h0]
    rw [hv]; clear hv
    go_enter Try.func18, Try.ntmps18
    go_wp2
    go_ret
    exact ⟨rfl, Below.refl _ _⟩
  by_cases h1 : way < 0
  · have hv : uptoR s way n = -1 := by simp [uptoR, h1]
    rw [hv]; clear hv
    have h0' : decide (n < 0) = false := by simpa using h0
    clear h0
    go_enter Try.func18, Try.ntmps18
    go_wp2
    go_ret
    exact ⟨rfl, Below.refl _ _⟩
  by_cases h2 : 3 < way
  · have hv : uptoR s way n = -1 := by simp [uptoR, h2]
    rw [hv]; clear hv
    have h0' : decide (n < 0) = false := by simpa using h0
    have h1' : decide (way < 0) = false := by simpa using h1
    clear h0 h1
    go_enter Try.func18, Try.ntmps18
    go_wp2
    go_ret
    exact ⟨rfl, Below.refl _ _⟩
  have hv : uptoR s way n = (upto (wBy way) s.data.toList n : Int) := by simp [uptoR, h0, h1, h2]
  rw [hv]; clear hv
  have h0' : decide (n < 0) = false := by simpa using h0
  have h1' : decide (way < 0) = false := by simpa using h1
  have h2' : decide (3 < way) = false := by simpa using h2
  have hn0 : 0 ≤ n := by omega
  clear h0 h1 h2
  go_enter Try.func18, Try.ntmps18
  go_wp2
  go_loopw [7, 8, 9] (fun left i _ wr => ∃ (k : Nat) (r : Int), k ≤ s.size ∧ i = .int .i64 k ∧ 0 ≤ r ∧ r ≤ 9223372036854775807 ∧ left = .int .i64 r ∧ Hid ((upto (wBy way) s.data.toList n : Int) = k + upto (wBy way) (s.data.toList.drop k) r) ∧ Below w.heap.size w wr)
    (fun _ i _ _ => s.size - (intOf i).toNat)
  case atStart => exact ⟨0, n, Nat.zero_le _, rfl, hn0, hn, rfl, Lib.hid (by simp), Below.refl _ _⟩
  case round =>
    obtain ⟨k, r, hk, rfl, hr0, hr1, rfl, H, hb⟩ := hrel
    by_cases hlt : k < s.size
    · have hbt := byte_bd s k hlt
      have g := wBy_bd way (s[k].toNat : Int)
      have hd := upto_drop (wBy way) s.data.toList k (by simpa using hlt) r
      rw [show (s.data.toList[k]'(by simpa using hlt)) = s[k] from rfl] at hd
      have HD := Lib.hid hd
      clear hd
      by_cases hc : r < wBy way (s[k].toNat : Int)
      · have fin : (upto (wBy way) s.data.toList n : Int) = k := by rw [H.out, HD.out, if_pos hc]; simp
        have F := Lib.hid fin
        clear fin
        go_wp2_with fail
        refine (byteTally_any _ hbt.1 hbt.2 _).mono ?_
        rintro e w1 ⟨rfl, hb1⟩
        go_wp2_with fail
        refine (byw_any _ _ _).mono ?_
        rintro e w2 ⟨rfl, hb2⟩
        go_wp2
        go_ret
        exact ⟨ret_i F.out.symm, (hb.trans (hb1.mono hb.size)).trans (hb2.mono (Nat.le_trans hb.size hb1.size))⟩
      · have nx : (upto (wBy way) s.data.toList n : Int) = ((k + 1 : Nat) : Int) + upto (wBy way) (s.data.toList.drop (k + 1)) (r - wBy way (s[k].toNat : Int)) := by
          rw [H.out, HD.out, if_neg hc]; omega
        have N := Lib.hid nx
        clear nx
        have hc' : decide (r < wBy way (s[k].toNat : Int)) = false := by simpa using hc
        have hc2 : wBy way (s[k].toNat : Int) ≤ r := by omega
        clear hc
        go_wp2_with fail
        refine (byteTally_any _ hbt.1 hbt.2 _).mono ?_
        rintro e w1 ⟨rfl, hb1⟩
        go_wp2_with fail
        refine (byw_any _ _ _).mono ?_
        rintro e w2 ⟨rfl, hb2⟩
        go_wp2
        go_roundw
        case rel => exact ⟨k + 1, _, by omega, by go_num, by omega, by omega, rfl, N, (hb.trans (hb1.mono hb.size)).trans (hb2.mono (Nat.le_trans hb.size hb1.size))⟩
        case measure => simp [intOf]; omega
    · obtain rfl : k = s.size := by omega
      have fin : (upto (wBy way) s.data.toList n : Int) = s.size := by
        rw [H.out, List.drop_of_length_le (by simp)]; simp [upto]
      have F := Lib.hid fin
      clear fin
      go_wp2
      go_ret
      exact ⟨ret_i F.out.symm, hb⟩
end Go.Proofs.Ytpjjokpfengjnaa
