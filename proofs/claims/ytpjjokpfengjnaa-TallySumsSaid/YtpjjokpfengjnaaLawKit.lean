/- What several walks of the statements share: contracts at the forms in which the statements meet them. -/
import Derived.Test.YtpjjokpfengjnaaAwake
import Derived.Test.YtpjjokpfengjnaaRupto
import Derived.BigQuiet
import Derived.OpenShut
namespace Go.Proofs.Ytpjjokpfengjnaa
open Go.RowKit Go.Sort
open M

theorem front_list (s : ByteArray) (k : Nat) : (s.extract 0 k).data.toList = s.data.toList.take k := by
  rw [ByteArray.data_extract, Array.toList_extract, List.extract_eq_take_drop, List.drop_zero, Nat.sub_zero]
theorem back_list (s : ByteArray) (k : Nat) : (s.extract k s.size).data.toList = s.data.toList.drop k := by
  rw [ByteArray.data_extract, Array.toList_extract, List.extract_eq_take_drop, List.take_of_length_le]
  simp
theorem app_list (s t : ByteArray) : (s ++ t).data.toList = s.data.toList ++ t.data.toList := by
  rw [ByteArray.data_append, Array.toList_append]

theorem of_front (s : ByteArray) (k : Nat) (hs : s.size ≤ 1048576) (w : World) :
    Calls Try.prog 12 #[.string (s.extract 0 k)] w fun e w' =>
      e = .returned (.agg #[.int .i64 (tot one (s.data.toList.take k)), .int .i64 (tot wK (s.data.toList.take k)), .int .i64 (tot wR (s.data.toList.take k)), .int .i64 (tot wU (s.data.toList.take k))]) ∧ Below w.heap.size w w' := by
  have h := of_any (s.extract 0 k) w (by rw [ByteArray.size_extract]; omega)
  rwa [front_list] at h
theorem of_back (s : ByteArray) (k : Nat) (hs : s.size ≤ 1048576) (w : World) :
    Calls Try.prog 12 #[.string (s.extract k s.size)] w fun e w' =>
      e = .returned (.agg #[.int .i64 (tot one (s.data.toList.drop k)), .int .i64 (tot wK (s.data.toList.drop k)), .int .i64 (tot wR (s.data.toList.drop k)), .int .i64 (tot wU (s.data.toList.drop k))]) ∧ Below w.heap.size w w' := by
  have h := of_any (s.extract k s.size) w (by rw [ByteArray.size_extract]; omega)
  rwa [back_list] at h
theorem by_tot (l : List UInt8) (way : Int) (w : World) :
    Calls Try.prog 16 #[.agg #[.int .i64 (tot one l), .int .i64 (tot wK l), .int .i64 (tot wR l), .int .i64 (tot wU l)], .int .i64 way] w fun e w' => e = .returned (.int .i64 (tot (wBy way) l)) ∧ Below w.heap.size w w' :=
  (by_any _ _ _ _ way w).mono fun _ _ ⟨he, hb⟩ => ⟨by rw [he, byF_tot], hb⟩
theorem uptoR_low (s : ByteArray) (way n : Int) (hn : 0 ≤ n) : uptoR s (low way 4) n = (upto (wBy (low way 4)) s.data.toList n : Int) := by
  have h := low_bd way 4 (by omega)
  unfold uptoR
  rw [if_neg (by omega)]
theorem upto_low (s : ByteArray) (x n : Int) (w : World) (hs : s.size ≤ 1048576) (h0 : 0 ≤ n) (hn : n ≤ 9223372036854775807) :
    Calls Try.prog 18 #[.string s, .int .i64 (low x 4), .int .i64 n] w fun e w' => e = .returned (.int .i64 (upto (wBy (low x 4)) s.data.toList n : Int)) ∧ Below w.heap.size w w' :=
  (upto_any s _ n w hs hn).mono fun _ _ ⟨he, hb⟩ => ⟨by rw [he, uptoR_low s x n h0], hb⟩
theorem low4_any (x : Int) (w : World) : Calls Try.prog 14 #[.int .i64 x, .int .i64 4] w fun e w' => e = .returned (.int .i64 (low x 4)) ∧ w = w' := low_any x 4 (by omega) (by omega) w
theorem awake_q (w : World) (d : Nat) (os : Array Obj) : Calls Try.prog 11 #[] (grow (redrawn w d) os) fun e w'' => e = .returned (.bool true) ∧ ∃ p : Regrown, w'' = grow (redrawn w p.d) p.os := Calls.regrown_of (awake_any _)
end Go.Proofs.Ytpjjokpfengjnaa
