/- PastWalks in plain lists: what is kept behind after so many pushes, what lies behind and ahead so many steps back. -/
import Derived.Test.YtjmammphomijfaaOkS
import Derived.Test.YtjmammphomijfaaRowIs
namespace Go.Proofs.Ytjmammphomijfaa.pastWalks
open Go.RowKit

def sg (ss : List ByteArray) (i : Nat) : ByteArray := ss.getD i ByteArray.empty
/-- What is behind when the first k have been pushed, N kept at most. -/
def kept (ss : List ByteArray) (N k : Nat) : List ByteArray := (ss.take k).drop (k - N)
/-- What is behind, L there at first, j steps back. -/
def back (ss : List ByteArray) (N L j : Nat) : List ByteArray := (ss.take (L - j)).drop (L - N)
/-- What is ahead, j steps back. -/
def fore (ss : List ByteArray) (L j : Nat) : List ByteArray := (ss.drop (L + 1 - j)).reverse

theorem sg_get (ss : List ByteArray) (i : Nat) (h : i < ss.length) : sg ss i = ss[i] := by simp [sg, List.getD_eq_getElem?_getD, List.getElem?_eq_getElem h]
theorem take_one (ss : List ByteArray) (k : Nat) (h : k < ss.length) : ss.take (k + 1) = ss.take k ++ [sg ss k] := by
  rw [List.take_succ_eq_append_getElem h, sg_get ss k h]
theorem kept_length (ss : List ByteArray) (N k : Nat) (h : k ≤ ss.length) : (kept ss N k).length = min N k := by
  simp [kept]; omega
theorem kept_succ (ss : List ByteArray) (N k : Nat) (hN : 1 ≤ N) (h : k < ss.length) : pushed (N : Int) (kept ss N k) (sg ss k) = kept ss N (k + 1) := by
  have hl := kept_length ss N k (by omega)
  unfold pushed
  rw [hl]
  by_cases hk : k + 1 ≤ N
  · rw [if_pos (by omega)]
    unfold kept
    rw [show k - N = 0 by omega, show k + 1 - N = 0 by omega, List.drop_zero, List.drop_zero, take_one ss k h]
  · rw [if_neg (by omega)]
    unfold kept
    rw [take_one ss k h, List.drop_append_of_le_length (by simp; omega), List.tail_drop]
    congr 2
    omega
theorem back_zero (ss : List ByteArray) (N L : Nat) : back ss N L 0 = kept ss N L := rfl
theorem back_snoc (ss : List ByteArray) (N L j q : Nat) (hq : j + (q + 1) = L) (hN : j < N) (h : L < ss.length) : back ss N L j = back ss N L (j + 1) ++ [sg ss q] := by
  unfold back
  rw [show L - j = q + 1 by omega, show L - (j + 1) = q by omega, take_one ss q (by omega), List.drop_append_of_le_length (by simp; omega)]
theorem fore_zero (ss : List ByteArray) (L : Nat) (h : ss.length = L + 1) : fore ss L 0 = [] := by
  unfold fore
  rw [List.drop_of_length_le (by omega)]
  rfl
theorem fore_snoc (ss : List ByteArray) (L j q : Nat) (hq : j + q = L) (h : ss.length = L + 1) : fore ss L (j + 1) = fore ss L j ++ [sg ss q] := by
  unfold fore
  rw [show L + 1 - (j + 1) = q by omega, show L + 1 - j = q + 1 by omega, List.drop_eq_getElem_cons (by omega), List.reverse_cons, sg_get ss q (by omega)]
theorem back_length (ss : List ByteArray) (N L j : Nat) : (back ss N L j).length ≤ L := by
  unfold back
  simp; omega
theorem fore_length (ss : List ByteArray) (L j : Nat) (h : ss.length = L + 1) : (fore ss L j).length ≤ L + 1 := by
  unfold fore
  simp; omega
end Go.Proofs.Ytjmammphomijfaa.pastWalks
