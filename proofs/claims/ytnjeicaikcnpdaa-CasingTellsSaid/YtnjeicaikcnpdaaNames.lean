/- What Name and Way hand back, the program's and the reference's; 'awake' answers true. -/
import Derived.Test.YtnjeicaikcnpdaaTurn
namespace Go.Proofs.Ytnjeicaikcnpdaa
open Go.RowKit
open M

def nm (way : Int) : List UInt8 :=
  if way = 1 then [117, 112, 99, 97, 115, 101] else if way = 2 then [100, 111, 119, 110, 99, 97, 115, 101] else if way = 3 then [99, 97, 112, 105, 116, 97, 108, 105, 122, 101]
  else if way = 4 then [99, 97, 109, 101, 108, 99, 97, 115, 101] else if way = 5 then [112, 97, 115, 99, 97, 108, 99, 97, 115, 101] else []
/-- A way's name. -/
def Nb (way : Int) : ByteArray := ⟨(nm way).toArray⟩
/-- A name's way. -/
def wy (s : ByteArray) : Int := if s = Nb 1 then 1 else if s = Nb 2 then 2 else if s = Nb 3 then 3 else if s = Nb 4 then 4 else if s = Nb 5 then 5 else 0
theorem ret_s {a b : ByteArray} (h : a = b) : Ending.returned (.string a) = Ending.returned (.string b) := by rw [h]
theorem ret_i {a b : Int} (h : a = b) : Ending.returned (.int .i64 a) = Ending.returned (.int .i64 b) := by rw [h]
theorem Nb_none (way : Int) (h : way < 1 ∨ 5 < way) : Nb way = ⟨#[]⟩ := by
  unfold Nb nm
  rw [if_neg (by omega), if_neg (by omega), if_neg (by omega), if_neg (by omega), if_neg (by omega)]

theorem name_any (way : Int) (w : World) : Calls Try.prog 12 #[.int .i64 way] w fun e w' => e = .returned (.string (Nb way)) ∧ Below w.heap.size w w' := by
  by_cases h1 : way < 1
  · rw [Nb_none way (.inl h1)]
    go_enter Try.func12, Try.ntmps12
    go_wp2
    go_ret
    exact ⟨rfl, Below.refl _ _⟩
  by_cases h2 : 5 < way
  · rw [Nb_none way (.inr h2)]
    have h1' : decide (way < 1) = false := by simpa using h1
    clear h1
    go_enter Try.func12, Try.ntmps12
    go_wp2
    go_ret
    exact ⟨rfl, Below.refl _ _⟩
  have h5 : way = 1 ∨ way = 2 ∨ way = 3 ∨ way = 4 ∨ way = 5 := by omega
  rcases h5 with rfl | rfl | rfl | rfl | rfl
  all_goals
    go_enter Try.func12, Try.ntmps12
    go_wp2
    go_ret
    exact ⟨rfl, (Below.refl _ _).alloc (Nat.le_refl _) _⟩
theorem rname_any (way : Int) (w : World) : Calls Try.prog 13 #[.int .i64 way] w fun e w' => e = .returned (.string (Nb way)) ∧ Below w.heap.size w w' := by
  by_cases h : way < 1 ∨ 5 < way
  · rw [Nb_none way h]
    have e1 : (way == 1) = false := by simp only [beq_eq_false_iff_ne]; omega
    have e2 : (way == 2) = false := by simp only [beq_eq_false_iff_ne]; omega
    have e3 : (way == 3) = false := by simp only [beq_eq_false_iff_ne]; omega
    have e4 : (way == 4) = false := by simp only [beq_eq_false_iff_ne]; omega
    have e5 : (way == 5) = false := by simp only [beq_eq_false_iff_ne]; omega
    clear h
    go_enter Try.func13, Try.ntmps13
    go_wp2
    go_ret
    exact ⟨rfl, Below.refl _ _⟩
  · have h5 : way = 1 ∨ way = 2 ∨ way = 3 ∨ way = 4 ∨ way = 5 := by omega
    rcases h5 with rfl | rfl | rfl | rfl | rfl
    all_goals
      go_enter Try.func13, Try.ntmps13
      go_wp2
      go_ret
      exact ⟨rfl, Below.refl _ _⟩
/-- No name below k is s. -/
def NoneTo (s : ByteArray) (k : Int) : Prop := ∀ j : Int, 1 ≤ j → j < k → s ≠ Nb j
theorem wy_hit (s : ByteArray) (k : Int) (h1 : 1 ≤ k) (h2 : k ≤ 5) (h : NoneTo s k) (he : s = Nb k) : wy s = k := by
  have h5 : k = 1 ∨ k = 2 ∨ k = 3 ∨ k = 4 ∨ k = 5 := by omega
  unfold wy
  rcases h5 with rfl | rfl | rfl | rfl | rfl
  · rw [if_pos he]
  · rw [if_neg (h 1 (by omega) (by omega)), if_pos he]
  · rw [if_neg (h 1 (by omega) (by omega)), if_neg (h 2 (by omega) (by omega)), if_pos he]
  · rw [if_neg (h 1 (by omega) (by omega)), if_neg (h 2 (by omega) (by omega)), if_neg (h 3 (by omega) (by omega)), if_pos he]
  · rw [if_neg (h 1 (by omega) (by omega)), if_neg (h 2 (by omega) (by omega)), if_neg (h 3 (by omega) (by omega)), if_neg (h 4 (by omega) (by omega)), if_pos he]
theorem wy_miss (s : ByteArray) (h : NoneTo s 6) : wy s = 0 := by
  unfold wy
  rw [if_neg (h 1 (by omega) (by omega)), if_neg (h 2 (by omega) (by omega)), if_neg (h 3 (by omega) (by omega)), if_neg (h 4 (by omega) (by omega)), if_neg (h 5 (by omega) (by omega))]
theorem NoneTo.next {s : ByteArray} {k : Int} (h : NoneTo s k) (he : s ≠ Nb k) : NoneTo s (k + 1) := by
  intro j h1 h2
  by_cases hj : j = k
  · subst hj; exact he
  · exact h j h1 (by omega)
theorem toList_ne {a b : ByteArray} (h : b ≠ a) : (a.toList == b.toList) = false := by
  rw [beq_eq_false_iff_ne]
  intro he
  rw [Lib.toList_data, Lib.toList_data] at he
  obtain ⟨⟨l⟩⟩ := a
  obtain ⟨⟨m⟩⟩ := b
  have he' : l = m := he
  exact h (by rw [he'])
set_option maxHeartbeats 1000000 in
theorem way_any (s : ByteArray) (w : World) : Calls Try.prog 14 #[.string s] w fun e w' => e = .returned (.int .i64 (wy s)) ∧ Below w.heap.size w w' := by
  go_enter Try.func14, Try.ntmps14
  go_wp2
  go_loopw [3] (fun i wr => ∃ k : Nat, 1 ≤ k ∧ k ≤ 6 ∧ i = .int .i64 k ∧ NoneTo s k ∧ Below w.heap.size w wr) (fun i _ => 6 - (intOf i).toNat)
  case atStart => exact ⟨1, by omega, by omega, rfl, fun j h1 h2 => by omega, Below.refl _ _⟩
  case round =>
    obtain ⟨k, hk1, hk, rfl, hN, hb⟩ := hrel
    by_cases hlt : k ≤ 5
    · by_cases he : s = Nb (k : Int)
      · have hw := Lib.hid (wy_hit s k (by omega) (by omega) hN he)
        have HE := Lib.hid he
        clear hN he
        go_wp2_with fail
        refine (name_any _ _).mono ?_
        rw [← HE.out]
        rintro e w1 ⟨rfl, hb1⟩
        go_wp2
        go_ret
        exact ⟨ret_i hw.out.symm, hb.trans (hb1.mono hb.size)⟩
      · have hne := toList_ne he
        have hn := Lib.hid (hN.next he)
        clear hN he
        go_wp2_with fail
        refine (name_any _ _).mono ?_
        rintro e w1 ⟨rfl, hb1⟩
        go_wp2
        go_roundw
        case rel => exact ⟨k + 1, by omega, by omega, by go_num, by rw [show ((k + 1 : Nat) : Int) = (k : Int) + 1 by omega]; exact hn.out, hb.trans (hb1.mono hb.size)⟩
        case measure => simp [intOf]; omega
    · obtain rfl : k = 6 := by omega
      have hw := Lib.hid (wy_miss s hN)
      clear hN
      go_wp2
      go_ret
      exact ⟨ret_i hw.out.symm, hb⟩
set_option maxHeartbeats 1000000 in
theorem rway_any (s : ByteArray) (w : World) : Calls Try.prog 15 #[.string s] w fun e w' => e = .returned (.int .i64 (wy s)) ∧ Below w.heap.size w w' := by
  go_enter Try.func15, Try.ntmps15
  go_wp2
  go_loopw [3] (fun i wr => ∃ k : Nat, 1 ≤ k ∧ k ≤ 6 ∧ i = .int .i64 k ∧ NoneTo s k ∧ Below w.heap.size w wr) (fun i _ => 6 - (intOf i).toNat)
  case atStart => exact ⟨1, by omega, by omega, rfl, fun j h1 h2 => by omega, Below.refl _ _⟩
  case round =>
    obtain ⟨k, hk1, hk, rfl, hN, hb⟩ := hrel
    by_cases hlt : k ≤ 5
    · by_cases he : s = Nb (k : Int)
      · have hw := Lib.hid (wy_hit s k (by omega) (by omega) hN he)
        have HE := Lib.hid he
        clear hN he
        go_wp2_with fail
        refine (rname_any _ _).mono ?_
        rw [← HE.out]
        rintro e w1 ⟨rfl, hb1⟩
        go_wp2
        go_ret
        exact ⟨ret_i hw.out.symm, hb.trans (hb1.mono hb.size)⟩
      · have hne := toList_ne he
        have hn := Lib.hid (hN.next he)
        clear hN he
        go_wp2_with fail
        refine (rname_any _ _).mono ?_
        rintro e w1 ⟨rfl, hb1⟩
        go_wp2
        go_roundw
        case rel => exact ⟨k + 1, by omega, by omega, by go_num, by rw [show ((k + 1 : Nat) : Int) = (k : Int) + 1 by omega]; exact hn.out, hb.trans (hb1.mono hb.size)⟩
        case measure => simp [intOf]; omega
    · obtain rfl : k = 6 := by omega
      have hw := Lib.hid (wy_miss s hN)
      clear hN
      go_wp2
      go_ret
      exact ⟨ret_i hw.out.symm, hb⟩

theorem wy_Nb (k : Int) (h1 : 1 ≤ k) (h2 : k ≤ 5) : wy (Nb k) = k := by
  have h5 : k = 1 ∨ k = 2 ∨ k = 3 ∨ k = 4 ∨ k = 5 := by omega
  rcases h5 with rfl | rfl | rfl | rfl | rfl <;> decide
theorem Nb_wy (s : ByteArray) (h : wy s ≠ 0) : Nb (wy s) = s := by
  unfold wy at h ⊢
  repeat' split
  all_goals first | (simp_all; done) | (rename_i h1; exact h1.symm)
theorem turn_c1 : turn [102, 111, 111, 45, 66, 97, 114, 95, 120] 5 = [70, 111, 111, 66, 97, 114, 88] := by decide
theorem turn_c2 : turn [70, 111, 111, 32, 98, 97, 114] 4 = [102, 111, 111, 66, 97, 114] := by decide
theorem size_c1 : (ByteArray.mk #[102, 111, 111, 45, 66, 97, 114, 95, 120]).size ≤ 1048576 := by rw [show (ByteArray.mk #[102, 111, 111, 45, 66, 97, 114, 95, 120]).size = 9 from rfl]; decide
theorem size_c2 : (ByteArray.mk #[70, 111, 111, 32, 98, 97, 114]).size ≤ 1048576 := by rw [show (ByteArray.mk #[70, 111, 111, 32, 98, 97, 114]).size = 7 from rfl]; decide
theorem way_c : wy ⟨#[99, 97, 112, 105, 116, 97, 108, 105, 122, 101]⟩ = 3 := by decide
theorem bt {W w1 w2 : World} (h : Below W.heap.size W w1) (h2 : Below w1.heap.size w1 w2) : Below W.heap.size W w2 := h.trans (h2.mono h.size)
theorem awake_any (w : World) : Calls Try.prog 8 #[] w fun e w' => e = .returned (.bool true) ∧ Below w.heap.size w w' := by
  have T1 : ∀ W, Calls Try.prog 9 #[.string ⟨#[102, 111, 111, 45, 66, 97, 114, 95, 120]⟩, .int .i64 5] W fun e w' => e = .returned (.tuple #[.string ⟨#[70, 111, 111, 66, 97, 114, 88]⟩, .int .i64 0]) ∧ Below W.heap.size W w' := fun W =>
    (turn_any ⟨#[102, 111, 111, 45, 66, 97, 114, 95, 120]⟩ 5 W size_c1).mono fun e w' ⟨he, hb⟩ => ⟨by rw [he]; exact ret2 (l' := [70, 111, 111, 66, 97, 114, 88]) turn_c1 (by decide), hb⟩
  have T2 : ∀ W, Calls Try.prog 9 #[.string ⟨#[70, 111, 111, 32, 98, 97, 114]⟩, .int .i64 4] W fun e w' => e = .returned (.tuple #[.string ⟨#[102, 111, 111, 66, 97, 114]⟩, .int .i64 0]) ∧ Below W.heap.size W w' := fun W =>
    (turn_any ⟨#[70, 111, 111, 32, 98, 97, 114]⟩ 4 W size_c2).mono fun e w' ⟨he, hb⟩ => ⟨by rw [he]; exact ret2 (l' := [102, 111, 111, 66, 97, 114]) turn_c2 (by decide), hb⟩
  have H1 := Lib.hid T1
  have H2 := Lib.hid T2
  clear T1 T2
  go_enter Try.func8, Try.ntmps8
  go_wp2_with fail
  refine (H1.out _).mono ?_
  rintro e w1 ⟨rfl, hb1⟩
  go_wp2_with fail
  refine (H2.out _).mono ?_
  rintro e w2 ⟨rfl, hb2⟩
  go_wp2_with fail
  refine (way_any _ _).mono ?_
  rw [way_c]
  rintro e w3 ⟨rfl, hb3⟩
  go_wp2_with fail
  refine (name_any _ _).mono ?_
  rintro e w4 ⟨rfl, hb4⟩
  rw [show Nb 1 = ⟨#[117, 112, 99, 97, 115, 101]⟩ from rfl]
  go_wp2
  go_ret
  exact ⟨rfl, bt (bt (bt hb1 hb2) hb3) hb4⟩
end Go.Proofs.Ytnjeicaikcnpdaa
