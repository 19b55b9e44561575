/- What vars.word hands back at a text's beginning. -/
import Derived.Test.YtkeckbmhaplkpaaGreatDoorChecked
import Derived.WalkKit
import Derived.WalkSpells
import Derived.Lib.Hide
import Derived.Lib.QuietBelow
namespace Go.Proofs.YtkeckbmhaplkpaaGreatDoor.Wd
open Go Go.RowKit Go.Sort

/-- Is a byte one of a word? -/
def isN (n : Int) : Bool := decide (97 ≤ n ∧ n ≤ 122 ∨ 65 ≤ n ∧ n ≤ 90 ∨ 48 ≤ n ∧ n ≤ 57 ∨ n = 95)
def isW (n : Int) : Bool := isN n || decide (128 ≤ n)
theorem name_any (n : Int) (w : World) : Calls Tryz.prog 79 #[.int .u8 n] w fun e w' => e = .returned (.bool (isN n)) ∧ w = w' := by
  go_enter Tryz.func79, Tryz.ntmps79
  go_wp2
  all_goals
    refine bodyPost_ret (results_tmp rfl _ _ _) rfl ⟨?_, rfl⟩
    refine congrArg (fun b => Ending.returned (.bool b)) ?_
    rw [Bool.eq_iff_iff]
    simp only [isN, decide_eq_true_eq]
    simp
    try omega
theorem byte_any (n : Int) (w : World) : Calls Tryz.prog 266 #[.int .u8 n] w fun e w' => e = .returned (.bool (isW n)) ∧ w = w' := by
  have hw : isW n = (isN n || decide (128 ≤ n)) := rfl
  rw [hw]
  cases hb : isN n
  · go_enter Tryz.func266, Tryz.ntmps266
    go_wp2_with fail
    refine (name_any _ _).mono ?_
    rw [hb]
    rintro e w1 ⟨rfl, rfl⟩
    go_wp2
    all_goals
      refine bodyPost_ret (results_tmp rfl _ _ _) rfl ⟨?_, rfl⟩
      refine congrArg (fun b => Ending.returned (.bool b)) ?_
      rw [Bool.eq_iff_iff]
      simp
      try omega
  · go_enter Tryz.func266, Tryz.ntmps266
    go_wp2_with fail
    refine (name_any _ _).mono ?_
    rw [hb]
    rintro e w1 ⟨rfl, rfl⟩
    go_wp2
    all_goals
      refine bodyPost_ret (results_tmp rfl _ _ _) rfl ⟨?_, rfl⟩
      refine congrArg (fun b => Ending.returned (.bool b)) ?_
      simp
theorem byte_bd (s : ByteArray) (k : Nat) (h : k < s.size) : 0 ≤ ((s[k]).toNat : Int) ∧ ((s[k]).toNat : Int) ≤ 255 := by
  have := (s[k]).toNat_lt
  omega
/-- Behind as many bytes: the first one, if there is one behind which it stands, is one of a word. -/
def Fst (s : ByteArray) (k : Nat) : Prop := 0 < k → ∃ h : 0 < s.size, isW ((s[0]).toNat : Int) = true
theorem word_any (s : ByteArray) (w : World) (hs : s.size ≤ 1048576) : Calls Tryz.prog 218 #[.string s, .int .i64 0] w fun e w' =>
    (∃ k : Nat, k ≤ s.size ∧ e = .returned (.string (s.extract 0 k)) ∧ Fst s k ∧ (k = 0 → ∀ h : 0 < s.size, isW ((s[0]).toNat : Int) = false)) ∧ Below w.heap.size w w' := by
  go_enter Tryz.func218, Tryz.ntmps218
  go_wp2
  go_loopw [5] (fun i wr => i = .int .i64 0 ∧ w = wr) (fun _ _ => 0)
  case atStart => exact ⟨rfl, rfl⟩
  case round =>
    obtain ⟨rfl, rfl⟩ := hrel
    go_wp2
    go_loopw [6] (fun i wr => ∃ k : Nat, k ≤ s.size ∧ i = .int .i64 k ∧ Hid (Fst s k) ∧ w = wr) (fun i _ => s.size - (intOf i).toNat)
    case atStart => exact ⟨0, Nat.zero_le _, rfl, Lib.hid fun h => absurd h (by omega), rfl⟩
    case round =>
      obtain ⟨k, hk, rfl, hF, rfl⟩ := hrel
      by_cases hlt : k < s.size
      · have hbt := byte_bd s k hlt
        cases hb : isW ((s[k]).toNat : Int)
        · have H := Lib.hid hb
          clear hb
          go_wp2_with fail
          refine (byte_any _ _).mono ?_
          rw [H.out]
          rintro e w1 ⟨rfl, rfl⟩
          go_wp2
          go_ret
          refine ⟨⟨k, by omega, by first | rfl | simp, hF.out, fun hk0 h => ?_⟩, Below.refl _ _⟩
          subst hk0
          exact H.out
        · have H := Lib.hid hb
          clear hb
          go_wp2_with fail
          refine (byte_any _ _).mono ?_
          rw [H.out]
          rintro e w1 ⟨rfl, rfl⟩
          go_wp2
          go_roundw
          case rel =>
            refine ⟨k + 1, by omega, by go_num, Lib.hid fun _ => ⟨by omega, ?_⟩, trivial⟩
            by_cases h0 : k = 0
            · subst h0; exact H.out
            · obtain ⟨_, h2⟩ := hF.out (by omega)
              exact h2
          case measure => simp [intOf]; omega
      · obtain rfl : k = s.size := by omega
        go_wp2
        go_ret
        refine ⟨⟨s.size, by omega, by first | rfl | simp, hF.out, fun hk0 h => absurd h (by omega)⟩, Below.refl _ _⟩
end Go.Proofs.YtkeckbmhaplkpaaGreatDoor.Wd
