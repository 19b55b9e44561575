/- The contracts of package past at string: New, Push, Back, Forth, Many. -/
import Derived.Test.YtjmammphomijfaaTurnS
import Derived.Deep.RegionWith
namespace Go.Proofs.Ytjmammphomijfaa
open Go.RowKit

theorem newS_yes (n : Int) (h1 : 1 ≤ n) (h2 : n ≤ 100) (w : World) :
    Calls Try.prog 14 #[.int .i64 n] w fun e w' => e = .returned (.tuple #[.pointer (some ⟨w.heap.size, 0, none⟩), .int .i64 0]) ∧ w.alloc (.cells #[.int .i64 n, .slice none 0 0, .slice none 0 0] 51) = w' := by
  have a : decide (n < 1) = false := by simp; omega
  have b : decide (100 < n) = false := by simp; omega
  go_enter Try.func14, Try.ntmps14
  go_wp2
  go_ret2
  exact ⟨rfl, rfl⟩
theorem newS_no (n : Int) (h : n < 1 ∨ 100 < n) (w : World) :
    Calls Try.prog 14 #[.int .i64 n] w fun e w' => e = .returned (.tuple #[.pointer none, .int .i64 2]) ∧ w = w' := by
  by_cases a : n < 1
  · clear h
    go_enter Try.func14, Try.ntmps14
    go_wp2
    go_ret2
    exact ⟨rfl, rfl⟩
  · have b : 100 < n := by omega
    have a' : decide (n < 1) = false := by simpa using a
    clear h
    go_enter Try.func14, Try.ntmps14
    go_wp2
    go_ret2
    exact ⟨rfl, rfl⟩
theorem manyS (base : Nat) (w : World) (g : Nat) (most : Int) (bs fs : List Value) (F : Nat → Prop) (hP : PastIs 51 9 base w g most bs fs F) :
    Calls Try.prog 18 #[.pointer (some ⟨g, 0, none⟩)] w fun e w' => e = .returned (.tuple #[.int .i64 (bs.length : Int), .int .i64 (fs.length : Int)]) ∧ ∃ n, w.drewN n = w' := by
  obtain ⟨vb, va, hP⟩ := hP
  have hv : ∃ a c, vb = .slice a bs.length c := by
    rcases hP.behind with ⟨rfl, rfl⟩ | ⟨g', off, cap, cur, rfl, _⟩
    · exact ⟨_, _, rfl⟩
    · exact ⟨_, _, rfl⟩
  have hv' : ∃ a c, va = .slice a fs.length c := by
    rcases hP.ahead with ⟨rfl, rfl⟩ | ⟨g', off, cap, cur, rfl, _⟩
    · exact ⟨_, _, rfl⟩
    · exact ⟨_, _, rfl⟩
  obtain ⟨a, c, rfl⟩ := hv
  obtain ⟨a', c', rfl⟩ := hv'
  obtain ⟨c0, c1, c2⟩ := hP.cell
  clear hP
  go_enter Try.func18, Try.ntmps18
  go_wp2
  go_quiet (fail)
  go_wp2
  go_ret2
  exact ⟨rfl, _, rfl⟩

theorem backS (base : Nat) (w : World) (g : Nat) (most : Int) (bs fs : List Value) (F : Nat → Prop) (x y : ByteArray) (hP : PastIs 51 9 base w g most (bs ++ [.string x]) fs F) (hl : bs.length ≤ 1048576) (hl2 : fs.length ≤ 1048576) :
    Calls Try.prog 16 #[.pointer (some ⟨g, 0, none⟩), .string y] w fun e w' =>
      e = .returned (.tuple #[.string x, .bool true]) ∧ Left 51 9 base w g most bs (fs ++ [.string y]) F w' := by
  have HP : PastIs 51 9 base w.drew g most (bs ++ [.string x]) fs F := hP.drew
  clear hP
  go_enter Try.func16, Try.ntmps16
  go_wp2
  go_region_with (go_at_call 20; refine (turnS_back base _ g most bs fs F x y HP hl hl2).mono ?_; rintro e w1 ⟨rfl, hL⟩)
  all_goals go_wp2
  all_goals go_ret2
  all_goals exact ⟨rfl, hL.of_drew⟩
theorem backS_none (base : Nat) (w : World) (g : Nat) (most : Int) (fs : List Value) (F : Nat → Prop) (y : ByteArray) (hP : PastIs 51 9 base w g most [] fs F) :
    Calls Try.prog 16 #[.pointer (some ⟨g, 0, none⟩), .string y] w fun e w' =>
      e = .returned (.tuple #[.string ⟨#[]⟩, .bool false]) ∧ ∃ n, w.drewN n = w' := by
  have HP : PastIs 51 9 base w.drew g most [] fs F := hP.drew
  clear hP
  go_enter Try.func16, Try.ntmps16
  go_wp2
  go_region_with (go_at_call 20; refine (turnS_back_none base _ g most fs F y HP).mono ?_; rintro e w1 ⟨rfl, rfl⟩)
  all_goals go_wp2
  all_goals go_ret2
  all_goals exact ⟨rfl, 1, rfl⟩

theorem forthS (base : Nat) (w : World) (g : Nat) (most : Int) (bs fs : List Value) (F : Nat → Prop) (x y : ByteArray) (hP : PastIs 51 9 base w g most fs (bs ++ [.string x]) F) (hl : bs.length ≤ 1048576) (hl2 : fs.length ≤ 1048576) :
    Calls Try.prog 17 #[.pointer (some ⟨g, 0, none⟩), .string y] w fun e w' =>
      e = .returned (.tuple #[.string x, .bool true]) ∧ Left 51 9 base w g most (fs ++ [.string y]) bs F w' := by
  have HP : PastIs 51 9 base w.drew g most fs (bs ++ [.string x]) F := hP.drew
  clear hP
  go_enter Try.func17, Try.ntmps17
  go_wp2
  go_region_with (go_at_call 20; refine (turnS_forth base _ g most bs fs F x y HP hl hl2).mono ?_; rintro e w1 ⟨rfl, hL⟩)
  all_goals go_wp2
  all_goals go_ret2
  all_goals exact ⟨rfl, hL.of_drew⟩
theorem forthS_none (base : Nat) (w : World) (g : Nat) (most : Int) (fs : List Value) (F : Nat → Prop) (y : ByteArray) (hP : PastIs 51 9 base w g most fs [] F) :
    Calls Try.prog 17 #[.pointer (some ⟨g, 0, none⟩), .string y] w fun e w' =>
      e = .returned (.tuple #[.string ⟨#[]⟩, .bool false]) ∧ ∃ n, w.drewN n = w' := by
  have HP : PastIs 51 9 base w.drew g most fs [] F := hP.drew
  clear hP
  go_enter Try.func17, Try.ntmps17
  go_wp2
  go_region_with (go_at_call 20; refine (turnS_forth_none base _ g most fs F y HP).mono ?_; rintro e w1 ⟨rfl, rfl⟩)
  all_goals go_wp2
  all_goals go_ret2
  all_goals exact ⟨rfl, 1, rfl⟩
end Go.Proofs.Ytjmammphomijfaa
