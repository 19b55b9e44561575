/- The contracts of package past at int: New, Push, Back, Forth, Many. -/
import Derived.Test.YtjmammphomijfaaTurnI
import Derived.Deep.RegionWith
namespace Go.Proofs.Ytjmammphomijfaa
open Go.RowKit

theorem newI_yes (n : Int) (h1 : 1 ≤ n) (h2 : n ≤ 100) (w : World) :
    Calls Try.prog 9 #[.int .i64 n] w fun e w' => e = .returned (.tuple #[.pointer (some ⟨w.heap.size, 0, none⟩), .int .i64 0]) ∧ w.alloc (.cells #[.int .i64 n, .slice none 0 0, .slice none 0 0] 47) = w' := by
  have a : decide (n < 1) = false := by simp; omega
  have b : decide (100 < n) = false := by simp; omega
  go_enter Try.func9, Try.ntmps9
  go_wp2
  go_ret2
  exact ⟨rfl, rfl⟩
theorem newI_no (n : Int) (h : n < 1 ∨ 100 < n) (w : World) :
    Calls Try.prog 9 #[.int .i64 n] w fun e w' => e = .returned (.tuple #[.pointer none, .int .i64 2]) ∧ w = w' := by
  by_cases a : n < 1
  · clear h
    go_enter Try.func9, Try.ntmps9
    go_wp2
    go_ret2
    exact ⟨rfl, rfl⟩
  · have b : 100 < n := by omega
    have a' : decide (n < 1) = false := by simpa using a
    clear h
    go_enter Try.func9, Try.ntmps9
    go_wp2
    go_ret2
    exact ⟨rfl, rfl⟩
theorem manyI (base : Nat) (w : World) (g : Nat) (most : Int) (bs fs : List Value) (F : Nat → Prop) (hP : PastIs 47 3 base w g most bs fs F) :
    Calls Try.prog 13 #[.pointer (some ⟨g, 0, none⟩)] w fun e w' => e = .returned (.tuple #[.int .i64 (bs.length : Int), .int .i64 (fs.length : Int)]) ∧ ∃ n, w.drewN n = w' := by
  obtain ⟨vb, va, hP⟩ := hP
  have hv : ∃ a c, vb = .slice a bs.length c := by
    rcases hP.behind with ⟨rfl, rfl⟩ | ⟨g', off, cap, cur, rfl, _⟩
    · exact ⟨_, _, rfl⟩
    · exact ⟨_, _, rfl⟩
  have hv' : ∃ a c, va = .slice a fs.length c := by
    rcases hP.ahead with ⟨rfl, rfl⟩ | ⟨g', off, cap, cur, rfl, _⟩
    · exact ⟨_, _, rfl⟩
    · exact ⟨_, _, rfl⟩
  obtain ⟨a, c, rfl⟩ := hv
  obtain ⟨a', c', rfl⟩ := hv'
  obtain ⟨c0, c1, c2⟩ := hP.cell
  clear hP
  go_enter Try.func13, Try.ntmps13
  go_wp2
  go_quiet (fail)
  go_wp2
  go_ret2
  exact ⟨rfl, _, rfl⟩

theorem backI (base : Nat) (w : World) (g : Nat) (most : Int) (bs fs : List Value) (F : Nat → Prop) (x y : Int) (hP : PastIs 47 3 base w g most (bs ++ [.int .i64 x]) fs F) (hl : bs.length ≤ 1048576) (hl2 : fs.length ≤ 1048576) :
    Calls Try.prog 11 #[.pointer (some ⟨g, 0, none⟩), .int .i64 y] w fun e w' =>
      e = .returned (.tuple #[.int .i64 x, .bool true]) ∧ Left 47 3 base w g most bs (fs ++ [.int .i64 y]) F w' := by
  have HP : PastIs 47 3 base w.drew g most (bs ++ [.int .i64 x]) fs F := hP.drew
  clear hP
  go_enter Try.func11, Try.ntmps11
  go_wp2
  go_region_with (go_at_call 19; refine (turnI_back base _ g most bs fs F x y HP hl hl2).mono ?_; rintro e w1 ⟨rfl, hL⟩)
  all_goals go_wp2
  all_goals go_ret2
  all_goals exact ⟨rfl, hL.of_drew⟩
theorem backI_none (base : Nat) (w : World) (g : Nat) (most : Int) (fs : List Value) (F : Nat → Prop) (y : Int) (hP : PastIs 47 3 base w g most [] fs F) :
    Calls Try.prog 11 #[.pointer (some ⟨g, 0, none⟩), .int .i64 y] w fun e w' =>
      e = .returned (.tuple #[.int .i64 0, .bool false]) ∧ ∃ n, w.drewN n = w' := by
  have HP : PastIs 47 3 base w.drew g most [] fs F := hP.drew
  clear hP
  go_enter Try.func11, Try.ntmps11
  go_wp2
  go_region_with (go_at_call 19; refine (turnI_back_none base _ g most fs F y HP).mono ?_; rintro e w1 ⟨rfl, rfl⟩)
  all_goals go_wp2
  all_goals go_ret2
  all_goals exact ⟨rfl, 1, rfl⟩

theorem forthI (base : Nat) (w : World) (g : Nat) (most : Int) (bs fs : List Value) (F : Nat → Prop) (x y : Int) (hP : PastIs 47 3 base w g most fs (bs ++ [.int .i64 x]) F) (hl : bs.length ≤ 1048576) (hl2 : fs.length ≤ 1048576) :
    Calls Try.prog 12 #[.pointer (some ⟨g, 0, none⟩), .int .i64 y] w fun e w' =>
      e = .returned (.tuple #[.int .i64 x, .bool true]) ∧ Left 47 3 base w g most (fs ++ [.int .i64 y]) bs F w' := by
  have HP : PastIs 47 3 base w.drew g most fs (bs ++ [.int .i64 x]) F := hP.drew
  clear hP
  go_enter Try.func12, Try.ntmps12
  go_wp2
  go_region_with (go_at_call 19; refine (turnI_forth base _ g most bs fs F x y HP hl hl2).mono ?_; rintro e w1 ⟨rfl, hL⟩)
  all_goals go_wp2
  all_goals go_ret2
  all_goals exact ⟨rfl, hL.of_drew⟩
theorem forthI_none (base : Nat) (w : World) (g : Nat) (most : Int) (fs : List Value) (F : Nat → Prop) (y : Int) (hP : PastIs 47 3 base w g most fs [] F) :
    Calls Try.prog 12 #[.pointer (some ⟨g, 0, none⟩), .int .i64 y] w fun e w' =>
      e = .returned (.tuple #[.int .i64 0, .bool false]) ∧ ∃ n, w.drewN n = w' := by
  have HP : PastIs 47 3 base w.drew g most fs [] F := hP.drew
  clear hP
  go_enter Try.func12, Try.ntmps12
  go_wp2
  go_region_with (go_at_call 19; refine (turnI_forth_none base _ g most fs F y HP).mono ?_; rintro e w1 ⟨rfl, rfl⟩)
  all_goals go_wp2
  all_goals go_ret2
  all_goals exact ⟨rfl, 1, rfl⟩
end Go.Proofs.Ytjmammphomijfaa
