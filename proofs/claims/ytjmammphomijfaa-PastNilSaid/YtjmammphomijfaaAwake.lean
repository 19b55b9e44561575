/- What every program answers that is one: 'awake' answers true; Low; the deeds at a nil past. -/
import Derived.Test.YtjmammphomijfaaOkI
namespace Go.Proofs.Ytjmammphomijfaa
open Go.RowKit

def low (x n : Int) : Int := (x % 18446744073709551616) % n
theorem low_bd (x n : Int) (h : 1 ≤ n) : 0 ≤ low x n ∧ low x n < n := by
  unfold low
  exact ⟨Int.emod_nonneg _ (by omega), Int.emod_lt_of_pos _ (by omega)⟩
theorem low_eq (x n : Int) (h1 : 1 ≤ n) (h2 : n ≤ 1048576) : wrap64 ((IntKind.u64.wrap x).tmod n) = low x n := by
  have e : IntKind.u64.wrap x = x % 18446744073709551616 := IntKind.wrap_u64 x
  have h := low_bd x n h1
  unfold low at h ⊢
  rw [e, Int.tmod_eq_emod_of_nonneg (Int.emod_nonneg _ (by omega))]
  generalize x % 18446744073709551616 % n = r at *
  unfold wrap64
  omega
theorem low_any (x n : Int) (h1 : 1 ≤ n) (h2 : n ≤ 1048576) (w : World) :
    Calls Try.prog 8 #[.int .i64 x, .int .i64 n] w fun e w' => e = .returned (.int .i64 (low x n)) ∧ w = w' := by
  go_enter Try.func8, Try.ntmps8
  go_wp2
  go_ret
  exact ⟨congrArg (fun z => Ending.returned (.int .i64 z)) (low_eq x n h1 h2), rfl⟩

theorem bt {W w1 w2 : World} (h : Below W.heap.size W w1) (h2 : Below w1.heap.size w1 w2) : Below W.heap.size W w2 := h.trans (h2.mono h.size)

theorem awake_any (w : World) : Calls Try.prog 7 #[] w fun e w' => e = .returned (.bool true) ∧ Below w.heap.size w w' := by
  have h0 := Lib.hid (Ok.new 47 3 w 2 (by decide))
  go_enter Try.func7, Try.ntmps7
  go_wp2_with fail
  refine (newI_yes 2 (by omega) (by omega) _).mono ?_
  rintro e w1 ⟨rfl, rfl⟩
  go_wp2_with fail
  refine (okPushI (bs := []) (fs := []) h0.out 1 (by simp) (by omega)).mono ?_
  rintro e w1 ⟨rfl, h1⟩
  go_wp2_with fail
  refine (okBackI (bs := []) (fs := []) 1 h1 2 (by simp) (by simp)).mono ?_
  rintro e w2 ⟨rfl, h2⟩
  go_wp2_with fail
  refine (okForthI (bs := []) (fs := []) 2 h2 1 (by simp) (by simp)).mono ?_
  rintro e w3 ⟨rfl, h3⟩
  go_wp2_with fail
  refine (okForthI_none h3 9).mono ?_
  rintro e w4 ⟨rfl, h4⟩
  go_wp2
  go_ret
  exact ⟨rfl, h4.below⟩

theorem pushI_nil (x : Int) (w : World) : Calls Try.prog 10 #[.pointer none, .int .i64 x] w fun e w' => e = .returned (.tuple #[]) ∧ w = w' := by
  go_enter Try.func10, Try.ntmps10
  go_wp2
  refine bodyPost_ret (results_none rfl _ _ _) rfl ?_
  exact ⟨rfl, rfl⟩
theorem backI_nil (x : Int) (w : World) : Calls Try.prog 11 #[.pointer none, .int .i64 x] w fun e w' => e = .returned (.tuple #[.int .i64 0, .bool false]) ∧ w = w' := by
  go_enter Try.func11, Try.ntmps11
  go_wp2
  go_ret2
  exact ⟨rfl, rfl⟩
theorem forthI_nil (x : Int) (w : World) : Calls Try.prog 12 #[.pointer none, .int .i64 x] w fun e w' => e = .returned (.tuple #[.int .i64 0, .bool false]) ∧ w = w' := by
  go_enter Try.func12, Try.ntmps12
  go_wp2
  go_ret2
  exact ⟨rfl, rfl⟩
theorem manyI_nil (w : World) : Calls Try.prog 13 #[.pointer none] w fun e w' => e = .returned (.tuple #[.int .i64 0, .int .i64 0]) ∧ w = w' := by
  go_enter Try.func13, Try.ntmps13
  go_wp2
  go_ret2
  exact ⟨rfl, rfl⟩
end Go.Proofs.Ytjmammphomijfaa
