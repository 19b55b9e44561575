/- The walk of CasingTells: whatever the text and the way, it answers true; nothing that was there has turned. -/
import Derived.Test.YtnjeicaikcnpdaaRjoin
namespace Go.Proofs.Ytnjeicaikcnpdaa.casingTells
open Go.RowKit
open M

theorem both (s : ByteArray) (way : Int) (hs : s.size ≤ 1048576) : ∃ (x : ByteArray) (k : Int),
    (∀ w, Calls Try.prog 9 #[.string s, .int .i64 way] w fun e w' => e = .returned (.tuple #[.string x, .int .i64 k]) ∧ Below w.heap.size w w') ∧
    (∀ w, Calls Try.prog 10 #[.string s, .int .i64 way] w fun e w' => e = .returned (.tuple #[.string x, .int .i64 k]) ∧ Below w.heap.size w w') :=
  ⟨_, _, fun w => turn_any s way w hs, fun w => rturn_any s way w hs⟩
theorem walk (a0 : ByteArray) (a1 : Int) (w0 : a0.size ≤ maxLen) (_w1 : (Lit.int .i64 a1).wf = true) (w : World) :
    Calls Try.prog 3 #[.string a0, .int .i64 a1] w fun e w' => e = .returned (.bool true) ∧ Below w.heap.size w w' := by
  clear _w1
  unfold maxLen at w0
  by_cases hs : 200 < a0.size
  · go_enter Try.func3, Try.ntmps3
    go_wp2_with fail
    refine (awake_any _).mono ?_
    rintro e w1 ⟨rfl, hb1⟩
    go_wp2
    go_ret
    exact ⟨rfl, hb1⟩
  have hs' : decide (200 < (a0.size : Int)) = false := by simp; omega
  obtain ⟨K, hK, hk0, hk5⟩ : ∃ K : Int, low a1 5 = K ∧ 0 ≤ K ∧ K < 5 := ⟨_, rfl, low_bd a1 5 (by omega)⟩
  have HK := Lib.hid hK
  clear hK
  obtain ⟨x, p, A1, A2⟩ := both a0 a1 (by omega)
  obtain ⟨y, q, B1, B2⟩ := both a0 (1 + K) (by omega)
  have HA1 := Lib.hid A1
  have HA2 := Lib.hid A2
  have HB1 := Lib.hid B1
  have HB2 := Lib.hid B2
  clear A1 A2 B1 B2
  go_enter Try.func3, Try.ntmps3
  go_wp2_with fail
  refine (HA1.out _).mono ?_
  rintro e w1 ⟨rfl, hb1⟩
  go_wp2_with fail
  refine (HA2.out _).mono ?_
  rintro e w2 ⟨rfl, hb2⟩
  go_wp2_with fail
  refine (low_any a1 5 (by omega) (by omega) _).mono ?_
  rw [HK.out]
  rintro e w3 ⟨rfl, rfl⟩
  go_wp2_with fail
  refine (HB1.out _).mono ?_
  rintro e w3 ⟨rfl, hb3⟩
  go_wp2_with fail
  refine (low_any a1 5 (by omega) (by omega) _).mono ?_
  rw [HK.out]
  rintro e w4 ⟨rfl, rfl⟩
  go_wp2_with fail
  refine (HB2.out _).mono ?_
  rintro e w4 ⟨rfl, hb4⟩
  go_wp2_with fail
  refine (awake_any _).mono ?_
  rintro e w5 ⟨rfl, hb5⟩
  go_wp2
  go_ret
  exact ⟨rfl, bt (bt (bt (bt hb1 hb2) hb3) hb4) hb5⟩
end Go.Proofs.Ytnjeicaikcnpdaa.casingTells
