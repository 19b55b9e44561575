/- The walk of PastTells: whatever the number and the deeds, it answers true; nothing that was there has turned. -/
import Derived.Test.YtjmammphomijfaaTellsYes
import Derived.Test.YtjmammphomijfaaTellsLow
import Derived.Test.YtjmammphomijfaaTellsHigh
namespace Go.Proofs.Ytjmammphomijfaa.pastTells
open Go.RowKit

set_option maxRecDepth 100000 in
set_option maxHeartbeats 2000000 in
theorem walk_none (a0 : Int) (ao : Option Addr) (cap0 : Nat) (w : World) : Calls Try.prog 3 #[.int .i64 a0, .slice ao 0 cap0] w fun e w' => e = .returned (.bool true) ∧ Below w.heap.size w w' := by
  obtain ⟨m, hM, hm1, hm2⟩ : ∃ m : Int, low a0 100 = m ∧ 0 ≤ m ∧ m ≤ 99 := by
    have h := low_bd a0 100 (by omega)
    exact ⟨_, rfl, by omega, by omega⟩
  have HM := Lib.hid hM
  clear hM
  by_cases hy : 1 ≤ a0 ∧ a0 ≤ 100
  · obtain ⟨hv1, hv2⟩ := hy
    go_enter Try.func3, Try.ntmps3
    go_wp2_with fail
    refine (low_any _ 100 (by omega) (by omega) _).mono ?_
    rw [HM.out]
    rintro e w1 ⟨rfl, rfl⟩
    go_wp2_with fail
    refine (newI_yes (1 + m) (by omega) (by omega) _).mono ?_
    rintro e w1 ⟨rfl, rfl⟩
    go_wp2_with fail
    refine (newI_yes a0 hv1 hv2 _).mono ?_
    rintro e w1 ⟨rfl, rfl⟩
    go_wp2
    go_loopw [12] (fun i wr => i = .int .i64 0 ∧ Below w.heap.size w wr) (fun _ _ => 0)
    case atStart => exact ⟨rfl, (St.new w (1 + m) _).2⟩
    case round =>
      obtain ⟨rfl, hb⟩ := hrel
      go_wp2_with fail
      refine (awake_any _).mono ?_
      rintro e w2 ⟨rfl, hb2⟩
      go_wp2
      go_ret
      exact ⟨rfl, bt hb hb2⟩
  · by_cases hv1 : 1 ≤ a0
    · have hv2 : decide (a0 ≤ 100) = false := by simp; omega
      clear hy
      go_enter Try.func3, Try.ntmps3
      go_wp2_with fail
      refine (low_any _ 100 (by omega) (by omega) _).mono ?_
      rw [HM.out]
      rintro e w1 ⟨rfl, rfl⟩
      go_wp2_with fail
      refine (newI_yes (1 + m) (by omega) (by omega) _).mono ?_
      rintro e w1 ⟨rfl, rfl⟩
      go_wp2_with fail
      refine (newI_no a0 (by simp at hv2; omega) _).mono ?_
      rintro e w1 ⟨rfl, rfl⟩
      go_wp2
      go_loopw [12] (fun i wr => i = .int .i64 0 ∧ Below w.heap.size w wr) (fun _ _ => 0)
      case atStart => exact ⟨rfl, (St.new' w (1 + m)).2⟩
      case round =>
        obtain ⟨rfl, hb⟩ := hrel
        go_wp2_with fail
        refine (awake_any _).mono ?_
        rintro e w2 ⟨rfl, hb2⟩
        go_wp2
        go_ret
        exact ⟨rfl, bt hb hb2⟩
    · have hv2 : decide (1 ≤ a0) = false := by simpa using hv1
      have hv3 : a0 < 1 := by omega
      clear hy hv1
      go_enter Try.func3, Try.ntmps3
      go_wp2_with fail
      refine (low_any _ 100 (by omega) (by omega) _).mono ?_
      rw [HM.out]
      rintro e w1 ⟨rfl, rfl⟩
      go_wp2_with fail
      refine (newI_yes (1 + m) (by omega) (by omega) _).mono ?_
      rintro e w1 ⟨rfl, rfl⟩
      go_wp2_with fail
      refine (newI_no a0 (by omega) _).mono ?_
      rintro e w1 ⟨rfl, rfl⟩
      go_wp2
      go_loopw [12] (fun i wr => i = .int .i64 0 ∧ Below w.heap.size w wr) (fun _ _ => 0)
      case atStart => exact ⟨rfl, (St.new' w (1 + m)).2⟩
      case round =>
        obtain ⟨rfl, hb⟩ := hrel
        go_wp2_with fail
        refine (awake_any _).mono ?_
        rintro e w2 ⟨rfl, hb2⟩
        go_wp2
        go_ret
        exact ⟨rfl, bt hb hb2⟩

set_option maxRecDepth 100000 in
theorem walk (a0 : Int) (a1 : Option Addr) (len1 cap1 : Nat) (z1 : List Int) (w : World) (_w0 : (Lit.int .i64 a0).wf = true) (w1 : IsRow .i64 w a1 len1 cap1 z1) :
    Calls Try.prog 3 #[.int .i64 a0, .slice a1 len1 cap1] w fun e w' => e = .returned (.bool true) ∧ Below w.heap.size w w' := by
  by_cases h2 : 200 < len1
  · clear w1 _w0
    go_enter Try.func3, Try.ntmps3
    go_wp2_with fail
    refine (awake_any _).mono ?_
    rintro e w1 ⟨rfl, hb⟩
    go_wp2
    go_ret
    exact ⟨rfl, hb⟩
  · by_cases h0 : len1 = 0
    · subst h0
      exact walk_none a0 a1 cap1 w
    · obtain ⟨b, off, rfl, hbl, ns, hlen, hcell⟩ := w1.open_ (by omega)
      by_cases hy : 1 ≤ a0 ∧ a0 ≤ 100
      · exact walk_yes a0 b off len1 cap1 ns w hy (by omega) hbl hlen hcell
      · by_cases hl : a0 < 1
        · exact walk_low a0 b off len1 cap1 ns w hl (by omega) hbl hlen hcell
        · exact walk_high a0 b off len1 cap1 ns w (by omega) (by omega) hbl hlen hcell
end Go.Proofs.Ytjmammphomijfaa.pastTells
