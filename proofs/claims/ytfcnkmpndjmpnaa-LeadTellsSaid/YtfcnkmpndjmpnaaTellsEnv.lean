/- LeadTells' contract of Env. -/
import Derived.Test.YtfcnkmpndjmpnaaTellsKit
import Derived.BigQuiet
namespace Go.Proofs.Ytfcnkmpndjmpnaa
open Go.RowKit
open M

theorem long_new (n : Int) (a b : ByteArray) (w : World) (hn : -1000 ≤ n) (hn2 : n ≤ 1000) :
    Calls Try.prog 15 #[.int .i64 n, .slice (some ⟨w.heap.size, 0, none⟩) 2 2] (w.alloc (.cells #[.string a, .string b] 9)).drew fun e w' => (∃ y : Bool, e = .returned (.bool y) ∧ (y = false → (a.size : Int) + b.size + 1 < n)) ∧ w' = (w.alloc (.cells #[.string a, .string b] 9)).drew := by
  have hh : (w.alloc (.cells #[.string a, .string b] 9)).heap[w.heap.size]? = some (.cells #[.string a, .string b] 9) := by
    show (w.heap.push _)[w.heap.size]? = _
    exact Array.getElem?_push_size
  refine long_two n _ a b _ ?_ ?_ hn hn2
  · show (match (w.alloc (.cells #[.string a, .string b] 9)).heap[w.heap.size]? with | some (.cells c _ _) => c[0]? | _ => none) = _
    rw [hh]; rfl
  · show (match (w.alloc (.cells #[.string a, .string b] 9)).heap[w.heap.size]? with | some (.cells c _ _) => c[1]? | _ => none) = _
    rw [hh]; rfl

set_option maxHeartbeats 4000000 in
theorem env_some (b off cap : Nat) (ps : Pairs) (w : World) (hR : PRow w b off ps) (hlen : ps.length ≤ 9223372036854775807) :
    Calls Try.prog 8 #[.int .i64 8, .int .i64 100, .slice (some ⟨b, off, none⟩) ps.length cap] w fun e w' => (∃ y : Bool, e = .returned (.bool y) ∧ (y = false → ps.length ≤ 8)) ∧ Below w.heap.size w w' := by
  generalize hn : ps.length = n at *
  have HN := Lib.hid hn
  clear hn
  by_cases h8 : 8 < n
  · go_enter Try.func8, Try.ntmps8
    go_wp2
    go_ret
    exact ⟨⟨true, rfl, fun h => by cases h⟩, Below.refl _ _⟩
  have h8' : decide (8 < (n : Int)) = false := by simp; omega
  go_enter Try.func8, Try.ntmps8
  go_wp2
  go_loopw [1, 7] (fun m i wr => ∃ (k : Nat) (x : Int), k ≤ n ∧ i = .int .i64 k ∧ m = .int .i64 x ∧ 0 ≤ x ∧ x ≤ 100 ∧ Below w.heap.size w wr) (fun _ i _ => n - (intOf i).toNat)
  case atStart => exact ⟨0, 100, Nat.zero_le _, rfl, rfl, by omega, by omega, Below.refl _ _⟩
  case round =>
    obtain ⟨k, x, hk, rfl, rfl, hx0, hx1, hb⟩ := hrel
    by_cases hlt : k < n
    · obtain ⟨c0, c1⟩ := hR.below hb k (by rw [HN.out]; exact hlt)
      obtain ⟨u, hu⟩ : ∃ v, (ps[k]'(by rw [HN.out]; exact hlt)).1 = v := ⟨_, rfl⟩
      obtain ⟨v, hv⟩ : ∃ v, (ps[k]'(by rw [HN.out]; exact hlt)).2 = v := ⟨_, rfl⟩
      rw [hu] at c0
      rw [hv] at c1
      have HU := Lib.hid hu
      have HV := Lib.hid hv
      clear hu hv
      go_wp2
      go_region_with (go_at_call 15; refine (long_new x u v _ (by omega) (by omega)).mono ?_; rintro e w1 ⟨⟨y, rfl, hy⟩, rfl⟩)
      all_goals
        have hb2 : Below w.heap.size w (wr.alloc (.cells #[.string u, .string v] 9)).drew := (hb.alloc hb.size _).drew
        obtain ⟨d0, d1⟩ := hR.below hb2 k (by rw [HN.out]; exact hlt)
        rw [HU.out] at d0
        rw [HV.out] at d1
        clear c0 c1 hb
        generalize (wr.alloc (.cells #[.string u, .string v] 9)).drew = W2 at *
        cases y
        · have hs := hy rfl
          clear hy
          go_wp2
          go_quiet (fail)
          go_wp2
          go_roundw
          case rel => exact ⟨k + 1, x - u.size - v.size, by omega, by go_num, rfl, by omega, by omega, ⟨hb2.os, hb2.tape, hb2.output, hb2.size, hb2.block⟩⟩
          case measure => simp [intOf]; omega
        · go_wp2
          go_ret
          exact ⟨⟨true, rfl, fun h => by cases h⟩, hb2⟩
    · obtain rfl : n = k := by omega
      go_wp2
      go_ret
      exact ⟨⟨false, rfl, fun _ => by omega⟩, hb⟩
theorem env_none (ao : Option Addr) (cap : Nat) (w : World) :
    Calls Try.prog 8 #[.int .i64 8, .int .i64 100, .slice ao 0 cap] w fun e w' => (∃ y : Bool, e = .returned (.bool y) ∧ (y = false → 0 ≤ 8)) ∧ Below w.heap.size w w' := by
  go_enter Try.func8, Try.ntmps8
  go_wp2
  go_loopw [7] (fun i wr => i = .int .i64 0 ∧ Below w.heap.size w wr) (fun _ _ => 0)
  case atStart => exact ⟨rfl, Below.refl _ _⟩
  case round =>
    obtain ⟨rfl, hb⟩ := hrel
    go_wp2
    go_ret
    exact ⟨⟨false, rfl, fun _ => Nat.zero_le _⟩, hb⟩
end Go.Proofs.Ytfcnkmpndjmpnaa
