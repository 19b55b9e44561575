/- LeadTells' contracts: the reference's Get and Adapt. -/
import Derived.Test.YtfcnkmpndjmpnaaParts
namespace Go.Proofs.Ytfcnkmpndjmpnaa
open Go.RowKit
open M

set_option maxHeartbeats 1000000 in
theorem rget_some (name : ByteArray) (b off cap : Nat) (ps : Pairs) (w : World) (hR : PRow w b off ps) (hlen : ps.length ≤ 1048576) :
    Calls Try.prog 10 #[.string name, .slice (some ⟨b, off, none⟩) ps.length cap] w fun e w' => e = .returned (.tuple #[.string (look name ps).1, .bool (look name ps).2]) ∧ Below w.heap.size w w' := by
  generalize hn : ps.length = n at *
  have HN := Lib.hid hn
  clear hn
  go_enter Try.func10, Try.ntmps10
  go_wp2
  go_loopw [6] (fun i wr => ∃ k : Nat, k ≤ n ∧ i = .int .i64 k ∧ Hid (look name ps = look name (ps.drop k)) ∧ Below w.heap.size w wr) (fun i _ => n - (intOf i).toNat)
  case atStart => exact ⟨0, Nat.zero_le _, rfl, Lib.hid (by simp), Below.refl _ _⟩
  case round =>
    obtain ⟨k, hk, rfl, hL, hb⟩ := hrel
    by_cases hlt : k < n
    · obtain ⟨c0, c1⟩ := hR.below hb k (by rw [HN.out]; exact hlt)
      by_cases he : (ps[k]'(by rw [HN.out]; exact hlt)).1 = name
      · have hh := Lib.hid (hL.out.trans (look_hit name ps k (by rw [HN.out]; exact hlt) he))
        rw [he] at c0
        clear he
        obtain ⟨v, hv⟩ : ∃ v, (ps[k]'(by rw [HN.out]; exact hlt)).2 = v := ⟨_, rfl⟩
        rw [hv] at c1
        have HV := Lib.hid hv
        clear hv
        go_wp2
        go_ret2
        exact ⟨retg (a := (v, true)) (by rw [hh.out, HV.out]), hb⟩
      · have nx := Lib.hid (hL.out.trans (look_miss name ps k (by rw [HN.out]; exact hlt) he))
        have hne := toList_ne he
        obtain ⟨v, hv⟩ : ∃ v, (ps[k]'(by rw [HN.out]; exact hlt)).1 = v := ⟨_, rfl⟩
        rw [hv] at c0 hne
        clear he hv
        go_wp2
        go_roundw
        case rel => exact ⟨k + 1, by omega, by go_num, nx, hb⟩
        case measure => simp [intOf]; omega
    · obtain rfl : n = k := by omega
      have hh : look name ps = (⟨#[]⟩, false) := by rw [hL.out, List.drop_of_length_le (by rw [HN.out]; omega)]; rfl
      have HH := Lib.hid hh
      clear hh
      go_wp2
      go_ret2
      exact ⟨retg (a := (⟨#[]⟩, false)) HH.out.symm, hb⟩
theorem rget_none (name : ByteArray) (ao : Option Addr) (cap : Nat) (w : World) :
    Calls Try.prog 10 #[.string name, .slice ao 0 cap] w fun e w' => e = .returned (.tuple #[.string ⟨#[]⟩, .bool false]) ∧ Below w.heap.size w w' := by
  go_enter Try.func10, Try.ntmps10
  go_wp2
  go_loopw [6] (fun i wr => i = .int .i64 0 ∧ Below w.heap.size w wr) (fun _ _ => 0)
  case atStart => exact ⟨rfl, Below.refl _ _⟩
  case round =>
    obtain ⟨rfl, hb⟩ := hrel
    go_wp2
    go_ret2
    exact ⟨rfl, hb⟩

theorem long_two (n : Int) (g : Nat) (a b : ByteArray) (w : World) (h0 : w.cell? ⟨g, 0, none⟩ = some (.string a)) (h1 : w.cell? ⟨g, 1, none⟩ = some (.string b)) (hn : -1000 ≤ n) (hn2 : n ≤ 1000) :
    Calls Try.prog 15 #[.int .i64 n, .slice (some ⟨g, 0, none⟩) 2 2] w fun e w' => (∃ y : Bool, e = .returned (.bool y) ∧ (y = false → (a.size : Int) + b.size + 1 < n)) ∧ w' = w := by
  by_cases ha : n ≤ (a.size : Int)
  · go_enter Try.func15, Try.ntmps15
    go_wp2
    go_loopw [0, 5] (fun m i wr => m = .int .i64 n ∧ i = .int .i64 0 ∧ wr = w) (fun _ _ _ => 0)
    case atStart => exact ⟨rfl, rfl, rfl⟩
    case round =>
      obtain ⟨rfl, rfl, rfl⟩ := hrel
      go_wp2
      go_ret
      exact ⟨⟨true, rfl, fun h => by cases h⟩, rfl⟩
  · have ha' : decide (n ≤ (a.size : Int)) = false := by simp; omega
    by_cases hb : n - a.size - 1 ≤ (b.size : Int)
    · go_enter Try.func15, Try.ntmps15
      go_wp2
      go_loopw [0, 5] (fun m i wr => ((m = .int .i64 n ∧ i = .int .i64 0) ∨ (m = .int .i64 (n - a.size - 1) ∧ i = .int .i64 1)) ∧ wr = w) (fun _ i _ => 2 - (intOf i).toNat)
      case atStart => exact ⟨.inl ⟨rfl, rfl⟩, rfl⟩
      case round =>
        obtain ⟨⟨rfl, rfl⟩ | ⟨rfl, rfl⟩, rfl⟩ := hrel
        · go_wp2
          go_roundw
          case rel => exact ⟨.inr ⟨rfl, rfl⟩, trivial⟩
          case measure => simp [intOf]
        · go_wp2
          go_ret
          exact ⟨⟨true, rfl, fun h => by cases h⟩, rfl⟩
    · have hb' : decide (n - a.size - 1 ≤ (b.size : Int)) = false := by simp; omega
      go_enter Try.func15, Try.ntmps15
      go_wp2
      go_loopw [0, 5] (fun m i wr => ((m = .int .i64 n ∧ i = .int .i64 0) ∨ (m = .int .i64 (n - a.size - 1) ∧ i = .int .i64 1) ∨ i = .int .i64 2) ∧ wr = w) (fun _ i _ => 2 - (intOf i).toNat)
      case atStart => exact ⟨.inl ⟨rfl, rfl⟩, rfl⟩
      case round =>
        obtain ⟨⟨rfl, rfl⟩ | ⟨rfl, rfl⟩ | rfl, rfl⟩ := hrel
        · go_wp2
          go_roundw
          case rel => exact ⟨.inr (.inl ⟨rfl, rfl⟩), trivial⟩
          case measure => simp [intOf]
        · go_wp2
          go_roundw
          case rel => exact ⟨.inr (.inr rfl), trivial⟩
          case measure => simp [intOf]
        · go_wp2
          go_ret
          exact ⟨⟨false, rfl, fun _ => by omega⟩, rfl⟩
end Go.Proofs.Ytfcnkmpndjmpnaa
