/- What Indent hands back where a line is blanks and tabs alone: the line. -/
import Derived.Test.YtkeckbmhaplkpaaGreatDoorChecked
import Derived.WalkKit
import Derived.WalkSpells
import Derived.Lib.Hide
namespace Go.Proofs.YtkeckbmhaplkpaaGreatDoor.In
open Go Go.RowKit

def Blank (s : ByteArray) : Prop := ∀ k (h : k < s.size), s[k] = 32 ∨ s[k] = 9
theorem ext_all (s : ByteArray) : s.extract 0 s.size = s := by
  apply ByteArray.ext
  simp
set_option maxHeartbeats 1000000 in
theorem indent_walk (p : Addr) (s : ByteArray) (hs : Blank s) (hz : s.size ≤ 1048576) (w : World) (R : Ending → World → Prop)
    (H : ∀ w0, Below w.heap.size w w0 → w0.heap[w.heap.size]? = some (.cells #[.pointer (some p)] 105 (0, 0)) → Calls Tryz.prog 139 #[.agg #[.pointer (some p)], .int .i64 0] w0 fun e w1 => ∃ a, e = .returned (.tuple #[a, .int .i64 0]) ∧ w1.heap[w.heap.size]? = some (.cells #[.pointer (some p)] 105 (0, 0)) ∧
      Calls Tryz.prog 140 #[.agg #[.pointer (some p)], .int .i64 0] w1 fun e w2 => ∃ b, e = .returned (.tuple #[b, .int .i64 0]) ∧ w2.heap[w.heap.size]? = some (.cells #[.pointer (some p)] 105 (0, 0)) ∧
      Calls Tryz.prog 217 #[.pointer (some p), a, b] w2 fun e w3 => e = .returned (.tuple #[.string s, .int .i64 0]) ∧ R (.returned (.tuple #[.string s, .int .i64 0])) w3) :
    Calls Tryz.prog 162 #[.agg #[.pointer (some p)], .int .i64 0] w R := by
  have HH := Lib.hid (H (w.alloc (.cells #[.pointer (some p)] 105)) ((Below.refl _ _).alloc (Nat.le_refl _) _) (heap_alloc_new _ _))
  have HS := Lib.hid hs
  clear H hs
  go_enter Tryz.func162, Tryz.ntmps162
  go_wp2_with fail
  refine HH.out.mono ?_
  rintro e w1 ⟨a, rfl, h1, H1⟩
  have c1 : w1.cell? ⟨w.heap.size, 0, none⟩ = some (.pointer (some p)) := by simp only [World.cell?, h1]; rfl
  have HH1 := Lib.hid H1
  clear HH H1 h1
  go_wp2_with fail
  refine HH1.out.mono ?_
  rintro e w2 ⟨b, rfl, h2, H2⟩
  have c2 : w2.cell? ⟨w.heap.size, 0, none⟩ = some (.pointer (some p)) := by simp only [World.cell?, h2]; rfl
  have HH2 := Lib.hid H2
  clear HH1 H2 h2 c1
  go_wp2_with fail
  refine HH2.out.mono ?_
  rintro e w3 ⟨rfl, hR⟩
  have HR := Lib.hid hR
  clear HH2 hR c2
  go_wp2
  go_loopw [12] (fun i wr => ∃ k : Nat, k ≤ s.size ∧ i = .int .i64 k ∧ wr = w3) (fun i _ => s.size - (intOf i).toNat)
  case atStart => exact ⟨0, Nat.zero_le _, rfl, rfl⟩
  case round =>
    obtain ⟨k, hk, rfl, rfl⟩ := hrel
    by_cases hlt : k < s.size
    · rcases HS.out k hlt with h | h
      · have t1 : (((s[k]).toNat : Int) == 32) = true := by rw [h]; rfl
        clear h
        go_wp2
        go_roundw
        case rel => exact ⟨k + 1, by omega, by go_num, trivial⟩
        case measure => simp [intOf]; omega
      · have t1 : (((s[k]).toNat : Int) == 32) = false := by rw [h]; rfl
        have t2 : (((s[k]).toNat : Int) == 9) = true := by rw [h]; rfl
        clear h
        go_wp2
        go_roundw
        case rel => exact ⟨k + 1, by omega, by go_num, trivial⟩
        case measure => simp [intOf]; omega
    · obtain rfl : k = s.size := by omega
      have hx := ext_all s
      go_wp2
      exact HR.out
end Go.Proofs.YtkeckbmhaplkpaaGreatDoor.In
