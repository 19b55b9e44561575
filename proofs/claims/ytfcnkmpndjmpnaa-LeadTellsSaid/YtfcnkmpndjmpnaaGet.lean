/- What vars.Get, Unit and the reference's Get hand back: the first pair's value of a name. -/
import Derived.Test.YtfcnkmpndjmpnaaEach
namespace Go.Proofs.Ytfcnkmpndjmpnaa
open Go.RowKit
open M

abbrev Pairs := List (ByteArray × ByteArray)
/-- The first value of a name; is there one? -/
def look (name : ByteArray) : Pairs → ByteArray × Bool
  | [] => (⟨#[]⟩, false)
  | p :: r => if p.1 = name then (p.2, true) else look name r
theorem look_hit (name : ByteArray) (ps : Pairs) (k : Nat) (h : k < ps.length) (he : ps[k].1 = name) : look name (ps.drop k) = (ps[k].2, true) := by
  rw [List.drop_eq_getElem_cons h]; simp [look, he]
theorem look_miss (name : ByteArray) (ps : Pairs) (k : Nat) (h : k < ps.length) (he : ps[k].1 ≠ name) : look name (ps.drop k) = look name (ps.drop (k + 1)) := by
  rw [List.drop_eq_getElem_cons h]; simp [look, he]
theorem toList_ne {a b : ByteArray} (h : a ≠ b) : (a.toList == b.toList) = false := by
  rw [beq_eq_false_iff_ne]
  intro he
  rw [Lib.toList_data, Lib.toList_data] at he
  obtain ⟨⟨l⟩⟩ := a
  obtain ⟨⟨m⟩⟩ := b
  have he' : l = m := he
  exact h (by rw [he'])
/-- The pairs lie from a place on, two cells each. -/
def PRow (w : World) (b off : Nat) (ps : Pairs) : Prop :=
  b < w.heap.size ∧ ∀ k (hk : k < ps.length), w.cell? ⟨b, off + k * 2, none⟩ = some (.string ps[k].1) ∧ w.cell? ⟨b, off + k * 2 + 1, none⟩ = some (.string ps[k].2)
theorem PRow.below {w w' : World} {b off : Nat} {ps : Pairs} (h : PRow w b off ps) (hb : Below w.heap.size w w') (k : Nat) (hk : k < ps.length) :
    w'.cell? ⟨b, off + k * 2, none⟩ = some (.string ps[k].1) ∧ w'.cell? ⟨b, off + k * 2 + 1, none⟩ = some (.string ps[k].2) :=
  ⟨(hb.cell (p := ⟨b, _, none⟩) h.1).trans (h.2 k hk).1, (hb.cell (p := ⟨b, _, none⟩) h.1).trans (h.2 k hk).2⟩
theorem retg {a b : ByteArray × Bool} (h : a = b) : Ending.returned (.tuple #[.string a.1, .bool a.2]) = Ending.returned (.tuple #[.string b.1, .bool b.2]) := by rw [h]

set_option maxHeartbeats 1000000 in
theorem get_some (name : ByteArray) (b off cap : Nat) (ps : Pairs) (w : World) (hR : PRow w b off ps) (hlen : ps.length ≤ 1048576) :
    Calls Try.prog 20 #[.string name, .slice (some ⟨b, off, none⟩) ps.length cap] w fun e w' => e = .returned (.tuple #[.string (look name ps).1, .bool (look name ps).2]) ∧ Below w.heap.size w w' := by
  generalize hn : ps.length = n at *
  have HN := Lib.hid hn
  clear hn
  go_enter Try.func20, Try.ntmps20
  go_wp2
  go_loopw [10] (fun i wr => ∃ k : Nat, k ≤ n ∧ i = .int .i64 k ∧ Hid (look name ps = look name (ps.drop k)) ∧ Below w.heap.size w wr) (fun i _ => n - (intOf i).toNat)
  case atStart => exact ⟨0, Nat.zero_le _, rfl, Lib.hid (by simp), Below.refl _ _⟩
  case round =>
    obtain ⟨k, hk, rfl, hL, hb⟩ := hrel
    by_cases hlt : k < n
    · obtain ⟨c0, c1⟩ := hR.below hb k (by rw [HN.out]; exact hlt)
      by_cases he : (ps[k]'(by rw [HN.out]; exact hlt)).1 = name
      · have hh := Lib.hid (hL.out.trans (look_hit name ps k (by rw [HN.out]; exact hlt) he))
        rw [he] at c0
        clear he
        obtain ⟨v, hv⟩ : ∃ v, (ps[k]'(by rw [HN.out]; exact hlt)).2 = v := ⟨_, rfl⟩
        rw [hv] at c1
        have HV := Lib.hid hv
        clear hv
        go_wp2
        go_ret2
        exact ⟨retg (a := (v, true)) (by rw [hh.out, HV.out]), hb.alloc hb.size _⟩
      · have nx := Lib.hid (hL.out.trans (look_miss name ps k (by rw [HN.out]; exact hlt) he))
        have hne := toList_ne he
        obtain ⟨v, hv⟩ : ∃ v, (ps[k]'(by rw [HN.out]; exact hlt)).1 = v := ⟨_, rfl⟩
        rw [hv] at c0 hne
        clear he hv
        go_wp2
        go_roundw
        case rel => exact ⟨k + 1, by omega, by go_num, nx, hb.alloc hb.size _⟩
        case measure => simp [intOf]; omega
    · obtain rfl : n = k := by omega
      have hh : look name ps = (⟨#[]⟩, false) := by rw [hL.out, List.drop_of_length_le (by rw [HN.out]; omega)]; rfl
      have HH := Lib.hid hh
      clear hh
      go_wp2
      go_ret2
      exact ⟨retg (a := (⟨#[]⟩, false)) HH.out.symm, hb⟩
theorem get_none (name : ByteArray) (ao : Option Addr) (cap : Nat) (w : World) :
    Calls Try.prog 20 #[.string name, .slice ao 0 cap] w fun e w' => e = .returned (.tuple #[.string ⟨#[]⟩, .bool false]) ∧ Below w.heap.size w w' := by
  go_enter Try.func20, Try.ntmps20
  go_wp2
  go_loopw [10] (fun i wr => i = .int .i64 0 ∧ Below w.heap.size w wr) (fun _ _ => 0)
  case atStart => exact ⟨rfl, Below.refl _ _⟩
  case round =>
    obtain ⟨rfl, hb⟩ := hrel
    go_wp2
    go_ret2
    exact ⟨rfl, hb⟩
end Go.Proofs.Ytfcnkmpndjmpnaa
