/- The contracts of package past at int: turn. -/
import Derived.Test.YtjmammphomijfaaChecked
import Derived.Test.YtjmammphomijfaaPastIs
import Derived.WalkSpells
namespace Go.Proofs.Ytjmammphomijfaa
open Go.RowKit

theorem Try.info3 : (Try.prog.info? 3).map (fun i => (i.zero, i.size, i.bytes)) = some (some (.int .i64 0), 1, 8) := by kernel_rfl

theorem turnI_back (base : Nat) (w : World) (g : Nat) (most : Int) (bs fs : List Value) (F : Nat → Prop) (x y : Int) (hP : PastIs 47 3 base w g most (bs ++ [.int .i64 x]) fs F) (hl : bs.length ≤ 1048576) (hl2 : fs.length ≤ 1048576) :
    Calls Try.prog 19 #[.pointer (some ⟨g, 1, none⟩), .pointer (some ⟨g, 2, none⟩), .int .i64 y] w fun e w' =>
      e = .returned (.tuple #[.int .i64 x, .bool true]) ∧ Left 47 3 base w g most bs (fs ++ [.int .i64 y]) F w' := by
  obtain ⟨vb, va, hP⟩ := hP
  obtain ⟨gb, off, cap, cur, hv, hbg, hgb, hle, hcm, hsz, htk⟩ := hP.behind.form (by simp)
  have e1 : (bs ++ [Value.int .i64 x]).length = bs.length + 1 := by simp
  rw [e1] at hv hle
  subst hv
  have HB := hP.behind
  have cb := HB.cell (k := bs.length) (by simp)
  rw [List.getElem_append_right (by omega)] at cb
  simp only [Nat.sub_self, List.getElem_cons_zero] at cb
  obtain ⟨i0, hi, hz0, hz1, hz2⟩ := info_parts Try.info3
  obtain ⟨c0, c1, c2⟩ := hP.cell
  have fg := hP.frozen
  have fb := HB.frozen
  have hne : gb ≠ g := fun e => hP.notB (by simp [Value.ownBlock, e])
  have hta : va.ownBlock ≠ some gb := hP.apart gb rfl
  have htg := hP.notA
  have hbase := (hP.low g hP.inG)
  clear htk hsz hcm e1
  go_enter Try.func19, Try.ntmps19
  go_wp2_with (at_builtin; refine wpList_append_one _ rfl _ _ 22 rfl 3 i0 (.int .i64 0) 8 Try.underlying22 hi hz0 hz1 hz2 rfl base va fs rfl ?hown _ 1 (.int .i64 y) rfl ?hc rfl ?b1 ?b2 ?b3 ?_)
  case hown => exact ((hP.ahead.far (p := ⟨gb, _, none⟩) hta _).far (p := ⟨g, _, none⟩) htg _).alloc _
  case hc => exact new_cell _ _ _ _ (by simp)
  case b1 => unfold maxLen; omega
  case b2 => omega
  case b3 => simp; omega
  intro v' w1 ho hgr hblk
  obtain ⟨⟨d1, d2⟩, hL⟩ := left_back hP ho hgr hblk
  obtain ⟨a2, n2, cap2, rfl⟩ := ho.slice
  clear c0 c1 c2 cb fb fg hgr hblk
  go_wp2
  go_ret2
  exact ⟨rfl, hL⟩

theorem turnI_forth (base : Nat) (w : World) (g : Nat) (most : Int) (bs fs : List Value) (F : Nat → Prop) (x y : Int) (hP : PastIs 47 3 base w g most fs (bs ++ [.int .i64 x]) F) (hl : bs.length ≤ 1048576) (hl2 : fs.length ≤ 1048576) :
    Calls Try.prog 19 #[.pointer (some ⟨g, 2, none⟩), .pointer (some ⟨g, 1, none⟩), .int .i64 y] w fun e w' =>
      e = .returned (.tuple #[.int .i64 x, .bool true]) ∧ Left 47 3 base w g most (fs ++ [.int .i64 y]) bs F w' := by
  obtain ⟨vb, va, hP⟩ := hP
  obtain ⟨gb, off, cap, cur, hv, hbg, hgb, hle, hcm, hsz, htk⟩ := hP.ahead.form (by simp)
  have e1 : (bs ++ [Value.int .i64 x]).length = bs.length + 1 := by simp
  rw [e1] at hv hle
  subst hv
  have HB := hP.ahead
  have cb := HB.cell (k := bs.length) (by simp)
  rw [List.getElem_append_right (by omega)] at cb
  simp only [Nat.sub_self, List.getElem_cons_zero] at cb
  obtain ⟨i0, hi, hz0, hz1, hz2⟩ := info_parts Try.info3
  obtain ⟨c0, c1, c2⟩ := hP.cell
  have fg := hP.frozen
  have fb := HB.frozen
  have hne : gb ≠ g := fun e => hP.notA (by simp [Value.ownBlock, e])
  have hta : vb.ownBlock ≠ some gb := fun h => hP.apart gb h rfl
  have htg := hP.notB
  have hbase := (hP.low g hP.inG)
  clear htk hsz hcm e1
  go_enter Try.func19, Try.ntmps19
  go_wp2_with (at_builtin; refine wpList_append_one _ rfl _ _ 22 rfl 3 i0 (.int .i64 0) 8 Try.underlying22 hi hz0 hz1 hz2 rfl base vb fs rfl ?hown _ 1 (.int .i64 y) rfl ?hc rfl ?b1 ?b2 ?b3 ?_)
  case hown => exact ((hP.behind.far (p := ⟨gb, _, none⟩) hta _).far (p := ⟨g, _, none⟩) htg _).alloc _
  case hc => exact new_cell _ _ _ _ (by simp)
  case b1 => unfold maxLen; omega
  case b2 => omega
  case b3 => simp; omega
  intro v' w1 ho hgr hblk
  obtain ⟨⟨d1, d2⟩, hL⟩ := left_forth hP ho hgr hblk
  obtain ⟨a2, n2, cap2, rfl⟩ := ho.slice
  clear c0 c1 c2 cb fb fg hgr hblk
  go_wp2
  go_ret2
  exact ⟨rfl, hL⟩

theorem turnI_back_none (base : Nat) (w : World) (g : Nat) (most : Int) (fs : List Value) (F : Nat → Prop) (y : Int) (hP : PastIs 47 3 base w g most [] fs F) :
    Calls Try.prog 19 #[.pointer (some ⟨g, 1, none⟩), .pointer (some ⟨g, 2, none⟩), .int .i64 y] w fun e w' =>
      e = .returned (.tuple #[.int .i64 0, .bool false]) ∧ w = w' := by
  obtain ⟨vb, va, hP⟩ := hP
  have hv : ∃ a c, vb = .slice a 0 c := by
    rcases hP.behind with ⟨rfl, _⟩ | ⟨g', off, cap, cur, rfl, _⟩
    · exact ⟨_, _, rfl⟩
    · exact ⟨_, _, rfl⟩
  obtain ⟨a, c, rfl⟩ := hv
  obtain ⟨c0, c1, c2⟩ := hP.cell
  go_enter Try.func19, Try.ntmps19
  go_wp2
  go_ret2
  exact ⟨rfl, rfl⟩

theorem turnI_forth_none (base : Nat) (w : World) (g : Nat) (most : Int) (bs : List Value) (F : Nat → Prop) (y : Int) (hP : PastIs 47 3 base w g most bs [] F) :
    Calls Try.prog 19 #[.pointer (some ⟨g, 2, none⟩), .pointer (some ⟨g, 1, none⟩), .int .i64 y] w fun e w' =>
      e = .returned (.tuple #[.int .i64 0, .bool false]) ∧ w = w' := by
  obtain ⟨vb, va, hP⟩ := hP
  have hv : ∃ a c, va = .slice a 0 c := by
    rcases hP.ahead with ⟨rfl, _⟩ | ⟨g', off, cap, cur, rfl, _⟩
    · exact ⟨_, _, rfl⟩
    · exact ⟨_, _, rfl⟩
  obtain ⟨a, c, rfl⟩ := hv
  obtain ⟨c0, c1, c2⟩ := hP.cell
  go_enter Try.func19, Try.ntmps19
  go_wp2
  go_ret2
  exact ⟨rfl, rfl⟩
end Go.Proofs.Ytjmammphomijfaa
