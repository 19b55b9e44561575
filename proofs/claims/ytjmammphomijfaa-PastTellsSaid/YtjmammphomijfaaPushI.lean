/- The contracts of package past at int: Push. -/
import Derived.Test.YtjmammphomijfaaDeedsI
namespace Go.Proofs.Ytjmammphomijfaa
open Go.RowKit

theorem pushI_few (base : Nat) (w : World) (g : Nat) (most : Int) (bs fs : List Value) (F : Nat → Prop) (x : Int) (hP : PastIs 47 3 base w g most bs fs F) (hl : bs.length ≤ 1048576) (hm : (bs.length : Int) + 1 ≤ most) :
    Calls Try.prog 10 #[.pointer (some ⟨g, 0, none⟩), .int .i64 x] w fun e w' => e = .returned (.tuple #[]) ∧ Left 47 3 base w g most (bs ++ [.int .i64 x]) [] F w' := by
  obtain ⟨vb, va, hP⟩ := hP
  obtain ⟨i0, hi, hz0, hz1, hz2⟩ := info_parts Try.info3
  obtain ⟨c0, c1, c2⟩ := hP.cell
  have fg := hP.frozen
  have hbase := (hP.low g hP.inG)
  go_enter Try.func10, Try.ntmps10
  go_wp2_with (at_builtin; refine wpList_append_one _ rfl _ _ 22 rfl 3 i0 (.int .i64 0) 8 Try.underlying22 hi hz0 hz1 hz2 rfl base vb bs rfl ?hown _ 1 (.int .i64 x) rfl ?hc rfl ?b1 ?b2 ?b3 ?_)
  case hown => exact hP.behind.alloc _
  case hc => exact new_cell _ _ _ _ rfl
  case b1 => unfold maxLen; omega
  case b2 => omega
  case b3 => simp; omega
  intro v' w1 ho hgr hblk
  have hk1 : Kept F w w1 := ((Kept.refl F w).alloc _).grown hgr (fun q hq => .inl (hP.inB q hq))
  obtain ⟨⟨d1, d2⟩, hA, hk, hF⟩ := hP.putB (w1 := w1) (v' := v') (bs' := bs ++ [.int .i64 x])
    ((hgr.block g (by simp; omega) (fun h => hP.notB h.symm)).trans (heap_alloc_old w _ hbase.2))
    (fun q hq => (hgr.block q (by have := (hP.low q (hP.inA q hq)).2; simp; omega) (fun h => hP.apart q h.symm hq)).trans (heap_alloc_old w _ (hP.low q (hP.inA q hq)).2))
    hk1 ho (fun q hq => by
      rcases hblk with h | ⟨q', h, hq'⟩
      · exact .inl (by rw [← h]; exact hq)
      · rw [h] at hq; injection hq with hq; right; omega)
  have hsl : ∃ a c, v' = .slice a (bs.length + 1) c := by
    obtain ⟨g2, off2, cap2, cur2, hv, _⟩ := ho.form (by simp)
    exact ⟨some ⟨g2, off2, none⟩, cap2, by rw [hv]; simp⟩
  obtain ⟨a2, cap2, rfl⟩ := hsl
  clear c0 c1 c2 fg hgr hblk ho hk1
  have hd : decide (most < (bs.length : Int) + 1) = false := by simp; omega
  go_wp2
  generalize w1.setCell ⟨g, 1, none⟩ (.slice a2 (bs.length + 1) cap2) = W3 at *
  obtain ⟨c0, c1, c2⟩ := hA.cell
  have fg := hA.frozen
  obtain ⟨hA2, hk2⟩ := hA.noA
  have hL : Left 47 3 base w g most (bs ++ [.int .i64 x]) [] F (W3.setCell ⟨g, 2, none⟩ (.slice none 0 0)) := ⟨_, ⟨_, _, hA2⟩, hF, hk.trans hF hk2⟩
  clear hA hA2 hk2 hF hk
  go_quiet (fail)
  go_wp2
  go_end0
  exact ⟨rfl, hL.drewN _⟩
theorem pushI_more (base : Nat) (w : World) (g : Nat) (most : Int) (bs fs : List Value) (F : Nat → Prop) (x : Int) (hP : PastIs 47 3 base w g most bs fs F) (hl : bs.length ≤ 1048576) (hm : most < (bs.length : Int) + 1) (h1 : 1 ≤ most) (hone : ∀ u ∈ bs, u.oneCell' = true) :
    Calls Try.prog 10 #[.pointer (some ⟨g, 0, none⟩), .int .i64 x] w fun e w' => e = .returned (.tuple #[]) ∧ Left 47 3 base w g most (bs.tail ++ [.int .i64 x]) [] F w' := by
  obtain ⟨vb, va, hP⟩ := hP
  obtain ⟨i0, hi, hz0, hz1, hz2⟩ := info_parts Try.info3
  obtain ⟨c0, c1, c2⟩ := hP.cell
  have fg := hP.frozen
  have hbase := (hP.low g hP.inG)
  obtain ⟨b0, rest, rfl⟩ : ∃ b0 rest, bs = b0 :: rest := by
    cases bs with
    | nil => simp at hm; omega
    | cons b r => exact ⟨b, r, rfl⟩
  have hl' : rest.length ≤ 1048575 := by simpa using hl
  have hm' : most < (rest.length : Int) + 1 + 1 := by simpa using hm
  have el : (b0 :: rest).length = rest.length + 1 := rfl
  clear hl hm
  go_enter Try.func10, Try.ntmps10
  go_wp2_with (at_builtin; refine wpList_append_one _ rfl _ _ 22 rfl 3 i0 (.int .i64 0) 8 Try.underlying22 hi hz0 hz1 hz2 rfl base vb (b0 :: rest) rfl ?hown _ 1 (.int .i64 x) rfl ?hc rfl ?b1 ?b2 ?b3 ?_)
  case hown => exact hP.behind.alloc _
  case hc => exact new_cell _ _ _ _ rfl
  case b1 => unfold maxLen; omega
  case b2 => omega
  case b3 => simp; omega
  intro v' w1 ho hgr hblk
  have hk1 : Kept F w w1 := ((Kept.refl F w).alloc _).grown hgr (fun q hq => .inl (hP.inB q hq))
  obtain ⟨⟨d1, d2⟩, hA, hk, hF⟩ := hP.putB (w1 := w1) (v' := v') (bs' := (b0 :: rest) ++ [.int .i64 x])
    ((hgr.block g (by simp; omega) (fun h => hP.notB h.symm)).trans (heap_alloc_old w _ hbase.2))
    (fun q hq => (hgr.block q (by have := (hP.low q (hP.inA q hq)).2; simp; omega) (fun h => hP.apart q h.symm hq)).trans (heap_alloc_old w _ (hP.low q (hP.inA q hq)).2))
    hk1 ho (fun q hq => by
      rcases hblk with h | ⟨q', h, hq'⟩
      · exact .inl (by rw [← h]; exact hq)
      · rw [h] at hq; injection hq with hq; right; omega)
  obtain ⟨g2, off2, cap2, hv, hcap⟩ : ∃ g2 off2 cap2, v' = .slice (some ⟨g2, off2, none⟩) (rest.length + 1 + 1) cap2 ∧ rest.length + 1 + 1 ≤ cap2 := by
    obtain ⟨g2, off2, cap2, cur2, hv, _, _, hn, _⟩ := ho.form (by simp)
    exact ⟨g2, off2, cap2, by rw [hv]; simp, by simpa using hn⟩
  subst hv
  clear c0 c1 c2 fg hgr hblk ho hk1
  have hc1 : ¬ cap2 = 1 := by omega
  go_wp2
  generalize w1.setCell ⟨g, 1, none⟩ (.slice (some ⟨g2, off2, none⟩) (rest.length + 1 + 1) cap2) = W3 at *
  obtain ⟨c0, c1, c2⟩ := hA.cell
  have fg := hA.frozen
  have hB := hA.behind
  go_quiet (fail)
  go_wp2_with (at_builtin; refine wpList_append_own _ rfl _ _ 22 rfl W3.heap.size 3 i0 (.int .i64 0) 1 8 Try.underlying22 hi hz0 hz1 hz2 rfl (by decide) (.slice none 0 0) 0 [] rfl (World.ownsRow_nil _ _ _ _) ⟨g2, off2 + 1, none⟩ (rest.length + 1) _ (rest ++ [.int .i64 x]) rfl ?hl ?hnews ?hone ?b1 ?b2 ?b3 ?_)
  case hl => simp
  case hnews =>
    intro j u hj
    rw [Addr.add_lit]
    have h := (hB.tail (x := b0) (xs := rest ++ [.int .i64 x])).cell (k := j) (List.getElem?_eq_some_iff.1 hj).1
    rw [(List.getElem?_eq_some_iff.1 hj).2] at h
    exact h
  case hone =>
    intro u hu
    rcases List.mem_append.1 hu with h | h
    · exact hone u (List.mem_cons_of_mem _ h)
    · simp at h; subst h; rfl
  case b1 => unfold maxLen; omega
  case b2 => omega
  case b3 => exact Nat.le_refl _
  intro v2 w2 ho2' hgr2 _
  have ho2 := Own.of_row ho2'
  have hgr3 : W3.grownBy w2 none := ⟨hgr2.os, hgr2.tape, hgr2.output, hgr2.size, fun q hq _ => hgr2.block q hq (by simp [Value.ownBlock])⟩
  have hk2 := (Kept.refl (fun q => F q ∨ (Value.slice (some ⟨g2, off2, none⟩) (rest.length + 1 + 1) cap2).ownBlock = some q) W3).grown hgr3 (fun q hq => by cases hq)
  obtain ⟨⟨d3, d4⟩, hA3, hk3, hF3⟩ := hA.putB (w1 := w2) (v' := v2) (bs' := rest ++ [.int .i64 x])
    (hgr3.block g hA.lt (by simp)) (fun q hq => hgr3.block q (hA.low q (hA.inA q hq)).2 (by simp)) hk2 (ho2.mono (Nat.le_of_lt (Nat.lt_of_le_of_lt hbase.1 hA.lt))) (fun q hq => .inr (ho2.lt q hq).1)
  obtain ⟨a3, n3, cap3, rfl⟩ := ho2.slice
  obtain ⟨hA4, hk4⟩ := hA3.noA
  have hL : Left 47 3 base w g most (rest ++ [.int .i64 x]) [] F ((w2.setCell ⟨g, 1, none⟩ (.slice a3 n3 cap3)).setCell ⟨g, 2, none⟩ (.slice none 0 0)) :=
    ⟨_, ⟨_, _, hA4⟩, fun q hq => by
      rcases hF3 q hq with h | h
      · exact hF q h
      · exact .inr (Nat.le_trans hk.size h), (hk.trans hF hk3).trans (fun q hq => by
      rcases hF3 q hq with h | h
      · exact hF q h
      · exact .inr (Nat.le_trans hk.size h)) hk4⟩
  obtain ⟨x0, x1, x2⟩ := hA3.cell
  have fx := hA3.frozen
  clear c0 c1 c2 fg hB hA3 hA4 hk2 hk3 hk4 hF3 hF hk hA hgr3 hgr2 ho2 ho2'
  go_wp2
  go_end0
  exact ⟨rfl, hL⟩
end Go.Proofs.Ytjmammphomijfaa
