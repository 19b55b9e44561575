/- The state of PastTells' loop: a past beside two rows of the statement's own, apart from each other; what each step of the round makes of it. -/
import Derived.Test.YtjmammphomijfaaRowIs
namespace Go.Proofs.Ytjmammphomijfaa
open Go.RowKit

theorem Own.cut {w : World} {base : Nat} {e : TypeId} {g off n cap : Nat} {xs : List Value} {x : Value} (h : Own w base e (.slice (some ⟨g, off, none⟩) n cap) (xs ++ [x])) :
    Own w base e (.slice (some ⟨g, off, none⟩) xs.length cap) xs := by
  rcases h with ⟨h, _⟩ | ⟨g', off', cap', cur, hv, hb, hg, hn, hm, hs, ht⟩
  · cases h
  · cases hv
    simp only [List.length_append, List.length_cons, List.length_nil, Nat.zero_add] at hn hs ht
    refine .inr ⟨g, off, cap, cur, rfl, hb, hg, by omega, hm, by omega, ?_⟩
    have h2 := congrArg (List.take xs.length) ht
    rw [List.take_take, Nat.min_eq_left (by omega)] at h2
    rw [h2]; simp

structure StF (B : Nat) (w : World) (g : Nat) (n : Int) (pb pa : List Value) (vb va : Value) (bl al : List Value) (F : Nat → Prop) : Prop where
  past : PastIs 47 3 B w g n pb pa F
  ob : Own w B 3 vb bl
  oa : Own w B 3 va al
  nb : ∀ q, vb.ownBlock = some q → ¬ F q
  na : ∀ q, va.ownBlock = some q → ¬ F q
  ap : ∀ q, vb.ownBlock = some q → va.ownBlock ≠ some q
def St (w : World) (g : Nat) (n : Int) (wr : World) (pb pa : List Value) (vb va : Value) (bl al : List Value) : Prop := (∃ F, StF w.heap.size wr g n pb pa vb va bl al F) ∧ Below w.heap.size w wr

section
variable {w wr w1 w2 : World} {g : Nat} {n : Int} {pb pa pb' pa' : List Value} {vb va v' : Value} {bl al : List Value} {F : Nat → Prop}

theorem St.new (w : World) (n : Int) (o : Obj) : St w w.heap.size n ((w.alloc (.cells #[.int .i64 n, .slice none 0 0, .slice none 0 0] 47)).alloc o) [] [] (.slice none 0 0) (.slice none 0 0) [] [] :=
  ⟨⟨_, (past_new 47 3 w.heap.size w n (Nat.le_refl _) (by decide)).alloc o, Own.none_ _ _ _, Own.none_ _ _ _, fun q hq => by simp [Value.ownBlock] at hq, fun q hq => by simp [Value.ownBlock] at hq, fun q hq => by simp [Value.ownBlock] at hq⟩,
    ((Below.refl _ _).alloc (Nat.le_refl _) _).alloc (by simp) _⟩
theorem St.new' (w : World) (n : Int) : St w w.heap.size n (w.alloc (.cells #[.int .i64 n, .slice none 0 0, .slice none 0 0] 47)) [] [] (.slice none 0 0) (.slice none 0 0) [] [] :=
  ⟨⟨_, past_new 47 3 w.heap.size w n (Nat.le_refl _) (by decide), Own.none_ _ _ _, Own.none_ _ _ _, fun q hq => by simp [Value.ownBlock] at hq, fun q hq => by simp [Value.ownBlock] at hq, fun q hq => by simp [Value.ownBlock] at hq⟩,
    (Below.refl _ _).alloc (Nat.le_refl _) _⟩
theorem St.drewN (h : St w g n wr pb pa vb va bl al) (k : Nat) : St w g n (wr.drewN k) pb pa vb va bl al := by
  obtain ⟨⟨F, h1, h2, h3, h4, h5, h6⟩, hb⟩ := h
  exact ⟨⟨F, h1.drewN k, h2, h3, h4, h5, h6⟩, hb.os, hb.tape, hb.output, hb.size, hb.block⟩
/-- A deed on the past. -/
theorem StF.deed (h : StF w.heap.size wr g n pb pa vb va bl al F) (hb : Below w.heap.size w wr) (hL : Left 47 3 w.heap.size wr g n pb' pa' F w1) : St w g n w1 pb' pa' vb va bl al := by
  obtain ⟨F1, hP, hF, hK⟩ := hL
  have nb : ∀ q, vb.ownBlock = some q → ¬ F1 q := fun q hq hf => by
    rcases hF q hf with h1 | h1
    · exact h.nb q hq h1
    · have := (h.ob.lt q hq).2; omega
  have na : ∀ q, va.ownBlock = some q → ¬ F1 q := fun q hq hf => by
    rcases hF q hf with h1 | h1
    · exact h.na q hq h1
    · have := (h.oa.lt q hq).2; omega
  exact ⟨⟨F1, hP, h.ob.keep (fun q hq => hK.block q (h.ob.lt q hq).2 (h.nb q hq)), h.oa.keep (fun q hq => hK.block q (h.oa.lt q hq).2 (h.na q hq)), nb, na, h.ap⟩,
    hb.trans (hK.below (fun q hq => (h.past.low q hq).1) hb.size)⟩
/-- An append onto what is behind. -/
theorem StF.appB {x : Value} {o : Obj} (h : StF w.heap.size wr g n pb pa vb va bl al F) (hb : Below w.heap.size w wr) (ho : Own w1 w.heap.size 3 v' (bl ++ [x])) (hgr : (wr.alloc o).grownBy w1 vb.ownBlock)
    (hblk : v'.ownBlock = vb.ownBlock ∨ ∃ q, v'.ownBlock = some q ∧ wr.heap.size + 1 ≤ q) : St w g n w1 pb pa v' va (bl ++ [x]) al := by
  have keep : ∀ q, q < wr.heap.size → vb.ownBlock ≠ some q → w1.heap[q]? = wr.heap[q]? := fun q hq hn =>
    (hgr.block q (by simp; omega) (fun h => hn h.symm)).trans (heap_alloc_old wr o hq)
  have nb : ∀ q, v'.ownBlock = some q → ¬ F q := fun q hq hf => by
    rcases hblk with h1 | ⟨q', h1, h2⟩
    · exact h.nb q (by rw [← h1]; exact hq) hf
    · rw [h1] at hq; injection hq with hq; have := (h.past.low q hf).2; omega
  have ap : ∀ q, v'.ownBlock = some q → va.ownBlock ≠ some q := fun q hq ha => by
    rcases hblk with h1 | ⟨q', h1, h2⟩
    · exact h.ap q (by rw [← h1]; exact hq) ha
    · rw [h1] at hq; injection hq with hq; have := (h.oa.lt q ha).2; omega
  have hsz : wr.heap.size ≤ w1.heap.size := Nat.le_trans (by simp) hgr.size
  refine ⟨⟨F, h.past.keep (fun q hq => keep q (h.past.low q hq).2 (fun hv => h.nb q hv hq)) hsz, ho, h.oa.keep (fun q hq => keep q (h.oa.lt q hq).2 (fun hv => h.ap q hv hq)), nb, h.na, ap⟩, ?_⟩
  exact (hb.alloc hb.size o).grown hgr (by simp; have := hb.size; omega) (fun q hq => (h.ob.lt q hq).1)
/-- An append onto what is ahead. -/
theorem StF.appA {x : Value} {o : Obj} (h : StF w.heap.size wr g n pb pa vb va bl al F) (hb : Below w.heap.size w wr) (ho : Own w1 w.heap.size 3 v' (al ++ [x])) (hgr : (wr.alloc o).grownBy w1 va.ownBlock)
    (hblk : v'.ownBlock = va.ownBlock ∨ ∃ q, v'.ownBlock = some q ∧ wr.heap.size + 1 ≤ q) : St w g n w1 pb pa vb v' bl (al ++ [x]) := by
  have keep : ∀ q, q < wr.heap.size → va.ownBlock ≠ some q → w1.heap[q]? = wr.heap[q]? := fun q hq hn =>
    (hgr.block q (by simp; omega) (fun h => hn h.symm)).trans (heap_alloc_old wr o hq)
  have na : ∀ q, v'.ownBlock = some q → ¬ F q := fun q hq hf => by
    rcases hblk with h1 | ⟨q', h1, h2⟩
    · exact h.na q (by rw [← h1]; exact hq) hf
    · rw [h1] at hq; injection hq with hq; have := (h.past.low q hf).2; omega
  have ap : ∀ q, vb.ownBlock = some q → v'.ownBlock ≠ some q := fun q hq ha => by
    rcases hblk with h1 | ⟨q', h1, h2⟩
    · exact h.ap q hq (by rw [← h1]; exact ha)
    · rw [h1] at ha; injection ha with ha; have := (h.ob.lt q hq).2; omega
  have hsz : wr.heap.size ≤ w1.heap.size := Nat.le_trans (by simp) hgr.size
  refine ⟨⟨F, h.past.keep (fun q hq => keep q (h.past.low q hq).2 (fun hv => h.na q hv hq)) hsz, h.ob.keep (fun q hq => keep q (h.ob.lt q hq).2 (fun hv => h.ap q hq hv)), ho, h.nb, na, ap⟩, ?_⟩
  exact (hb.alloc hb.size o).grown hgr (by simp; have := hb.size; omega) (fun q hq => (h.oa.lt q hq).1)
theorem StF.noA (h : StF w.heap.size wr g n pb pa vb va bl al F) : StF w.heap.size wr g n pb pa vb (.slice none 0 0) bl [] F :=
  ⟨h.past, h.ob, Own.none_ _ _ _, h.nb, fun q hq => by simp [Value.ownBlock] at hq, fun q _ hq => by simp [Value.ownBlock] at hq⟩
theorem StF.cutB {g2 off k cap : Nat} {xs : List Value} {x : Value} (h : StF w.heap.size wr g n pb pa (.slice (some ⟨g2, off, none⟩) k cap) va (xs ++ [x]) al F) : StF w.heap.size wr g n pb pa (.slice (some ⟨g2, off, none⟩) xs.length cap) va xs al F :=
  ⟨h.past, h.ob.cut, h.oa, h.nb, h.na, h.ap⟩
theorem StF.cutA {g2 off k cap : Nat} {xs : List Value} {x : Value} (h : StF w.heap.size wr g n pb pa vb (.slice (some ⟨g2, off, none⟩) k cap) bl (xs ++ [x]) F) : StF w.heap.size wr g n pb pa vb (.slice (some ⟨g2, off, none⟩) xs.length cap) bl xs F :=
  ⟨h.past, h.ob, h.oa.cut, h.nb, h.na, h.ap⟩
theorem StF.tailB {g2 off k cap : Nat} {xs : List Value} {x : Value} (h : StF w.heap.size wr g n pb pa (.slice (some ⟨g2, off, none⟩) k cap) va (x :: xs) al F) : StF w.heap.size wr g n pb pa (.slice (some ⟨g2, off + 1, none⟩) xs.length (cap - 1)) va xs al F :=
  ⟨h.past, h.ob.tail, h.oa, h.nb, h.na, h.ap⟩
end
end Go.Proofs.Ytjmammphomijfaa
