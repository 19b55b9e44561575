/- What a past is in memory: a struct of three cells, two rows of the call's own apart from each other; which blocks it may lie in. No program in sight. -/
import Derived.Test.YtjmammphomijfaaOwn
import Derived.Deep.QuietTactic
import Derived.BigQuiet
namespace Go.Proofs.Ytjmammphomijfaa
open Go.RowKit

/-- Nothing but the blocks in F has turned. -/
structure Kept (F : Nat → Prop) (w w' : World) : Prop where
  os : w'.os = w.os
  tape : w'.tape = w.tape
  output : w'.output = w.output
  size : w.heap.size ≤ w'.heap.size
  block : ∀ q, q < w.heap.size → ¬ F q → w'.heap[q]? = w.heap[q]?

section
variable {F : Nat → Prop} {w w' w'' : World}
theorem Kept.refl (F : Nat → Prop) (w : World) : Kept F w w := ⟨rfl, rfl, rfl, Nat.le_refl _, fun _ _ _ => rfl⟩
theorem Kept.trans {F' : Nat → Prop} (h : Kept F w w') (hF : ∀ q, F' q → F q ∨ w.heap.size ≤ q) (k : Kept F' w' w'') : Kept F w w'' :=
  ⟨k.os.trans h.os, k.tape.trans h.tape, k.output.trans h.output, Nat.le_trans h.size k.size, fun q hq hn => (k.block q (Nat.lt_of_lt_of_le hq h.size) (fun hf => by
    rcases hF q hf with h1 | h1
    · exact hn h1
    · omega)).trans (h.block q hq hn)⟩
theorem Kept.drew (h : Kept F w w') : Kept F w w'.drew := ⟨h.os, h.tape, h.output, h.size, h.block⟩
theorem Kept.alloc (h : Kept F w w') (o : Obj) : Kept F w (w'.alloc o) :=
  ⟨h.os, h.tape, h.output, Nat.le_trans h.size (by simp), fun q hq hn => (heap_alloc_old w' o (Nat.lt_of_lt_of_le hq h.size)).trans (h.block q hq hn)⟩
theorem Kept.set (h : Kept F w w') {p : Addr} (hp : F p.block ∨ w.heap.size ≤ p.block) (u : Value) : Kept F w (w'.setCell p u) :=
  ⟨h.os, h.tape, h.output, by simpa [World.setCell] using h.size, fun q hq hn => (Below.heap_setCell w' p u q (by
    rintro rfl
    rcases hp with hp | hp
    · exact hn hp
    · omega)).trans (h.block q hq hn)⟩
theorem Kept.grown (h : Kept F w w') {row : Option Nat} (hg : w'.grownBy w'' row) (hr : ∀ q, row = some q → F q ∨ w.heap.size ≤ q) : Kept F w w'' :=
  ⟨hg.os.trans h.os, hg.tape.trans h.tape, hg.output.trans h.output, Nat.le_trans h.size hg.size, fun q hq hn => (hg.block q (Nat.lt_of_lt_of_le hq h.size) (fun e => by
    rcases hr q e.symm with h1 | h1
    · exact hn h1
    · omega)).trans (h.block q hq hn)⟩
theorem Kept.below {B : Nat} (h : Kept F w w') (hF : ∀ q, F q → B ≤ q) (hB : B ≤ w.heap.size) : Below B w w' :=
  ⟨h.os, h.tape, h.output, h.size, fun q hq => h.block q (by omega) (fun hf => by have := hF q hf; omega)⟩
theorem Kept.of_below (h : Below w.heap.size w w') (F : Nat → Prop) : Kept F w w' := ⟨h.os, h.tape, h.output, h.size, fun q hq _ => h.block q hq⟩
end

/-- The rows vb, va, in block g's cells 1 and 2, hold bs and fs; all that the past lies in is in F. -/
structure PastAt (T e : TypeId) (base : Nat) (w : World) (g : Nat) (most : Int) (vb va : Value) (bs fs : List Value) (F : Nat → Prop) : Prop where
  at_ : w.heap[g]? = some (.cells #[.int .i64 most, vb, va] T (0, 0))
  behind : Own w base e vb bs
  ahead : Own w base e va fs
  inG : F g
  inB : ∀ q, vb.ownBlock = some q → F q
  inA : ∀ q, va.ownBlock = some q → F q
  apart : ∀ q, vb.ownBlock = some q → va.ownBlock ≠ some q
  low : ∀ q, F q → base ≤ q ∧ q < w.heap.size
  ne : T ≠ e

def PastIs (T e : TypeId) (base : Nat) (w : World) (g : Nat) (most : Int) (bs fs : List Value) (F : Nat → Prop) : Prop := ∃ vb va, PastAt T e base w g most vb va bs fs F

/-- What a deed leaves: a past again, in blocks of its own or new ones. -/
def Left (T e : TypeId) (base : Nat) (w : World) (g : Nat) (most : Int) (bs fs : List Value) (F : Nat → Prop) (w' : World) : Prop :=
  ∃ F', PastIs T e base w' g most bs fs F' ∧ (∀ q, F' q → F q ∨ w.heap.size ≤ q) ∧ Kept F w w'

section
variable {T e : TypeId} {base : Nat} {w w' : World} {g : Nat} {most : Int} {vb va : Value} {bs fs : List Value} {F : Nat → Prop}
theorem PastAt.cell (h : PastAt T e base w g most vb va bs fs F) : w.cell? ⟨g, 0, none⟩ = some (.int .i64 most) ∧ w.cell? ⟨g, 1, none⟩ = some vb ∧ w.cell? ⟨g, 2, none⟩ = some va := by
  simp [World.cell?, h.at_]
theorem PastAt.frozen (h : PastAt T e base w g most vb va bs fs F) (o : Nat) : w.frozen? ⟨g, o, none⟩ = false := by
  simp [World.frozen?, h.at_]
theorem PastAt.lt (h : PastAt T e base w g most vb va bs fs F) : g < w.heap.size := (h.low g h.inG).2
theorem PastAt.notB (h : PastAt T e base w g most vb va bs fs F) : vb.ownBlock ≠ some g := by
  intro hq
  obtain ⟨cur, hc⟩ := h.behind.type g hq
  have h2 := h.at_
  rw [hc] at h2
  injection h2 with h2
  injection h2 with _ h3
  exact h.ne h3.symm
theorem PastAt.notA (h : PastAt T e base w g most vb va bs fs F) : va.ownBlock ≠ some g := by
  intro hq
  obtain ⟨cur, hc⟩ := h.ahead.type g hq
  have h2 := h.at_
  rw [hc] at h2
  injection h2 with h2
  injection h2 with _ h3
  exact h.ne h3.symm
theorem PastIs.keep (h : PastIs T e base w g most bs fs F) (hb : ∀ q, F q → w'.heap[q]? = w.heap[q]?) (hs : w.heap.size ≤ w'.heap.size) : PastIs T e base w' g most bs fs F := by
  obtain ⟨vb, va, h⟩ := h
  exact ⟨vb, va, (hb g h.inG).trans h.at_, h.behind.keep fun q hq => hb q (h.inB q hq), h.ahead.keep fun q hq => hb q (h.inA q hq), h.inG, h.inB, h.inA, h.apart, fun q hq => ⟨(h.low q hq).1, Nat.lt_of_lt_of_le (h.low q hq).2 hs⟩, h.ne⟩
theorem PastIs.alloc (h : PastIs T e base w g most bs fs F) (o : Obj) : PastIs T e base (w.alloc o) g most bs fs F :=
  h.keep (fun q hq => heap_alloc_old w o (h.choose_spec.choose_spec.low q hq).2) (by simp)
theorem PastIs.low (h : PastIs T e base w g most bs fs F) : ∀ q, F q → base ≤ q ∧ q < w.heap.size := by
  obtain ⟨vb, va, h⟩ := h
  exact h.low
end

theorem Own.slice {w : World} {base : Nat} {e : TypeId} {v : Value} {xs : List Value} (h : Own w base e v xs) : ∃ a n c, v = .slice a n c := by
  rcases h with ⟨h, _⟩ | ⟨_, _, _, _, h, _⟩
  · exact ⟨_, _, _, h⟩
  · exact ⟨_, _, _, h⟩
theorem new_cell (w : World) (x : Value) (e : TypeId) (b : Nat) (h : b = w.heap.size) : (w.alloc (.cells #[x] e)).cell? ⟨b, 0, none⟩ = some x := by
  subst h
  simp

/-- What a turn from behind to ahead leaves. -/
theorem left_back {T e : TypeId} {base : Nat} {w w1 : World} {g gb off cap : Nat} {most : Int} {vt v' : Value} {bs fs : List Value} {F : Nat → Prop} {x y z : Value}
    (hP : PastAt T e base w g most (.slice (some ⟨gb, off, none⟩) (bs.length + 1) cap) vt (bs ++ [x]) fs F)
    (ho : Own w1 base e v' (fs ++ [y]))
    (hgr : (((w.setCell ⟨gb, off + bs.length, none⟩ z).setCell ⟨g, 1, none⟩ (.slice (some ⟨gb, off, none⟩) bs.length cap)).alloc (.cells #[y] e)).grownBy w1 vt.ownBlock)
    (hblk : v'.ownBlock = vt.ownBlock ∨ ∃ q, v'.ownBlock = some q ∧ w.heap.size + 1 ≤ q) :
    (w1.cell? ⟨g, 2, none⟩ = some vt ∧ w1.frozen? ⟨g, 2, none⟩ = false) ∧ Left T e base w g most bs (fs ++ [y]) F (w1.setCell ⟨g, 2, none⟩ v') := by
  have hgF : F gb := hP.inB gb rfl
  have hne : gb ≠ g := fun h => hP.notB (by simp [Value.ownBlock, h])
  have hgs := hP.lt
  have hbs := (hP.low gb hgF).2
  have hta : vt.ownBlock ≠ some gb := hP.apart gb rfl
  have htg : vt.ownBlock ≠ some g := hP.notA
  have h2 : (((w.setCell ⟨gb, off + bs.length, none⟩ z).setCell ⟨g, 1, none⟩ (.slice (some ⟨gb, off, none⟩) bs.length cap)).alloc (.cells #[y] e)).heap[g]? = some (.cells #[.int .i64 most, .slice (some ⟨gb, off, none⟩) bs.length cap, vt] T (0, 0)) := by
    rw [heap_alloc_old _ _ (by simpa [World.setCell] using hgs)]
    have h0 : (w.setCell ⟨gb, off + bs.length, none⟩ z).heap[g]? = some (.cells #[.int .i64 most, .slice (some ⟨gb, off, none⟩) (bs.length + 1) cap, vt] T (0, 0)) := (Below.heap_setCell w _ _ g (fun h => hne h.symm)).trans hP.at_
    simp [World.setCell, Array.getElem?_modify] at h0 ⊢
    simp [h0]
  have hpop : Own (((w.setCell ⟨gb, off + bs.length, none⟩ z).setCell ⟨g, 1, none⟩ (.slice (some ⟨gb, off, none⟩) bs.length cap)).alloc (.cells #[y] e)) base e (.slice (some ⟨gb, off, none⟩) bs.length cap) bs :=
    ((hP.behind.pop (u := z)).far (by simp [Value.ownBlock, hne]) _).alloc _
  have hk2 : Kept F w (((w.setCell ⟨gb, off + bs.length, none⟩ z).setCell ⟨g, 1, none⟩ (.slice (some ⟨gb, off, none⟩) bs.length cap)).alloc (.cells #[y] e)) :=
    (((Kept.refl F w).set (p := ⟨gb, _, none⟩) (.inl hgF) _).set (p := ⟨g, _, none⟩) (.inl hP.inG) _).alloc _
  have hs2 : w.heap.size ≤ (((w.setCell ⟨gb, off + bs.length, none⟩ z).setCell ⟨g, 1, none⟩ (.slice (some ⟨gb, off, none⟩) bs.length cap)).alloc (.cells #[y] e)).heap.size := hk2.size
  generalize (((w.setCell ⟨gb, off + bs.length, none⟩ z).setCell ⟨g, 1, none⟩ (.slice (some ⟨gb, off, none⟩) bs.length cap)).alloc (.cells #[y] e)) = W2 at *
  have h1 : w1.heap[g]? = some (.cells #[.int .i64 most, .slice (some ⟨gb, off, none⟩) bs.length cap, vt] T (0, 0)) := (hgr.block g (by omega) (fun h => htg h.symm)).trans h2
  have hk : Kept F w w1 := hk2.grown hgr (fun q hq => .inl (hP.inA q hq))
  have hvg : v'.ownBlock ≠ some g := by
    rcases hblk with h | ⟨q, h, hq⟩
    · rw [h]; exact htg
    · rw [h]; intro h3; injection h3 with h3; omega
  have hvb : v'.ownBlock ≠ some gb := by
    rcases hblk with h | ⟨q, h, hq⟩
    · rw [h]; exact hta
    · rw [h]; intro h3; injection h3 with h3; omega
  refine ⟨⟨by simp [World.cell?, h1], by simp [World.frozen?, h1]⟩, fun q => F q ∨ v'.ownBlock = some q, ⟨(.slice (some ⟨gb, off, none⟩) bs.length cap), v', ?_⟩, ?_, hk.set (p := ⟨g, 2, none⟩) (.inl hP.inG) _⟩
  · have hB : Own (w1.setCell ⟨g, 2, none⟩ v') base e (.slice (some ⟨gb, off, none⟩) bs.length cap) bs :=
      (hpop.keep (fun q hq => by
        obtain rfl : gb = q := by simpa [Value.ownBlock] using hq
        exact hgr.block gb (by omega) (fun h => hta h.symm))).far (p := ⟨g, 2, none⟩) (by simp [Value.ownBlock, hne]) _
    have hA : Own (w1.setCell ⟨g, 2, none⟩ v') base e v' (fs ++ [y]) := ho.far (p := ⟨g, 2, none⟩) hvg _
    refine ⟨?_, hB, hA, .inl hP.inG, fun q hq => .inl (hP.inB q (by simpa [Value.ownBlock] using hq)), fun q hq => .inr hq, ?_, ?_, hP.ne⟩
    · simp [World.setCell, Array.getElem?_modify, h1]
    · intro q hq
      obtain rfl : gb = q := by simpa [Value.ownBlock] using hq
      exact hvb
    · intro q hq
      rcases hq with hq | hq
      · exact ⟨(hP.low q hq).1, Nat.lt_of_lt_of_le (hP.low q hq).2 (by simpa [World.setCell] using hk.size)⟩
      · exact ⟨(ho.lt q hq).1, by simpa [World.setCell] using (ho.lt q hq).2⟩
  · intro q hq
    rcases hq with hq | hq
    · exact .inl hq
    · rcases hblk with h | ⟨q', h, hq'⟩
      · exact .inl (hP.inA q (by rw [← h]; exact hq))
      · rw [h] at hq; injection hq with hq; exact .inr (by omega)

/-- What a turn from ahead to behind leaves. -/
theorem left_forth {T e : TypeId} {base : Nat} {w w1 : World} {g gb off cap : Nat} {most : Int} {vt v' : Value} {bs fs : List Value} {F : Nat → Prop} {x y z : Value}
    (hP : PastAt T e base w g most vt (.slice (some ⟨gb, off, none⟩) (bs.length + 1) cap) fs (bs ++ [x]) F)
    (ho : Own w1 base e v' (fs ++ [y]))
    (hgr : (((w.setCell ⟨gb, off + bs.length, none⟩ z).setCell ⟨g, 2, none⟩ (.slice (some ⟨gb, off, none⟩) bs.length cap)).alloc (.cells #[y] e)).grownBy w1 vt.ownBlock)
    (hblk : v'.ownBlock = vt.ownBlock ∨ ∃ q, v'.ownBlock = some q ∧ w.heap.size + 1 ≤ q) :
    (w1.cell? ⟨g, 1, none⟩ = some vt ∧ w1.frozen? ⟨g, 1, none⟩ = false) ∧ Left T e base w g most (fs ++ [y]) bs F (w1.setCell ⟨g, 1, none⟩ v') := by
  have hgF : F gb := hP.inA gb rfl
  have hne : gb ≠ g := fun h => hP.notA (by simp [Value.ownBlock, h])
  have hgs := hP.lt
  have hbs := (hP.low gb hgF).2
  have hta : vt.ownBlock ≠ some gb := fun h => hP.apart gb h rfl
  have htg : vt.ownBlock ≠ some g := hP.notB
  have h2 : (((w.setCell ⟨gb, off + bs.length, none⟩ z).setCell ⟨g, 2, none⟩ (.slice (some ⟨gb, off, none⟩) bs.length cap)).alloc (.cells #[y] e)).heap[g]? = some (.cells #[.int .i64 most, vt, .slice (some ⟨gb, off, none⟩) bs.length cap] T (0, 0)) := by
    rw [heap_alloc_old _ _ (by simpa [World.setCell] using hgs)]
    have h0 : (w.setCell ⟨gb, off + bs.length, none⟩ z).heap[g]? = some (.cells #[.int .i64 most, vt, .slice (some ⟨gb, off, none⟩) (bs.length + 1) cap] T (0, 0)) := (Below.heap_setCell w _ _ g (fun h => hne h.symm)).trans hP.at_
    simp [World.setCell, Array.getElem?_modify] at h0 ⊢
    simp [h0]
  have hpop : Own (((w.setCell ⟨gb, off + bs.length, none⟩ z).setCell ⟨g, 2, none⟩ (.slice (some ⟨gb, off, none⟩) bs.length cap)).alloc (.cells #[y] e)) base e (.slice (some ⟨gb, off, none⟩) bs.length cap) bs :=
    ((hP.ahead.pop (u := z)).far (by simp [Value.ownBlock, hne]) _).alloc _
  have hk2 : Kept F w (((w.setCell ⟨gb, off + bs.length, none⟩ z).setCell ⟨g, 2, none⟩ (.slice (some ⟨gb, off, none⟩) bs.length cap)).alloc (.cells #[y] e)) :=
    (((Kept.refl F w).set (p := ⟨gb, _, none⟩) (.inl hgF) _).set (p := ⟨g, _, none⟩) (.inl hP.inG) _).alloc _
  have hs2 : w.heap.size ≤ (((w.setCell ⟨gb, off + bs.length, none⟩ z).setCell ⟨g, 2, none⟩ (.slice (some ⟨gb, off, none⟩) bs.length cap)).alloc (.cells #[y] e)).heap.size := hk2.size
  generalize (((w.setCell ⟨gb, off + bs.length, none⟩ z).setCell ⟨g, 2, none⟩ (.slice (some ⟨gb, off, none⟩) bs.length cap)).alloc (.cells #[y] e)) = W2 at *
  have h1 : w1.heap[g]? = some (.cells #[.int .i64 most, vt, .slice (some ⟨gb, off, none⟩) bs.length cap] T (0, 0)) := (hgr.block g (by omega) (fun h => htg h.symm)).trans h2
  have hk : Kept F w w1 := hk2.grown hgr (fun q hq => .inl (hP.inB q hq))
  have hvg : v'.ownBlock ≠ some g := by
    rcases hblk with h | ⟨q, h, hq⟩
    · rw [h]; exact htg
    · rw [h]; intro h3; injection h3 with h3; omega
  have hvb : v'.ownBlock ≠ some gb := by
    rcases hblk with h | ⟨q, h, hq⟩
    · rw [h]; exact hta
    · rw [h]; intro h3; injection h3 with h3; omega
  refine ⟨⟨by simp [World.cell?, h1], by simp [World.frozen?, h1]⟩, fun q => F q ∨ v'.ownBlock = some q, ⟨v', (.slice (some ⟨gb, off, none⟩) bs.length cap), ?_⟩, ?_, hk.set (p := ⟨g, 1, none⟩) (.inl hP.inG) _⟩
  · have hB : Own (w1.setCell ⟨g, 1, none⟩ v') base e (.slice (some ⟨gb, off, none⟩) bs.length cap) bs :=
      (hpop.keep (fun q hq => by
        obtain rfl : gb = q := by simpa [Value.ownBlock] using hq
        exact hgr.block gb (by omega) (fun h => hta h.symm))).far (p := ⟨g, 1, none⟩) (by simp [Value.ownBlock, hne]) _
    have hA : Own (w1.setCell ⟨g, 1, none⟩ v') base e v' (fs ++ [y]) := ho.far (p := ⟨g, 1, none⟩) hvg _
    refine ⟨?_, hA, hB, .inl hP.inG, fun q hq => .inr hq, fun q hq => .inl (hP.inA q (by simpa [Value.ownBlock] using hq)), ?_, ?_, hP.ne⟩
    · simp [World.setCell, Array.getElem?_modify, h1]
    · intro q hq h
      obtain rfl : gb = q := by simpa [Value.ownBlock] using h
      exact hvb hq
    · intro q hq
      rcases hq with hq | hq
      · exact ⟨(hP.low q hq).1, Nat.lt_of_lt_of_le (hP.low q hq).2 (by simpa [World.setCell] using hk.size)⟩
      · exact ⟨(ho.lt q hq).1, by simpa [World.setCell] using (ho.lt q hq).2⟩
  · intro q hq
    rcases hq with hq | hq
    · exact .inl hq
    · rcases hblk with h | ⟨q', h, hq'⟩
      · exact .inl (hP.inB q (by rw [← h]; exact hq))
      · rw [h] at hq; injection hq with hq; exact .inr (by omega)

section
variable {T e : TypeId} {base : Nat} {w w1 : World} {g : Nat} {most : Int} {vb va v' : Value} {bs bs' fs : List Value} {F : Nat → Prop}
/-- A new past. -/
theorem past_new (T e : TypeId) (base : Nat) (w : World) (n : Int) (hb : base ≤ w.heap.size) (hne : T ≠ e) :
    PastIs T e base (w.alloc (.cells #[.int .i64 n, .slice none 0 0, .slice none 0 0] T)) w.heap.size n [] [] (· = w.heap.size) :=
  ⟨.slice none 0 0, .slice none 0 0, heap_alloc_new w _, Own.none_ _ _ _, Own.none_ _ _ _, rfl, fun q hq => by simp [Value.ownBlock] at hq, fun q hq => by simp [Value.ownBlock] at hq, fun q hq => by simp [Value.ownBlock] at hq, fun q hq => by subst hq; exact ⟨hb, by simp⟩, hne⟩
/-- A row stored in the place of what is behind. -/
theorem PastAt.putB (h : PastAt T e base w g most vb va bs fs F) (hg : w1.heap[g]? = w.heap[g]?) (ha : ∀ q, va.ownBlock = some q → w1.heap[q]? = w.heap[q]?) (hk : Kept F w w1) (ho : Own w1 base e v' bs')
    (hnew : ∀ q, v'.ownBlock = some q → vb.ownBlock = some q ∨ w.heap.size ≤ q) :
    (w1.cell? ⟨g, 1, none⟩ = some vb ∧ w1.frozen? ⟨g, 1, none⟩ = false) ∧
    PastAt T e base (w1.setCell ⟨g, 1, none⟩ v') g most v' va bs' fs (fun q => F q ∨ v'.ownBlock = some q) ∧ Kept F w (w1.setCell ⟨g, 1, none⟩ v') ∧ (∀ q, F q ∨ v'.ownBlock = some q → F q ∨ w.heap.size ≤ q) := by
  have h1 := hg.trans h.at_
  have hvg : v'.ownBlock ≠ some g := by
    intro hq
    rcases hnew g hq with h2 | h2
    · exact h.notB h2
    · have := h.lt; omega
  refine ⟨⟨by simp [World.cell?, h1], by simp [World.frozen?, h1]⟩, ⟨?_, ho.far (p := ⟨g, 1, none⟩) hvg _, (h.ahead.keep ha).far (p := ⟨g, 1, none⟩) h.notA _, .inl h.inG, fun q hq => .inr hq, fun q hq => .inl (h.inA q hq), ?_, ?_, h.ne⟩, hk.set (p := ⟨g, 1, none⟩) (.inl h.inG) _, ?_⟩
  · simp [World.setCell, Array.getElem?_modify, h1]
  · intro q hq hq2
    rcases hnew q hq with h2 | h2
    · exact h.apart q h2 hq2
    · have := h.low q (h.inA q hq2); omega
  · intro q hq
    rcases hq with hq | hq
    · exact ⟨(h.low q hq).1, Nat.lt_of_lt_of_le (h.low q hq).2 (by simpa [World.setCell] using hk.size)⟩
    · exact ⟨(ho.lt q hq).1, by simpa [World.setCell] using (ho.lt q hq).2⟩
  · intro q hq
    rcases hq with hq | hq
    · exact .inl hq
    · rcases hnew q hq with h2 | h2
      · exact .inl (h.inB q h2)
      · exact .inr h2
/-- Nothing is ahead any more. -/
theorem PastAt.noA (h : PastAt T e base w g most vb va bs fs F) :
    PastAt T e base (w.setCell ⟨g, 2, none⟩ (.slice none 0 0)) g most vb (.slice none 0 0) bs [] F ∧ Kept F w (w.setCell ⟨g, 2, none⟩ (.slice none 0 0)) := by
  have h1 := h.at_
  refine ⟨⟨?_, h.behind.far (p := ⟨g, 2, none⟩) h.notB _, Own.none_ _ _ _, h.inG, h.inB, fun q hq => by simp [Value.ownBlock] at hq, fun q _ hq => by simp [Value.ownBlock] at hq, fun q hq => ?_, h.ne⟩, (Kept.refl F w).set (p := ⟨g, 2, none⟩) (.inl h.inG) _⟩
  · simp [World.setCell, Array.getElem?_modify, h1]
  · exact ⟨(h.low q hq).1, by simpa [World.setCell] using (h.low q hq).2⟩
theorem PastIs.drew (h : PastIs T e base w g most bs fs F) : PastIs T e base w.drew g most bs fs F := h.keep (fun _ _ => rfl) (Nat.le_refl _)
theorem PastIs.drewN (h : PastIs T e base w g most bs fs F) (n : Nat) : PastIs T e base (w.drewN n) g most bs fs F := h.keep (fun _ _ => rfl) (Nat.le_refl _)
theorem Left.drewN {w' : World} (h : Left T e base w g most bs fs F w') (n : Nat) : Left T e base w g most bs fs F (w'.drewN n) := by
  obtain ⟨F', h1, h2, h3⟩ := h
  exact ⟨F', h1.drewN n, h2, h3.os, h3.tape, h3.output, h3.size, h3.block⟩
theorem Left.of_drew {w' : World} (h : Left T e base w.drew g most bs fs F w') : Left T e base w g most bs fs F w' := by
  obtain ⟨F', h1, h2, h3⟩ := h
  exact ⟨F', h1, h2, h3.os, h3.tape, h3.output, h3.size, h3.block⟩
end
end Go.Proofs.Ytjmammphomijfaa
