/- The deeds' contracts beside the statement's own rows. -/
import Derived.Test.YtjmammphomijfaaState
namespace Go.Proofs.Ytjmammphomijfaa
open Go.RowKit

theorem Own.sliceLen {w : World} {base : Nat} {e : TypeId} {v : Value} {l : List Int} (h : Own w base e v (LI l)) : ∃ a c, v = .slice a l.length c := by
  rcases h with ⟨h, h2⟩ | ⟨g, off, cap, cur, h, _⟩
  · have : l = [] := by simpa [LI] using h2
    subst this
    exact ⟨_, _, h⟩
  · rw [lenI] at h
    exact ⟨_, _, h⟩
theorem Own.sliceSnoc {w : World} {base : Nat} {e : TypeId} {v : Value} {l : List Int} {x : Int} (h : Own w base e v (LI (l ++ [x]))) :
    ∃ g off c, v = .slice (some ⟨g, off, none⟩) (l.length + 1) c ∧ l.length + 1 ≤ c ∧ (∀ w', Own w' base e v (LI (l ++ [x])) → w'.cell? ⟨g, off + l.length, none⟩ = some (.int .i64 x)) := by
  obtain ⟨g, off, cap, cur, hv, _, _, hc, _⟩ := h.form (by rw [lenI]; simp)
  rw [lenI] at hv hc
  simp only [List.length_append, List.length_cons, List.length_nil, Nat.zero_add] at hv hc
  refine ⟨g, off, cap, hv, hc, fun w' h' => ?_⟩
  rw [hv] at h'
  have h2 := h'.cell (k := l.length) (by rw [lenI]; simp)
  rw [h2]
  simp [LI]

section
variable {w wr : World} {g : Nat} {n : Int} {bl al : List Int} {vb va : Value} {bv av : List Value}
theorem stPush (h : St w g n wr (LI bl) (LI al) vb va bv av) (x : Int) (hl : bl.length ≤ 1048576) (h1 : 1 ≤ n) :
    Calls Try.prog 10 #[.pointer (some ⟨g, 0, none⟩), .int .i64 x] wr fun e w' => e = .returned (.tuple #[]) ∧ St w g n w' (LI (pushed n bl x)) (LI []) vb va bv av := by
  obtain ⟨⟨F, hS⟩, hb⟩ := h
  by_cases hm : (bl.length : Int) + 1 ≤ n
  · refine (pushI_few w.heap.size wr g n _ _ F x hS.past (by rw [lenI]; exact hl) (by rw [lenI]; exact hm)).mono fun e w' ⟨he, hL⟩ => ⟨he, ?_⟩
    rw [pushed, if_pos hm, snocI]
    exact hS.deed hb hL
  · refine (pushI_more w.heap.size wr g n _ _ F x hS.past (by rw [lenI]; exact hl) (by rw [lenI]; omega) h1 (oneI bl)).mono fun e w' ⟨he, hL⟩ => ⟨he, ?_⟩
    rw [pushed, if_neg hm, snocI]
    have et : LI bl.tail = (LI bl).tail := by simp [LI, List.map_tail]
    rw [et]
    exact hS.deed hb hL
theorem stMany (h : St w g n wr (LI bl) (LI al) vb va bv av) (p q : Nat) (hp : bl.length = p) (hq : al.length = q) :
    Calls Try.prog 13 #[.pointer (some ⟨g, 0, none⟩)] wr fun e w' => e = .returned (.tuple #[.int .i64 (p : Int), .int .i64 (q : Int)]) ∧ St w g n w' (LI bl) (LI al) vb va bv av := by
  subst hp hq
  have h0 := h
  obtain ⟨⟨F, hS⟩, hb⟩ := h
  refine (manyI w.heap.size wr g n _ _ F hS.past).mono fun e w' ⟨he, m, hw⟩ => ⟨by rw [he, lenI, lenI], ?_⟩
  rw [← hw]
  exact h0.drewN m
theorem stBack (x : Int) (h : St w g n wr (LI (bl ++ [x])) (LI al) vb va bv av) (y : Int) (hl : bl.length ≤ 1048576) (hl2 : al.length ≤ 1048576) :
    Calls Try.prog 11 #[.pointer (some ⟨g, 0, none⟩), .int .i64 y] wr fun e w' => e = .returned (.tuple #[.int .i64 x, .bool true]) ∧ St w g n w' (LI bl) (LI (al ++ [y])) vb va bv av := by
  obtain ⟨⟨F, hS⟩, hb⟩ := h
  have hP := hS.past
  rw [snocI] at hP
  refine (backI w.heap.size wr g n _ _ F x y hP (by rw [lenI]; exact hl) (by rw [lenI]; exact hl2)).mono fun e w' ⟨he, hL⟩ => ⟨he, ?_⟩
  rw [snocI al]
  exact hS.deed hb hL
theorem stForth (x : Int) (h : St w g n wr (LI bl) (LI (al ++ [x])) vb va bv av) (y : Int) (hl : bl.length ≤ 1048576) (hl2 : al.length ≤ 1048576) :
    Calls Try.prog 12 #[.pointer (some ⟨g, 0, none⟩), .int .i64 y] wr fun e w' => e = .returned (.tuple #[.int .i64 x, .bool true]) ∧ St w g n w' (LI (bl ++ [y])) (LI al) vb va bv av := by
  obtain ⟨⟨F, hS⟩, hb⟩ := h
  have hP := hS.past
  rw [snocI] at hP
  refine (forthI w.heap.size wr g n _ _ F x y hP (by rw [lenI]; exact hl2) (by rw [lenI]; exact hl)).mono fun e w' ⟨he, hL⟩ => ⟨he, ?_⟩
  rw [snocI bl]
  exact hS.deed hb hL
theorem stBack_none (h : St w g n wr (LI []) (LI al) vb va bv av) (y : Int) :
    Calls Try.prog 11 #[.pointer (some ⟨g, 0, none⟩), .int .i64 y] wr fun e w' => e = .returned (.tuple #[.int .i64 0, .bool false]) ∧ St w g n w' (LI []) (LI al) vb va bv av := by
  have h0 := h
  obtain ⟨⟨F, hS⟩, hb⟩ := h
  refine (backI_none w.heap.size wr g n _ F y hS.past).mono fun e w' ⟨he, m, hw⟩ => ⟨he, ?_⟩
  rw [← hw]
  exact h0.drewN m
theorem stForth_none (h : St w g n wr (LI bl) (LI []) vb va bv av) (y : Int) :
    Calls Try.prog 12 #[.pointer (some ⟨g, 0, none⟩), .int .i64 y] wr fun e w' => e = .returned (.tuple #[.int .i64 0, .bool false]) ∧ St w g n w' (LI bl) (LI []) vb va bv av := by
  have h0 := h
  obtain ⟨⟨F, hS⟩, hb⟩ := h
  refine (forthI_none w.heap.size wr g n _ F y hS.past).mono fun e w' ⟨he, m, hw⟩ => ⟨he, ?_⟩
  rw [← hw]
  exact h0.drewN m
end
/-- The loop's relation behind k rounds. -/
def Rel (w : World) (n : Int) (k : Nat) (vb va : Value) (wr : World) : Prop := ∃ bl al : List Int, bl.length + al.length ≤ k ∧ St w w.heap.size n wr (LI bl) (LI al) vb va (LI bl) (LI al)
end Go.Proofs.Ytjmammphomijfaa
