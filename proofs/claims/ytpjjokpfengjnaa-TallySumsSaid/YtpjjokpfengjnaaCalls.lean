/- The contracts of package tally's small functions: what byteTally, Plus, By, Of and Upto hand back, in any world; of what was there before the call nothing has turned. -/
import Derived.Test.YtpjjokpfengjnaaChecked
import Derived.Test.YtpjjokpfengjnaaMath
import Derived.WalkKit
import Derived.Lib.Hide
import Derived.Lib.QuietBelow
import Derived.Deep.RegionHeld3
import Derived.WalkSpells
namespace Go.Proofs.Ytpjjokpfengjnaa
open Go.RowKit Go.Sort
open M

theorem bcell {W w1 : World} (hb : Below W.heap.size W w1) : (∀ b o, b < W.heap.size → w1.cell? ⟨b, o, none⟩ = W.cell? ⟨b, o, none⟩) ∧ (∀ b o, b < W.heap.size → w1.frozen? ⟨b, o, none⟩ = W.frozen? ⟨b, o, none⟩) :=
  ⟨fun b o h => hb.cell (p := ⟨b, o, none⟩) h, fun b o h => hb.frozen (p := ⟨b, o, none⟩) h⟩

theorem two_new (w : World) (o p : Obj) : Below w.heap.size w ((w.alloc o).alloc p) := ((Below.refl _ _).alloc (Nat.le_refl _) _).alloc (by simp) _
theorem three_new (w : World) (o p q : Obj) : Below w.heap.size w (((w.alloc o).alloc p).alloc q) := (two_new w o p).alloc (by simp; omega) _

theorem byteTally_any (n : Int) (_h0 : 0 ≤ n) (_h1 : n ≤ 255) (w : World) :
    Calls Try.prog 22 #[.int .u8 n] w fun e w' => e = .returned (.agg #[.int .i64 1, .int .i64 (wK n), .int .i64 (wR n), .int .i64 (wU n)]) ∧ Below w.heap.size w w' := by
  by_cases a : n = 10
  · subst a
    go_enter Try.func22, Try.ntmps22
    go_wp2
    exact bodyPost_ret (v := .agg #[.int .i64 1, .int .i64 1, .int .i64 1, .int .i64 1]) (by simp [results, Try.results22, go_sem]) rfl ⟨rfl, two_new _ _ _⟩
  · have hk : wK n = 0 := by simp [wK, a]
    have hk' : (n == 10) = false := by simpa using a
    by_cases b : n < 128
    · have hr : wR n = 1 := by simp [wR, b]
      have hu : wU n = 1 := by simp [wU, b]
      have hd : decide (240 ≤ n) = false := by simp; omega
      rw [hk, hr, hu]
      clear hk hr hu a
      go_enter Try.func22, Try.ntmps22
      go_wp2
      exact bodyPost_ret (v := .agg #[.int .i64 1, .int .i64 0, .int .i64 1, .int .i64 1]) (by simp [results, Try.results22, go_sem]) rfl ⟨rfl, two_new _ _ _⟩
    · have hb : decide (n < 128) = false := by simpa using b
      by_cases c : n ≤ 191
      · have hr : wR n = 0 := by simp [wR, b, c]
        have hu : wU n = 0 := by simp [wU, b, c]
        have hc : decide (191 < n) = false := by simp; omega
        have hd : decide (240 ≤ n) = false := by simp; omega
        rw [hk, hr, hu]
        clear hk hr hu a
        go_enter Try.func22, Try.ntmps22
        go_wp2
        exact bodyPost_ret (v := .agg #[.int .i64 1, .int .i64 0, .int .i64 0, .int .i64 0]) (by simp [results, Try.results22, go_sem]) rfl ⟨rfl, two_new _ _ _⟩
      · have hr : wR n = 1 := by simp [wR, b, c]
        have hc : 191 < n := by omega
        by_cases d : n < 240
        · have hu : wU n = 1 := by simp [wU, b, c, d]
          have hd : decide (240 ≤ n) = false := by simp; omega
          rw [hk, hr, hu]
          clear hk hr hu a c
          go_enter Try.func22, Try.ntmps22
          go_wp2
          exact bodyPost_ret (v := .agg #[.int .i64 1, .int .i64 0, .int .i64 1, .int .i64 1]) (by simp [results, Try.results22, go_sem]) rfl ⟨rfl, two_new _ _ _⟩
        · have hu : wU n = 2 := by simp [wU, b, c, d]
          have hd : 240 ≤ n := by omega
          rw [hk, hr, hu]
          clear hk hr hu a c
          go_enter Try.func22, Try.ntmps22
          go_wp2
          exact bodyPost_ret (v := .agg #[.int .i64 1, .int .i64 0, .int .i64 1, .int .i64 2]) (by simp [results, Try.results22, go_sem]) rfl ⟨rfl, two_new _ _ _⟩

theorem plus_any (a0 a1 a2 a3 b0 b1 b2 b3 : Int) (w : World)
    (l0 : -4611686018427387904 ≤ a0 + b0) (u0 : a0 + b0 ≤ 4611686018427387904) (l1 : -4611686018427387904 ≤ a1 + b1) (u1 : a1 + b1 ≤ 4611686018427387904)
    (l2 : -4611686018427387904 ≤ a2 + b2) (u2 : a2 + b2 ≤ 4611686018427387904) (l3 : -4611686018427387904 ≤ a3 + b3) (u3 : a3 + b3 ≤ 4611686018427387904) :
    Calls Try.prog 15 #[.agg #[.int .i64 a0, .int .i64 a1, .int .i64 a2, .int .i64 a3], .agg #[.int .i64 b0, .int .i64 b1, .int .i64 b2, .int .i64 b3]] w fun e w' =>
      e = .returned (.agg #[.int .i64 (a0 + b0), .int .i64 (a1 + b1), .int .i64 (a2 + b2), .int .i64 (a3 + b3)]) ∧ Below w.heap.size w w' := by
  go_enter Try.func15, Try.ntmps15
  go_wp2
  exact bodyPost_ret (v := .agg #[.int .i64 (a0 + b0), .int .i64 (a1 + b1), .int .i64 (a2 + b2), .int .i64 (a3 + b3)]) (by simp [results, Try.results15, go_sem]) rfl ⟨rfl, three_new _ _ _ _⟩

theorem one_new (w : World) (o : Obj) : Below w.heap.size w (w.alloc o) := (Below.refl _ _).alloc (Nat.le_refl _) _

theorem by_any (a b c d way : Int) (w : World) :
    Calls Try.prog 16 #[.agg #[.int .i64 a, .int .i64 b, .int .i64 c, .int .i64 d], .int .i64 way] w fun e w' => e = .returned (.int .i64 (byF a b c d way)) ∧ Below w.heap.size w w' := by
  by_cases h0 : way = 0
  · subst h0
    go_enter Try.func16, Try.ntmps16
    go_wp2
    go_ret
    exact ⟨rfl, one_new _ _⟩
  have e0 : (way == 0) = false := by simpa using h0
  by_cases h1 : way = 1
  · subst h1
    go_enter Try.func16, Try.ntmps16
    go_wp2
    go_ret
    exact ⟨rfl, one_new _ _⟩
  have e1 : (way == 1) = false := by simpa using h1
  by_cases h2 : way = 2
  · subst h2
    go_enter Try.func16, Try.ntmps16
    go_wp2
    go_ret
    exact ⟨rfl, one_new _ _⟩
  have e2 : (way == 2) = false := by simpa using h2
  by_cases h3 : way = 3
  · subst h3
    go_enter Try.func16, Try.ntmps16
    go_wp2
    go_ret
    exact ⟨rfl, one_new _ _⟩
  have e3 : (way == 3) = false := by simpa using h3
  have hv : byF a b c d way = 0 := by simp [byF, h0, h1, h2, h3]
  rw [hv]
  clear hv h0 h1 h2 h3
  go_enter Try.func16, Try.ntmps16
  go_wp2
  go_ret
  exact ⟨rfl, one_new _ _⟩
theorem rby_any (a b c d way : Int) (w : World) :
    Calls Try.prog 17 #[.agg #[.int .i64 a, .int .i64 b, .int .i64 c, .int .i64 d], .int .i64 way] w fun e w' => e = .returned (.int .i64 (byF a b c d way)) ∧ Below w.heap.size w w' := by
  by_cases h0 : way = 0
  · subst h0
    go_enter Try.func17, Try.ntmps17
    go_wp2
    go_ret
    exact ⟨rfl, one_new _ _⟩
  have e0 : (way == 0) = false := by simpa using h0
  by_cases h1 : way = 1
  · subst h1
    go_enter Try.func17, Try.ntmps17
    go_wp2
    go_ret
    exact ⟨rfl, one_new _ _⟩
  have e1 : (way == 1) = false := by simpa using h1
  by_cases h2 : way = 2
  · subst h2
    go_enter Try.func17, Try.ntmps17
    go_wp2
    go_ret
    exact ⟨rfl, one_new _ _⟩
  have e2 : (way == 2) = false := by simpa using h2
  by_cases h3 : way = 3
  · subst h3
    go_enter Try.func17, Try.ntmps17
    go_wp2
    go_ret
    exact ⟨rfl, one_new _ _⟩
  have e3 : (way == 3) = false := by simpa using h3
  have hv : byF a b c d way = 0 := by simp [byF, h0, h1, h2, h3]
  rw [hv]
  clear hv h0 h1 h2 h3
  go_enter Try.func17, Try.ntmps17
  go_wp2
  go_ret
  exact ⟨rfl, one_new _ _⟩

/-- Block g is a struct of four numbers, of type t, none of them frozen. -/
def Tly (w : World) (t : TypeId) (g : Nat) (a b c d : Int) : Prop := w.heap[g]? = some (.cells #[.int .i64 a, .int .i64 b, .int .i64 c, .int .i64 d] t (0, 0))
theorem Tly.lt {w : World} {t : TypeId} {g : Nat} {a b c d : Int} (h : Tly w t g a b c d) : g < w.heap.size := by
  rcases Nat.lt_or_ge g w.heap.size with hlt | hge
  · exact hlt
  · unfold Tly at h; rw [Array.getElem?_eq_none hge] at h; cases h
theorem Tly.cell {w : World} {t : TypeId} {g : Nat} {a b c d : Int} (h : Tly w t g a b c d) :
    w.cell? ⟨g, 0, none⟩ = some (.int .i64 a) ∧ w.cell? ⟨g, 1, none⟩ = some (.int .i64 b) ∧ w.cell? ⟨g, 2, none⟩ = some (.int .i64 c) ∧ w.cell? ⟨g, 3, none⟩ = some (.int .i64 d) := by
  unfold Tly at h
  simp [World.cell?, h]
theorem Tly.frozen {w : World} {t : TypeId} {g : Nat} {a b c d : Int} (h : Tly w t g a b c d) (o : Nat) : w.frozen? ⟨g, o, none⟩ = false := by
  unfold Tly at h
  simp [World.frozen?, h]
theorem Tly.below {w w' : World} {t : TypeId} {g : Nat} {a b c d : Int} (h : Tly w t g a b c d) (hb : Below w.heap.size w w') : Tly w' t g a b c d := (hb.block g h.lt).trans h
theorem Tly.after {w w' : World} (hb : Below w.heap.size w w') {t : TypeId} {g : Nat} {a b c d : Int} (h : Tly w t g a b c d) : Tly w' t g a b c d := h.below hb
theorem Tly.new (w : World) (t : TypeId) (a b c d : Int) : Tly (w.alloc (.cells #[.int .i64 a, .int .i64 b, .int .i64 c, .int .i64 d] t)) t w.heap.size a b c d := heap_alloc_new w _
theorem Tly.alloc {w : World} {t : TypeId} {g : Nat} {a b c d : Int} (h : Tly w t g a b c d) (o : Obj) : Tly (w.alloc o) t g a b c d := (Below.heap_alloc w o g h.lt).trans h
/-- Four stores. -/
def put4 (w : World) (g : Nat) (a b c d : Int) : World :=
  (((w.setCell ⟨g, 0, none⟩ (.int .i64 a)).setCell ⟨g, 1, none⟩ (.int .i64 b)).setCell ⟨g, 2, none⟩ (.int .i64 c)).setCell ⟨g, 3, none⟩ (.int .i64 d)
theorem Tly.put {w : World} {t : TypeId} {g : Nat} {a b c d : Int} (h : Tly w t g a b c d) (a' b' c' d' : Int) : Tly (put4 w g a' b' c' d') t g a' b' c' d' := by
  unfold Tly at h
  simp [Tly, put4, World.setCell, Array.getElem?_modify, h]
theorem Tly.far {w : World} {t : TypeId} {g h : Nat} {a b c d : Int} (hT : Tly w t g a b c d) (hne : g ≠ h) (a' b' c' d' : Int) : Tly (put4 w h a' b' c' d') t g a b c d := by
  have e : (put4 w h a' b' c' d').heap[g]? = w.heap[g]? := by
    unfold put4
    rw [Below.heap_setCell _ _ _ _ hne, Below.heap_setCell _ _ _ _ hne, Below.heap_setCell _ _ _ _ hne, Below.heap_setCell _ _ _ _ hne]
  exact e.trans hT
theorem put4_below {B g : Nat} {a w : World} (hb : Below B a w) (hg : B ≤ g) (a' b' c' d' : Int) : Below B a (put4 w g a' b' c' d') :=
  (((hb.setCell (p := ⟨g, 0, none⟩) hg _).setCell (p := ⟨g, 1, none⟩) hg _).setCell (p := ⟨g, 2, none⟩) hg _).setCell (p := ⟨g, 3, none⟩) hg _
theorem Tly.drew {w : World} {t : TypeId} {g : Nat} {a b c d : Int} (h : Tly w t g a b c d) : Tly w.drew t g a b c d := h

end Go.Proofs.Ytpjjokpfengjnaa
