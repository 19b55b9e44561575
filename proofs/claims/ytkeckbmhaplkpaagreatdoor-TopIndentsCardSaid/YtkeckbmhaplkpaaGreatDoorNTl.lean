/- The plain counts over a list of bytes: how much each byte weighs by each way, sums of weights, and the greatest front whose weight is at most a bound. No program in sight. -/
import Derived.Test.YtkeckbmhaplkpaaGreatDoorChecked
import Derived.WalkKit
import Derived.Lib.Hide
import Derived.Lib.QuietBelow
import Derived.Deep.RegionHeld3
import Derived.WalkSpells
namespace Go.Proofs.YtkeckbmhaplkpaaGreatDoor.Tl.M

def wK (n : Int) : Int := if n = 10 then 1 else 0
def wR (n : Int) : Int := if n < 128 then 1 else if n ≤ 191 then 0 else 1
def wU (n : Int) : Int := if n < 128 then 1 else if n ≤ 191 then 0 else if n < 240 then 1 else 2
def one (_ : Int) : Int := 1
def byF (a b c d way : Int) : Int := if way = 0 then a else if way = 1 then c else if way = 2 then d else if way = 3 then b else 0
def wBy (way n : Int) : Int := byF 1 (wK n) (wR n) (wU n) way

theorem wK_bd (n : Int) : 0 ≤ wK n ∧ wK n ≤ 2 := by unfold wK; split <;> omega
theorem wR_bd (n : Int) : 0 ≤ wR n ∧ wR n ≤ 2 := by unfold wR; repeat' split <;> omega
theorem wU_bd (n : Int) : 0 ≤ wU n ∧ wU n ≤ 2 := by unfold wU; repeat' split <;> omega
theorem one_bd (n : Int) : 0 ≤ one n ∧ one n ≤ 2 := by unfold one; omega
theorem wBy_bd (way n : Int) : 0 ≤ wBy way n ∧ wBy way n ≤ 2 := by
  have h1 := wK_bd n
  have h2 := wR_bd n
  have h3 := wU_bd n
  unfold wBy byF
  repeat' split <;> omega

def tot (f : Int → Int) : List UInt8 → Int
  | [] => 0
  | c :: r => f c.toNat + tot f r

theorem tot_append (f : Int → Int) (l m : List UInt8) : tot f (l ++ m) = tot f l + tot f m := by
  induction l with
  | nil => simp [tot]
  | cons c r ih => simp [tot, ih]; omega
theorem tot_bd (f : Int → Int) (hf : ∀ n, 0 ≤ f n ∧ f n ≤ 2) (l : List UInt8) : 0 ≤ tot f l ∧ tot f l ≤ 2 * l.length := by
  induction l with
  | nil => simp [tot]
  | cons c r ih => have := hf c.toNat; simp [tot]; omega
theorem take_snoc (l : List UInt8) (k : Nat) (h : k < l.length) : l.take (k + 1) = l.take k ++ [l[k]] := by
  rw [List.take_succ_eq_append_getElem h]
theorem tot_snoc (f : Int → Int) (l : List UInt8) (k : Nat) (h : k < l.length) : tot f (l.take (k + 1)) = tot f (l.take k) + f (l[k]).toNat := by
  rw [take_snoc l k h, tot_append]; simp [tot]

def upto (f : Int → Int) : List UInt8 → Int → Nat
  | [], _ => 0
  | c :: r, n => if n < f c.toNat then 0 else upto f r (n - f c.toNat) + 1

theorem upto_le (f : Int → Int) (l : List UInt8) (n : Int) : upto f l n ≤ l.length := by
  induction l generalizing n with
  | nil => simp [upto]
  | cons c r ih => simp only [upto]; split <;> simp; exact ih _
theorem upto_drop (f : Int → Int) (l : List UInt8) (k : Nat) (h : k < l.length) (n : Int) :
    upto f (l.drop k) n = if n < f (l[k]).toNat then 0 else upto f (l.drop (k + 1)) (n - f (l[k]).toNat) + 1 := by
  rw [List.drop_eq_getElem_cons h]; rfl
theorem upto_tot (f : Int → Int) (l : List UInt8) (n : Int) (hn : 0 ≤ n) : tot f (l.take (upto f l n)) ≤ n := by
  induction l generalizing n with
  | nil => simpa [upto, tot] using hn
  | cons c r ih =>
    simp only [upto]
    split
    · simpa [tot] using hn
    · simp only [List.take_succ_cons, tot]
      have := ih (n - f c.toNat) (by omega)
      omega
theorem upto_more (f : Int → Int) (l : List UInt8) (n : Int) (h : upto f l n < l.length) : n < tot f (l.take (upto f l n + 1)) := by
  induction l generalizing n with
  | nil => simp at h
  | cons c r ih =>
    simp only [upto] at h ⊢
    split at h
    · rename_i hc
      simp [hc, tot]
    · rename_i hc
      simp only [hc, if_false, List.take_succ_cons, tot]
      have := ih (n - f c.toNat) (by simpa using h)
      omega
theorem upto_app_lt (f : Int → Int) (l m : List UInt8) (n : Int) (hn : 0 ≤ n) (h : n < tot f l) : upto f (l ++ m) n = upto f l n ∧ upto f l n < l.length := by
  induction l generalizing n with
  | nil => simp only [tot] at h; omega
  | cons c r ih =>
    simp only [List.cons_append, upto]
    split
    · simp
    · have := ih (n - f c.toNat) (by omega) (by simp only [tot] at h; omega)
      simp [this.1, this.2]
theorem upto_app_ge (f : Int → Int) (hf : ∀ n, 0 ≤ f n ∧ f n ≤ 2) (l m : List UInt8) (n : Int) (h : tot f l ≤ n) : upto f (l ++ m) n = l.length + upto f m (n - tot f l) := by
  induction l generalizing n with
  | nil => simp [tot]
  | cons c r ih =>
    have hb := tot_bd f hf r
    simp only [List.cons_append, upto, tot] at h ⊢
    rw [if_neg (by omega), ih _ (by omega)]
    simp only [List.length_cons]
    have : n - f c.toNat - tot f r = n - (f c.toNat + tot f r) := by omega
    rw [this]
    omega
theorem byF_tot (way : Int) (l : List UInt8) : byF (tot one l) (tot wK l) (tot wR l) (tot wU l) way = tot (wBy way) l := by
  induction l with
  | nil => simp [tot, byF]
  | cons c r ih =>
    simp only [tot]
    rw [← ih]
    unfold wBy byF one
    repeat' split <;> omega
theorem tot_one (l : List UInt8) : tot one l = l.length := by
  induction l with
  | nil => simp [tot]
  | cons c r ih => simp [tot, ih, one]; omega

end Go.Proofs.YtkeckbmhaplkpaaGreatDoor.Tl.M
/- The contracts of package tally's small functions: what byteTally, Plus, By, Of and Upto hand back, in any world; of what was there before the call nothing has turned. -/
namespace Go.Proofs.YtkeckbmhaplkpaaGreatDoor.Tl
open Go.RowKit Go.Sort
open M

theorem bcell {W w1 : World} (hb : Below W.heap.size W w1) : (∀ b o, b < W.heap.size → w1.cell? ⟨b, o, none⟩ = W.cell? ⟨b, o, none⟩) ∧ (∀ b o, b < W.heap.size → w1.frozen? ⟨b, o, none⟩ = W.frozen? ⟨b, o, none⟩) :=
  ⟨fun b o h => hb.cell (p := ⟨b, o, none⟩) h, fun b o h => hb.frozen (p := ⟨b, o, none⟩) h⟩

theorem two_new (w : World) (o p : Obj) : Below w.heap.size w ((w.alloc o).alloc p) := ((Below.refl _ _).alloc (Nat.le_refl _) _).alloc (by simp) _
theorem three_new (w : World) (o p q : Obj) : Below w.heap.size w (((w.alloc o).alloc p).alloc q) := (two_new w o p).alloc (by simp; omega) _

theorem byteTally_any (n : Int) (_h0 : 0 ≤ n) (_h1 : n ≤ 255) (w : World) :
    Calls Tryz.prog 298 #[.int .u8 n] w fun e w' => e = .returned (.agg #[.int .i64 1, .int .i64 (wK n), .int .i64 (wR n), .int .i64 (wU n)]) ∧ Below w.heap.size w w' := by
  by_cases a : n = 10
  · subst a
    go_enter Tryz.func298, Tryz.ntmps298
    go_wp2
    exact bodyPost_ret (v := .agg #[.int .i64 1, .int .i64 1, .int .i64 1, .int .i64 1]) (by simp [results, Tryz.results298, go_sem]) rfl ⟨rfl, two_new _ _ _⟩
  · have hk : wK n = 0 := by simp [wK, a]
    have hk' : (n == 10) = false := by simpa using a
    by_cases b : n < 128
    · have hr : wR n = 1 := by simp [wR, b]
      have hu : wU n = 1 := by simp [wU, b]
      have hd : decide (240 ≤ n) = false := by simp; omega
      rw [hk, hr, hu]
      clear hk hr hu a
      go_enter Tryz.func298, Tryz.ntmps298
      go_wp2
      exact bodyPost_ret (v := .agg #[.int .i64 1, .int .i64 0, .int .i64 1, .int .i64 1]) (by simp [results, Tryz.results298, go_sem]) rfl ⟨rfl, two_new _ _ _⟩
    · have hb : decide (n < 128) = false := by simpa using b
      by_cases c : n ≤ 191
      · have hr : wR n = 0 := by simp [wR, b, c]
        have hu : wU n = 0 := by simp [wU, b, c]
        have hc : decide (191 < n) = false := by simp; omega
        have hd : decide (240 ≤ n) = false := by simp; omega
        rw [hk, hr, hu]
        clear hk hr hu a
        go_enter Tryz.func298, Tryz.ntmps298
        go_wp2
        exact bodyPost_ret (v := .agg #[.int .i64 1, .int .i64 0, .int .i64 0, .int .i64 0]) (by simp [results, Tryz.results298, go_sem]) rfl ⟨rfl, two_new _ _ _⟩
      · have hr : wR n = 1 := by simp [wR, b, c]
        have hc : 191 < n := by omega
        by_cases d : n < 240
        · have hu : wU n = 1 := by simp [wU, b, c, d]
          have hd : decide (240 ≤ n) = false := by simp; omega
          rw [hk, hr, hu]
          clear hk hr hu a c
          go_enter Tryz.func298, Tryz.ntmps298
          go_wp2
          exact bodyPost_ret (v := .agg #[.int .i64 1, .int .i64 0, .int .i64 1, .int .i64 1]) (by simp [results, Tryz.results298, go_sem]) rfl ⟨rfl, two_new _ _ _⟩
        · have hu : wU n = 2 := by simp [wU, b, c, d]
          have hd : 240 ≤ n := by omega
          rw [hk, hr, hu]
          clear hk hr hu a c
          go_enter Tryz.func298, Tryz.ntmps298
          go_wp2
          exact bodyPost_ret (v := .agg #[.int .i64 1, .int .i64 0, .int .i64 1, .int .i64 2]) (by simp [results, Tryz.results298, go_sem]) rfl ⟨rfl, two_new _ _ _⟩

theorem plus_any (a0 a1 a2 a3 b0 b1 b2 b3 : Int) (w : World)
    (l0 : -4611686018427387904 ≤ a0 + b0) (u0 : a0 + b0 ≤ 4611686018427387904) (l1 : -4611686018427387904 ≤ a1 + b1) (u1 : a1 + b1 ≤ 4611686018427387904)
    (l2 : -4611686018427387904 ≤ a2 + b2) (u2 : a2 + b2 ≤ 4611686018427387904) (l3 : -4611686018427387904 ≤ a3 + b3) (u3 : a3 + b3 ≤ 4611686018427387904) :
    Calls Tryz.prog 297 #[.agg #[.int .i64 a0, .int .i64 a1, .int .i64 a2, .int .i64 a3], .agg #[.int .i64 b0, .int .i64 b1, .int .i64 b2, .int .i64 b3]] w fun e w' =>
      e = .returned (.agg #[.int .i64 (a0 + b0), .int .i64 (a1 + b1), .int .i64 (a2 + b2), .int .i64 (a3 + b3)]) ∧ Below w.heap.size w w' := by
  go_enter Tryz.func297, Tryz.ntmps297
  go_wp2
  exact bodyPost_ret (v := .agg #[.int .i64 (a0 + b0), .int .i64 (a1 + b1), .int .i64 (a2 + b2), .int .i64 (a3 + b3)]) (by simp [results, Tryz.results297, go_sem]) rfl ⟨rfl, three_new _ _ _ _⟩

theorem one_new (w : World) (o : Obj) : Below w.heap.size w (w.alloc o) := (Below.refl _ _).alloc (Nat.le_refl _) _

theorem by_any (a b c d way : Int) (w : World) :
    Calls Tryz.prog 249 #[.agg #[.int .i64 a, .int .i64 b, .int .i64 c, .int .i64 d], .int .i64 way] w fun e w' => e = .returned (.int .i64 (byF a b c d way)) ∧ Below w.heap.size w w' := by
  by_cases h0 : way = 0
  · subst h0
    go_enter Tryz.func249, Tryz.ntmps249
    go_wp2
    go_ret
    exact ⟨rfl, one_new _ _⟩
  have e0 : (way == 0) = false := by simpa using h0
  by_cases h1 : way = 1
  · subst h1
    go_enter Tryz.func249, Tryz.ntmps249
    go_wp2
    go_ret
    exact ⟨rfl, one_new _ _⟩
  have e1 : (way == 1) = false := by simpa using h1
  by_cases h2 : way = 2
  · subst h2
    go_enter Tryz.func249, Tryz.ntmps249
    go_wp2
    go_ret
    exact ⟨rfl, one_new _ _⟩
  have e2 : (way == 2) = false := by simpa using h2
  by_cases h3 : way = 3
  · subst h3
    go_enter Tryz.func249, Tryz.ntmps249
    go_wp2
    go_ret
    exact ⟨rfl, one_new _ _⟩
  have e3 : (way == 3) = false := by simpa using h3
  have hv : byF a b c d way = 0 := by simp [byF, h0, h1, h2, h3]
  rw [hv]
  clear hv h0 h1 h2 h3
  go_enter Tryz.func249, Tryz.ntmps249
  go_wp2
  go_ret
  exact ⟨rfl, one_new _ _⟩
/-- Block g is a struct of four numbers, of type t, none of them frozen. -/
def Tly (w : World) (t : TypeId) (g : Nat) (a b c d : Int) : Prop := w.heap[g]? = some (.cells #[.int .i64 a, .int .i64 b, .int .i64 c, .int .i64 d] t (0, 0))
theorem Tly.lt {w : World} {t : TypeId} {g : Nat} {a b c d : Int} (h : Tly w t g a b c d) : g < w.heap.size := by
  rcases Nat.lt_or_ge g w.heap.size with hlt | hge
  · exact hlt
  · unfold Tly at h; rw [Array.getElem?_eq_none hge] at h; cases h
theorem Tly.cell {w : World} {t : TypeId} {g : Nat} {a b c d : Int} (h : Tly w t g a b c d) :
    w.cell? ⟨g, 0, none⟩ = some (.int .i64 a) ∧ w.cell? ⟨g, 1, none⟩ = some (.int .i64 b) ∧ w.cell? ⟨g, 2, none⟩ = some (.int .i64 c) ∧ w.cell? ⟨g, 3, none⟩ = some (.int .i64 d) := by
  unfold Tly at h
  simp [World.cell?, h]
theorem Tly.frozen {w : World} {t : TypeId} {g : Nat} {a b c d : Int} (h : Tly w t g a b c d) (o : Nat) : w.frozen? ⟨g, o, none⟩ = false := by
  unfold Tly at h
  simp [World.frozen?, h]
theorem Tly.below {w w' : World} {t : TypeId} {g : Nat} {a b c d : Int} (h : Tly w t g a b c d) (hb : Below w.heap.size w w') : Tly w' t g a b c d := (hb.block g h.lt).trans h
theorem Tly.after {w w' : World} (hb : Below w.heap.size w w') {t : TypeId} {g : Nat} {a b c d : Int} (h : Tly w t g a b c d) : Tly w' t g a b c d := h.below hb
theorem Tly.new (w : World) (t : TypeId) (a b c d : Int) : Tly (w.alloc (.cells #[.int .i64 a, .int .i64 b, .int .i64 c, .int .i64 d] t)) t w.heap.size a b c d := heap_alloc_new w _
theorem Tly.alloc {w : World} {t : TypeId} {g : Nat} {a b c d : Int} (h : Tly w t g a b c d) (o : Obj) : Tly (w.alloc o) t g a b c d := (Below.heap_alloc w o g h.lt).trans h
/-- Four stores. -/
def put4 (w : World) (g : Nat) (a b c d : Int) : World :=
  (((w.setCell ⟨g, 0, none⟩ (.int .i64 a)).setCell ⟨g, 1, none⟩ (.int .i64 b)).setCell ⟨g, 2, none⟩ (.int .i64 c)).setCell ⟨g, 3, none⟩ (.int .i64 d)
theorem Tly.put {w : World} {t : TypeId} {g : Nat} {a b c d : Int} (h : Tly w t g a b c d) (a' b' c' d' : Int) : Tly (put4 w g a' b' c' d') t g a' b' c' d' := by
  unfold Tly at h
  simp [Tly, put4, World.setCell, Array.getElem?_modify, h]
theorem Tly.far {w : World} {t : TypeId} {g h : Nat} {a b c d : Int} (hT : Tly w t g a b c d) (hne : g ≠ h) (a' b' c' d' : Int) : Tly (put4 w h a' b' c' d') t g a b c d := by
  have e : (put4 w h a' b' c' d').heap[g]? = w.heap[g]? := by
    unfold put4
    rw [Below.heap_setCell _ _ _ _ hne, Below.heap_setCell _ _ _ _ hne, Below.heap_setCell _ _ _ _ hne, Below.heap_setCell _ _ _ _ hne]
  exact e.trans hT
theorem put4_below {B g : Nat} {a w : World} (hb : Below B a w) (hg : B ≤ g) (a' b' c' d' : Int) : Below B a (put4 w g a' b' c' d') :=
  (((hb.setCell (p := ⟨g, 0, none⟩) hg _).setCell (p := ⟨g, 1, none⟩) hg _).setCell (p := ⟨g, 2, none⟩) hg _).setCell (p := ⟨g, 3, none⟩) hg _
theorem Tly.drew {w : World} {t : TypeId} {g : Nat} {a b c d : Int} (h : Tly w t g a b c d) : Tly w.drew t g a b c d := h

end Go.Proofs.YtkeckbmhaplkpaaGreatDoor.Tl
/- What Of hands back: the four counts of a text. -/
namespace Go.Proofs.YtkeckbmhaplkpaaGreatDoor.Tl
open Go.RowKit Go.Sort
open M

theorem byte_bd (s : ByteArray) (k : Nat) (h : k < s.size) : 0 ≤ ((s[k]).toNat : Int) ∧ ((s[k]).toNat : Int) ≤ 255 := by
  have := (s[k]).toNat_lt
  omega
theorem tot_byte (f : Int → Int) (s : ByteArray) (k : Nat) (h : k < s.size) : tot f (s.data.toList.take (k + 1)) = tot f (s.data.toList.take k) + f ((s[k]).toNat : Int) :=
  tot_snoc f s.data.toList k (by simpa using h)

set_option maxHeartbeats 2000000 in
theorem of_any (s : ByteArray) (w : World) (hs : s.size ≤ 1048576) :
    Calls Tryz.prog 244 #[.string s] w fun e w' =>
      e = .returned (.agg #[.int .i64 (tot one s.data.toList), .int .i64 (tot wK s.data.toList), .int .i64 (tot wR s.data.toList), .int .i64 (tot wU s.data.toList)]) ∧ Below w.heap.size w w' := by
  go_enter Tryz.func244, Tryz.ntmps244
  go_wp2
  go_loopw [4] (fun i wr => ∃ k : Nat, k ≤ s.size ∧ i = .int .i64 k ∧ Tly wr 237 (w.heap.size + 1) (tot one (s.data.toList.take k)) (tot wK (s.data.toList.take k)) (tot wR (s.data.toList.take k)) (tot wU (s.data.toList.take k)) ∧
      Tly wr 237 w.heap.size 0 0 0 0 ∧ Below w.heap.size w wr) (fun i _ => s.size - (intOf i).toNat)
  case atStart => exact ⟨0, Nat.zero_le _, rfl, by simpa [tot] using Tly.new (w.alloc (.cells #[.int .i64 0, .int .i64 0, .int .i64 0, .int .i64 0] 237)) 237 0 0 0 0, (Tly.new w 237 0 0 0 0).alloc _, two_new _ _ _⟩
  case round =>
    obtain ⟨k, hk, rfl, ht, hr, hb⟩ := hrel
    by_cases hlt : k < s.size
    · have hl := tot_bd one one_bd (s.data.toList.take k)
      have hl1 := tot_bd wK wK_bd (s.data.toList.take k)
      have hl2 := tot_bd wR wR_bd (s.data.toList.take k)
      have hl3 := tot_bd wU wU_bd (s.data.toList.take k)
      have hlen : (s.data.toList.take k).length ≤ k := List.length_take_le _ _
      generalize hA : tot one (s.data.toList.take k) = A at *
      generalize hB : tot wK (s.data.toList.take k) = B at *
      generalize hC : tot wR (s.data.toList.take k) = C at *
      generalize hD : tot wU (s.data.toList.take k) = D at *
      have HA := Lib.hid hA; have HB := Lib.hid hB; have HC := Lib.hid hC; have HD := Lib.hid hD
      clear hA hB hC hD
      obtain ⟨c0, c1, c2, c3⟩ := ht.cell
      have fz := fun o => ht.frozen o
      have hbt := byte_bd s k hlt
      have g0 := one_bd (s[k].toNat : Int)
      have g1 := wK_bd (s[k].toNat : Int)
      have g2 := wR_bd (s[k].toNat : Int)
      have g3 := wU_bd (s[k].toNat : Int)
      go_wp2
      go_region_with (first
        | (go_at_call 298; refine (byteTally_any _ (by omega) (by omega) _).mono ?_; rintro e w1 ⟨rfl, hb1⟩; have ht1 := Tly.after hb1 ht; obtain ⟨c10, c11, c12, c13⟩ := ht1.cell; have fz1 := fun o => ht1.frozen o)
        | (go_at_call 297; refine (plus_any _ _ _ _ _ _ _ _ _ (by omega) (by omega) (by omega) (by omega) (by omega) (by omega) (by omega) (by omega)).mono ?_; rintro e w2 ⟨rfl, hb2⟩; have ht2 := Tly.after hb2 ht1; obtain ⟨c20, c21, c22, c23⟩ := ht2.cell; have fz2 := fun o => ht2.frozen o))
      all_goals go_wp2
      all_goals
        have q : Below w.heap.size w w2 := (hb.drew.trans (hb1.mono hb.size)).trans (hb2.mono (Nat.le_trans hb.size hb1.size))
        have hr2 : Tly w2 237 w.heap.size 0 0 0 0 := Tly.after hb2 (Tly.after hb1 hr)
        clear c0 c1 c2 c3 c10 c11 c12 c13 c20 c21 c22 c23 fz fz1 fz2
        go_roundw
        case rel =>
          refine ⟨k + 1, by omega, by go_num, ?_, hr2.far (by omega) _ _ _ _, put4_below q (by omega) _ _ _ _⟩
          rw [tot_byte one s k hlt, tot_byte wK s k hlt, tot_byte wR s k hlt, tot_byte wU s k hlt, HA.out, HB.out, HC.out, HD.out]
          exact ht2.put _ _ _ _
        case measure => simp [intOf]; omega
    · obtain rfl : k = s.size := by omega
      have e : s.data.toList.take s.size = s.data.toList := List.take_of_length_le (by simp)
      rw [e] at ht
      clear e
      generalize hA : tot one s.data.toList = A at ht
      generalize hB : tot wK s.data.toList = B at ht
      generalize hC : tot wR s.data.toList = C at ht
      generalize hD : tot wU s.data.toList = D at ht
      have HA := Lib.hid hA; have HB := Lib.hid hB; have HC := Lib.hid hC; have HD := Lib.hid hD
      clear hA hB hC hD
      obtain ⟨c0, c1, c2, c3⟩ := ht.cell
      obtain ⟨d0, d1, d2, d3⟩ := hr.cell
      have fz := fun o => hr.frozen o
      go_wp2
      have hF := hr.put A B C D
      have hG := put4_below hb (Nat.le_refl _) A B C D
      change bodyPost _ _ _ _ _ (put4 wr w.heap.size A B C D)
      generalize put4 wr w.heap.size A B C D = wf at *
      clear d0 d1 d2 d3 fz
      obtain ⟨x0, x1, x2, x3⟩ := hF.cell
      exact bodyPost_ret (v := .agg #[.int .i64 A, .int .i64 B, .int .i64 C, .int .i64 D]) (by simp [results, Tryz.results244, go_sem, x0, x1, x2, x3]) rfl ⟨by rw [HA.out, HB.out, HC.out, HD.out], hG⟩
end Go.Proofs.YtkeckbmhaplkpaaGreatDoor.Tl
/- What Low and tally's Upto hand back: the greatest front that has at most n by a way. -/
namespace Go.Proofs.YtkeckbmhaplkpaaGreatDoor.Tl
open Go.RowKit Go.Sort
open M

def low (x n : Int) : Int := (x % 18446744073709551616) % n
theorem low_bd (x n : Int) (h : 1 ≤ n) : 0 ≤ low x n ∧ low x n < n := by
  unfold low
  exact ⟨Int.emod_nonneg _ (by omega), Int.emod_lt_of_pos _ (by omega)⟩
theorem low_eq (x n : Int) (h1 : 1 ≤ n) (h2 : n ≤ 1048576) : wrap64 ((IntKind.u64.wrap x).tmod n) = low x n := by
  have e : IntKind.u64.wrap x = x % 18446744073709551616 := IntKind.wrap_u64 x
  have h := low_bd x n h1
  unfold low at h ⊢
  rw [e, Int.tmod_eq_emod_of_nonneg (Int.emod_nonneg _ (by omega))]
  generalize x % 18446744073709551616 % n = r at *
  unfold wrap64
  omega
theorem low_any (x n : Int) (h1 : 1 ≤ n) (h2 : n ≤ 1048576) (w : World) :
    Calls Tryz.prog 6 #[.int .i64 x, .int .i64 n] w fun e w' => e = .returned (.int .i64 (low x n)) ∧ w = w' := by
  go_enter Tryz.func6, Tryz.ntmps6
  go_wp2
  go_ret
  exact ⟨congrArg (fun z => Ending.returned (.int .i64 z)) (low_eq x n h1 h2), rfl⟩
theorem byw_any (n way : Int) (w : World) :
    Calls Tryz.prog 249 #[.agg #[.int .i64 1, .int .i64 (wK n), .int .i64 (wR n), .int .i64 (wU n)], .int .i64 way] w fun e w' => e = .returned (.int .i64 (wBy way n)) ∧ Below w.heap.size w w' := by_any _ _ _ _ _ _

theorem ret_i {a b : Int} (h : a = b) : Ending.returned (.int .i64 a) = Ending.returned (.int .i64 b) := by rw [h]

def uptoR (s : ByteArray) (way n : Int) : Int := if n < 0 ∨ way < 0 ∨ 3 < way then -1 else (upto (wBy way) s.data.toList n : Int)

set_option maxHeartbeats 1000000 in
theorem upto_any (s : ByteArray) (way n : Int) (w : World) (hs : s.size ≤ 1048576) (hn : n ≤ 9223372036854775807) :
    Calls Tryz.prog 250 #[.string s, .int .i64 way, .int .i64 n] w fun e w' => e = .returned (.int .i64 (uptoR s way n)) ∧ Below w.heap.size w w' := by
  by_cases h0 : n < 0
  · have hv : uptoR s way n = -1 := by simp [uptoR, h0]
    rw [hv]; clear hv
    go_enter Tryz.func250, Tryz.ntmps250
    go_wp2
    go_ret
    exact ⟨rfl, Below.refl _ _⟩
  by_cases h1 : way < 0
  · have hv : uptoR s way n = -1 := by simp [uptoR, h1]
    rw [hv]; clear hv
    have h0' : decide (n < 0) = false := by simpa using h0
    clear h0
    go_enter Tryz.func250, Tryz.ntmps250
    go_wp2
    go_ret
    exact ⟨rfl, Below.refl _ _⟩
  by_cases h2 : 3 < way
  · have hv : uptoR s way n = -1 := by simp [uptoR, h2]
    rw [hv]; clear hv
    have h0' : decide (n < 0) = false := by simpa using h0
    have h1' : decide (way < 0) = false := by simpa using h1
    clear h0 h1
    go_enter Tryz.func250, Tryz.ntmps250
    go_wp2
    go_ret
    exact ⟨rfl, Below.refl _ _⟩
  have hv : uptoR s way n = (upto (wBy way) s.data.toList n : Int) := by simp [uptoR, h0, h1, h2]
  rw [hv]; clear hv
  have h0' : decide (n < 0) = false := by simpa using h0
  have h1' : decide (way < 0) = false := by simpa using h1
  have h2' : decide (3 < way) = false := by simpa using h2
  have hn0 : 0 ≤ n := by omega
  clear h0 h1 h2
  go_enter Tryz.func250, Tryz.ntmps250
  go_wp2
  go_loopw [7, 8, 9] (fun left i _ wr => ∃ (k : Nat) (r : Int), k ≤ s.size ∧ i = .int .i64 k ∧ 0 ≤ r ∧ r ≤ 9223372036854775807 ∧ left = .int .i64 r ∧ Hid ((upto (wBy way) s.data.toList n : Int) = k + upto (wBy way) (s.data.toList.drop k) r) ∧ Below w.heap.size w wr)
    (fun _ i _ _ => s.size - (intOf i).toNat)
  case atStart => exact ⟨0, n, Nat.zero_le _, rfl, hn0, hn, rfl, Lib.hid (by simp), Below.refl _ _⟩
  case round =>
    obtain ⟨k, r, hk, rfl, hr0, hr1, rfl, H, hb⟩ := hrel
    by_cases hlt : k < s.size
    · have hbt := byte_bd s k hlt
      have g := wBy_bd way (s[k].toNat : Int)
      have hd := upto_drop (wBy way) s.data.toList k (by simpa using hlt) r
      rw [show (s.data.toList[k]'(by simpa using hlt)) = s[k] from rfl] at hd
      have HD := Lib.hid hd
      clear hd
      by_cases hc : r < wBy way (s[k].toNat : Int)
      · have fin : (upto (wBy way) s.data.toList n : Int) = k := by rw [H.out, HD.out, if_pos hc]; simp
        have F := Lib.hid fin
        clear fin
        go_wp2_with fail
        refine (byteTally_any _ hbt.1 hbt.2 _).mono ?_
        rintro e w1 ⟨rfl, hb1⟩
        go_wp2_with fail
        refine (byw_any _ _ _).mono ?_
        rintro e w2 ⟨rfl, hb2⟩
        go_wp2
        go_ret
        exact ⟨ret_i F.out.symm, (hb.trans (hb1.mono hb.size)).trans (hb2.mono (Nat.le_trans hb.size hb1.size))⟩
      · have nx : (upto (wBy way) s.data.toList n : Int) = ((k + 1 : Nat) : Int) + upto (wBy way) (s.data.toList.drop (k + 1)) (r - wBy way (s[k].toNat : Int)) := by
          rw [H.out, HD.out, if_neg hc]; omega
        have N := Lib.hid nx
        clear nx
        have hc' : decide (r < wBy way (s[k].toNat : Int)) = false := by simpa using hc
        have hc2 : wBy way (s[k].toNat : Int) ≤ r := by omega
        clear hc
        go_wp2_with fail
        refine (byteTally_any _ hbt.1 hbt.2 _).mono ?_
        rintro e w1 ⟨rfl, hb1⟩
        go_wp2_with fail
        refine (byw_any _ _ _).mono ?_
        rintro e w2 ⟨rfl, hb2⟩
        go_wp2
        go_roundw
        case rel => exact ⟨k + 1, _, by omega, by go_num, by omega, by omega, rfl, N, (hb.trans (hb1.mono hb.size)).trans (hb2.mono (Nat.le_trans hb.size hb1.size))⟩
        case measure => simp [intOf]; omega
    · obtain rfl : k = s.size := by omega
      have fin : (upto (wBy way) s.data.toList n : Int) = s.size := by
        rw [H.out, List.drop_of_length_le (by simp)]; simp [upto]
      have F := Lib.hid fin
      clear fin
      go_wp2
      go_ret
      exact ⟨ret_i F.out.symm, hb⟩
end Go.Proofs.YtkeckbmhaplkpaaGreatDoor.Tl
