/- Fold's contract: the tallies of texts, put together, are those of the texts one behind the other. -/
import Derived.Test.YtpjjokpfengjnaaLawKit
namespace Go.Proofs.Ytpjjokpfengjnaa
open Go.RowKit Go.Sort
open M

/-- The tallies of texts lie in block g, four cells each. -/
def TR (w : World) (g : Nat) (Q : List (List UInt8)) : Prop := ∀ k (h : k < Q.length),
  w.cell? ⟨g, k * 4, none⟩ = some (.int .i64 (tot one Q[k])) ∧ w.cell? ⟨g, k * 4 + 1, none⟩ = some (.int .i64 (tot wK Q[k])) ∧
  w.cell? ⟨g, k * 4 + 2, none⟩ = some (.int .i64 (tot wR Q[k])) ∧ w.cell? ⟨g, k * 4 + 3, none⟩ = some (.int .i64 (tot wU Q[k]))
theorem TR.below {w w' : World} {g : Nat} {Q : List (List UInt8)} (h : TR w g Q) (hg : g < w.heap.size) (hb : Below w.heap.size w w') : TR w' g Q := fun k hk => by
  obtain ⟨c0, c1, c2, c3⟩ := h k hk
  exact ⟨(hb.cell (p := ⟨g, _, none⟩) hg).trans c0, (hb.cell (p := ⟨g, _, none⟩) hg).trans c1, (hb.cell (p := ⟨g, _, none⟩) hg).trans c2, (hb.cell (p := ⟨g, _, none⟩) hg).trans c3⟩
theorem tot_flat (f : Int → Int) (Q : List (List UInt8)) (k : Nat) (h : k < Q.length) : tot f (Q.take (k + 1)).flatten = tot f (Q.take k).flatten + tot f Q[k] := by
  rw [List.take_succ_eq_append_getElem h, List.flatten_append, tot_append]; simp
theorem flat_le (Q : List (List UInt8)) (k : Nat) : (Q.take k).flatten.length ≤ Q.flatten.length := by
  conv => rhs; rw [← List.take_append_drop k Q, List.flatten_append, List.length_append]
  omega

set_option maxHeartbeats 2000000 in
theorem fold_any (Q : List (List UInt8)) (g cap : Nat) (w : World) (hR : TR w g Q) (hg : g < w.heap.size) (hQ : Q.flatten.length ≤ 1048576) (hn : Q.length ≤ 1048576) :
    Calls Try.prog 21 #[.slice (some ⟨g, 0, none⟩) Q.length cap] w fun e w' =>
      e = .returned (.agg #[.int .i64 (tot one Q.flatten), .int .i64 (tot wK Q.flatten), .int .i64 (tot wR Q.flatten), .int .i64 (tot wU Q.flatten)]) ∧ Below w.heap.size w w' := by
  generalize hq : Q.length = n at *
  have HQ := Lib.hid hq
  clear hq
  go_enter Try.func21, Try.ntmps21
  go_wp2
  go_loopw [8] (fun i wr => ∃ k : Nat, k ≤ n ∧ i = .int .i64 k ∧ Tly wr 24 (w.heap.size + 1) (tot one (Q.take k).flatten) (tot wK (Q.take k).flatten) (tot wR (Q.take k).flatten) (tot wU (Q.take k).flatten) ∧
      Tly wr 24 w.heap.size 0 0 0 0 ∧ Below w.heap.size w wr) (fun i _ => n - (intOf i).toNat)
  case atStart => exact ⟨0, Nat.zero_le _, rfl, by simpa [tot] using Tly.new (w.alloc (.cells #[.int .i64 0, .int .i64 0, .int .i64 0, .int .i64 0] 24)) 24 0 0 0 0, (Tly.new w 24 0 0 0 0).alloc _, two_new _ _ _⟩
  case round =>
    obtain ⟨k, hk, rfl, ht, hr, hb⟩ := hrel
    by_cases hlt : k < n
    · have hkq : k < Q.length := by rw [HQ.out]; exact hlt
      have n0 := tot_flat one Q k hkq
      have n1 := tot_flat wK Q k hkq
      have n2 := tot_flat wR Q k hkq
      have n3 := tot_flat wU Q k hkq
      have hf := flat_le Q (k + 1)
      have b0 := tot_bd one one_bd (Q.take (k + 1)).flatten
      have b1 := tot_bd wK wK_bd (Q.take (k + 1)).flatten
      have b2 := tot_bd wR wR_bd (Q.take (k + 1)).flatten
      have b3 := tot_bd wU wU_bd (Q.take (k + 1)).flatten
      rw [n0] at b0; rw [n1] at b1; rw [n2] at b2; rw [n3] at b3
      obtain ⟨r0, r1, r2, r3⟩ := hR.below hg hb k hkq
      generalize hA : tot one (Q.take k).flatten = A at *
      generalize hB : tot wK (Q.take k).flatten = B at *
      generalize hC : tot wR (Q.take k).flatten = C at *
      generalize hD : tot wU (Q.take k).flatten = D at *
      generalize hE : tot one Q[k] = E at *
      generalize hF : tot wK Q[k] = F at *
      generalize hG : tot wR Q[k] = G at *
      generalize hH : tot wU Q[k] = H at *
      have N0 := Lib.hid n0; have N1 := Lib.hid n1; have N2 := Lib.hid n2; have N3 := Lib.hid n3
      clear hA hB hC hD hE hF hG hH n0 n1 n2 n3
      have htx := ht.alloc (.cells #[.int .i64 E, .int .i64 F, .int .i64 G, .int .i64 H] 24)
      have hrx := hr.alloc (.cells #[.int .i64 E, .int .i64 F, .int .i64 G, .int .i64 H] 24)
      have hbx := hb.alloc hb.size (.cells #[.int .i64 E, .int .i64 F, .int .i64 G, .int .i64 H] 24)
      obtain ⟨c0, c1, c2, c3⟩ := ht.cell
      have hsz := hb.size
      have hlt1 := ht.lt
      go_wp2_with fail
      refine (plus_any _ _ _ _ _ _ _ _ _ (by omega) (by omega) (by omega) (by omega) (by omega) (by omega) (by omega) (by omega)).mono ?_
      rintro e w2 ⟨rfl, hb2⟩
      have ht2 := Tly.after hb2 htx
      have hr2 := Tly.after hb2 hrx
      have q := hbx.trans (hb2.mono hbx.size)
      have fz2 := fun o => ht2.frozen o
      clear c0 c1 c2 c3 r0 r1 r2 r3
      obtain ⟨c0, c1, c2, c3⟩ := ht2.cell
      go_wp2
      clear c0 c1 c2 c3 fz2
      go_roundw
      case rel =>
        refine ⟨k + 1, by omega, by go_num, ?_, hr2.far (by omega) _ _ _ _, put4_below q (by omega) _ _ _ _⟩
        rw [N0.out, N1.out, N2.out, N3.out]
        exact ht2.put _ _ _ _
      case measure => simp [intOf]; omega
    · obtain rfl : k = n := by omega
      have e : Q.take k = Q := List.take_of_length_le (by rw [HQ.out]; exact Nat.le_refl _)
      rw [e] at ht
      clear e
      generalize hA : tot one Q.flatten = A at *
      generalize hB : tot wK Q.flatten = B at *
      generalize hC : tot wR Q.flatten = C at *
      generalize hD : tot wU Q.flatten = D at *
      have HA := Lib.hid hA; have HB := Lib.hid hB; have HC := Lib.hid hC; have HD := Lib.hid hD
      clear hA hB hC hD
      obtain ⟨c0, c1, c2, c3⟩ := ht.cell
      obtain ⟨d0, d1, d2, d3⟩ := hr.cell
      have fz := fun o => hr.frozen o
      go_wp2
      have hF := hr.put A B C D
      have hG := put4_below hb (Nat.le_refl _) A B C D
      change bodyPost _ _ _ _ _ (put4 wr w.heap.size A B C D)
      generalize put4 wr w.heap.size A B C D = wf at *
      clear d0 d1 d2 d3 fz
      obtain ⟨x0, x1, x2, x3⟩ := hF.cell
      exact bodyPost_ret (v := .agg #[.int .i64 A, .int .i64 B, .int .i64 C, .int .i64 D]) (by simp [results, Try.results21, go_sem, x0, x1, x2, x3]) rfl ⟨by rw [HA.out, HB.out, HC.out, HD.out], hG⟩
theorem fold_nil (w : World) :
    Calls Try.prog 21 #[.slice none 0 0] w fun e w' => e = .returned (.agg #[.int .i64 0, .int .i64 0, .int .i64 0, .int .i64 0]) ∧ Below w.heap.size w w' := by
  go_enter Try.func21, Try.ntmps21
  go_wp2
  go_loopw [8] (fun i wr => i = .int .i64 0 ∧ Tly wr 24 (w.heap.size + 1) 0 0 0 0 ∧ Tly wr 24 w.heap.size 0 0 0 0 ∧ Below w.heap.size w wr) (fun _ _ => 0)
  case atStart => exact ⟨rfl, by simpa using Tly.new (w.alloc (.cells #[.int .i64 0, .int .i64 0, .int .i64 0, .int .i64 0] 24)) 24 0 0 0 0, (Tly.new w 24 0 0 0 0).alloc _, two_new _ _ _⟩
  case round =>
    obtain ⟨rfl, ht, hr, hb⟩ := hrel
    obtain ⟨c0, c1, c2, c3⟩ := ht.cell
    obtain ⟨d0, d1, d2, d3⟩ := hr.cell
    have fz := fun o => hr.frozen o
    go_wp2
    have hF := hr.put 0 0 0 0
    have hG := put4_below hb (Nat.le_refl _) 0 0 0 0
    change bodyPost _ _ _ _ _ (put4 wr w.heap.size 0 0 0 0)
    generalize put4 wr w.heap.size 0 0 0 0 = wf at *
    clear d0 d1 d2 d3 fz
    obtain ⟨x0, x1, x2, x3⟩ := hF.cell
    exact bodyPost_ret (v := .agg #[.int .i64 0, .int .i64 0, .int .i64 0, .int .i64 0]) (by simp [results, Try.results21, go_sem, x0, x1, x2, x3]) rfl ⟨rfl, hG⟩
/-- The cells of the texts' tallies. -/
def T4 : List (List UInt8) → List Value
  | [] => []
  | l :: r => [.int .i64 (tot one l), .int .i64 (tot wK l), .int .i64 (tot wR l), .int .i64 (tot wU l)] ++ T4 r
theorem T4_snoc (Q : List (List UInt8)) (l : List UInt8) : T4 (Q ++ [l]) = T4 Q ++ [.int .i64 (tot one l), .int .i64 (tot wK l), .int .i64 (tot wR l), .int .i64 (tot wU l)] := by
  induction Q with
  | nil => rfl
  | cons m r ih => simp only [List.cons_append, T4, ih]; rfl
theorem T4_get (Q : List (List UInt8)) (k : Nat) (h : k < Q.length) :
    (T4 Q)[k * 4]? = some (.int .i64 (tot one Q[k])) ∧ (T4 Q)[k * 4 + 1]? = some (.int .i64 (tot wK Q[k])) ∧ (T4 Q)[k * 4 + 2]? = some (.int .i64 (tot wR Q[k])) ∧ (T4 Q)[k * 4 + 3]? = some (.int .i64 (tot wU Q[k])) := by
  induction Q generalizing k with
  | nil => exact absurd h (by simp)
  | cons m r ih =>
    cases k with
    | zero => exact ⟨rfl, rfl, rfl, rfl⟩
    | succ k =>
      obtain ⟨e0, e1, e2, e3⟩ := ih k (by simpa using h)
      have s : (k + 1) * 4 = k * 4 + 4 := by omega
      rw [s]
      exact ⟨e0, e1, e2, e3⟩
theorem fold_own (Q : List (List UInt8)) (v : Value) (base : Nat) (w : World) (h : w.ownsRow base 24 4 v Q.length (T4 Q)) (hQ : Q.flatten.length ≤ 1048576) (hn : Q.length ≤ 1048576) :
    Calls Try.prog 21 #[v] w fun e w' =>
      e = .returned (.agg #[.int .i64 (tot one Q.flatten), .int .i64 (tot wK Q.flatten), .int .i64 (tot wR Q.flatten), .int .i64 (tot wU Q.flatten)]) ∧ Below w.heap.size w w' := by
  have hc := @World.ownsRow.cells _ _ _ _ _ _ _ h
  have hlt := h.lt
  rcases h.2 with ⟨rfl, h0⟩ | ⟨g, cap, cur, rfl, _⟩
  · have : Q = [] := List.length_eq_zero_iff.1 h0
    subst this
    exact fold_nil w
  · refine fold_any Q g cap w (fun k hk => ?_) (hlt g rfl).2 hQ hn
    obtain ⟨e0, e1, e2, e3⟩ := T4_get Q k hk
    have a0 := hc (g := g) rfl _ _ e0
    have a1 := hc (g := g) rfl _ _ e1
    have a2 := hc (g := g) rfl _ _ e2
    have a3 := hc (g := g) rfl _ _ e3
    rw [Addr.add_lit, Nat.zero_add] at a0 a1 a2 a3
    exact ⟨a0, a1, a2, a3⟩
end Go.Proofs.Ytpjjokpfengjnaa
