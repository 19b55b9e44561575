/- Fold of two tallies, whatever they are within bounds. -/
import Derived.Test.YtpjjokpfengjnaaFold
namespace Go.Proofs.Ytpjjokpfengjnaa
open Go.RowKit Go.Sort
open M

set_option maxHeartbeats 2000000 in
theorem fold_two (a0 a1 a2 a3 b0 b1 b2 b3 : Int) (g cap : Nat) (w : World) (hg : g < w.heap.size)
    (r0 : w.cell? ⟨g, 0, none⟩ = some (.int .i64 a0)) (r1 : w.cell? ⟨g, 1, none⟩ = some (.int .i64 a1)) (r2 : w.cell? ⟨g, 2, none⟩ = some (.int .i64 a2)) (r3 : w.cell? ⟨g, 3, none⟩ = some (.int .i64 a3))
    (r4 : w.cell? ⟨g, 4, none⟩ = some (.int .i64 b0)) (r5 : w.cell? ⟨g, 5, none⟩ = some (.int .i64 b1)) (r6 : w.cell? ⟨g, 6, none⟩ = some (.int .i64 b2)) (r7 : w.cell? ⟨g, 7, none⟩ = some (.int .i64 b3))
    (p0 : -1099511627776 ≤ a0 ∧ a0 ≤ 1099511627776) (p1 : -1099511627776 ≤ a1 ∧ a1 ≤ 1099511627776) (p2 : -1099511627776 ≤ a2 ∧ a2 ≤ 1099511627776) (p3 : -1099511627776 ≤ a3 ∧ a3 ≤ 1099511627776)
    (q0 : -1099511627776 ≤ b0 ∧ b0 ≤ 1099511627776) (q1 : -1099511627776 ≤ b1 ∧ b1 ≤ 1099511627776) (q2 : -1099511627776 ≤ b2 ∧ b2 ≤ 1099511627776) (q3 : -1099511627776 ≤ b3 ∧ b3 ≤ 1099511627776) :
    Calls Try.prog 21 #[.slice (some ⟨g, 0, none⟩) 2 cap] w fun e w' =>
      e = .returned (.agg #[.int .i64 (a0 + b0), .int .i64 (a1 + b1), .int .i64 (a2 + b2), .int .i64 (a3 + b3)]) ∧ Below w.heap.size w w' := by
  go_enter Try.func21, Try.ntmps21
  go_wp2
  go_loopw [8] (fun i wr => ((i = .int .i64 0 ∧ Tly wr 24 (w.heap.size + 1) 0 0 0 0) ∨ (i = .int .i64 1 ∧ Tly wr 24 (w.heap.size + 1) a0 a1 a2 a3) ∨ (i = .int .i64 2 ∧ Tly wr 24 (w.heap.size + 1) (a0 + b0) (a1 + b1) (a2 + b2) (a3 + b3))) ∧
      Tly wr 24 w.heap.size 0 0 0 0 ∧ Below w.heap.size w wr) (fun i _ => 2 - (intOf i).toNat)
  case atStart => exact ⟨.inl ⟨rfl, by simpa using Tly.new (w.alloc (.cells #[.int .i64 0, .int .i64 0, .int .i64 0, .int .i64 0] 24)) 24 0 0 0 0⟩, (Tly.new w 24 0 0 0 0).alloc _, two_new _ _ _⟩
  case round =>
    obtain ⟨⟨rfl, ht⟩ | ⟨rfl, ht⟩ | ⟨rfl, ht⟩, hr, hb⟩ := hrel
    · have htx := ht.alloc (.cells #[.int .i64 a0, .int .i64 a1, .int .i64 a2, .int .i64 a3] 24)
      have hrx := hr.alloc (.cells #[.int .i64 a0, .int .i64 a1, .int .i64 a2, .int .i64 a3] 24)
      have hbx := hb.alloc hb.size (.cells #[.int .i64 a0, .int .i64 a1, .int .i64 a2, .int .i64 a3] 24)
      obtain ⟨c0, c1, c2, c3⟩ := ht.cell
      have hsz := hb.size
      have hlt1 := ht.lt
      have f0 := (hb.cell (p := ⟨g, 0, none⟩) hg).trans r0
      have f1 := (hb.cell (p := ⟨g, 1, none⟩) hg).trans r1
      have f2 := (hb.cell (p := ⟨g, 2, none⟩) hg).trans r2
      have f3 := (hb.cell (p := ⟨g, 3, none⟩) hg).trans r3
      have f4 := (hb.cell (p := ⟨g, 4, none⟩) hg).trans r4
      have f5 := (hb.cell (p := ⟨g, 5, none⟩) hg).trans r5
      have f6 := (hb.cell (p := ⟨g, 6, none⟩) hg).trans r6
      have f7 := (hb.cell (p := ⟨g, 7, none⟩) hg).trans r7
      have hg2 : g < wr.heap.size := by omega
      go_wp2_with fail
      refine (plus_any _ _ _ _ _ _ _ _ _ (by omega) (by omega) (by omega) (by omega) (by omega) (by omega) (by omega) (by omega)).mono ?_
      rintro e w2 ⟨rfl, hb2⟩
      have ht2 := Tly.after hb2 htx
      have hr2 := Tly.after hb2 hrx
      have q := hbx.trans (hb2.mono hbx.size)
      have fz2 := fun o => ht2.frozen o
      clear c0 c1 c2 c3 f0 f1 f2 f3 f4 f5 f6 f7
      obtain ⟨c0, c1, c2, c3⟩ := ht2.cell
      go_wp2
      clear c0 c1 c2 c3 fz2
      go_roundw
      case rel => exact ⟨(.inr (.inl ⟨rfl, ht2.put a0 a1 a2 a3⟩)), hr2.far (by omega) _ _ _ _, put4_below q (by omega) _ _ _ _⟩
      case measure => simp [intOf]
    · have htx := ht.alloc (.cells #[.int .i64 b0, .int .i64 b1, .int .i64 b2, .int .i64 b3] 24)
      have hrx := hr.alloc (.cells #[.int .i64 b0, .int .i64 b1, .int .i64 b2, .int .i64 b3] 24)
      have hbx := hb.alloc hb.size (.cells #[.int .i64 b0, .int .i64 b1, .int .i64 b2, .int .i64 b3] 24)
      obtain ⟨c0, c1, c2, c3⟩ := ht.cell
      have hsz := hb.size
      have hlt1 := ht.lt
      have f0 := (hb.cell (p := ⟨g, 0, none⟩) hg).trans r0
      have f1 := (hb.cell (p := ⟨g, 1, none⟩) hg).trans r1
      have f2 := (hb.cell (p := ⟨g, 2, none⟩) hg).trans r2
      have f3 := (hb.cell (p := ⟨g, 3, none⟩) hg).trans r3
      have f4 := (hb.cell (p := ⟨g, 4, none⟩) hg).trans r4
      have f5 := (hb.cell (p := ⟨g, 5, none⟩) hg).trans r5
      have f6 := (hb.cell (p := ⟨g, 6, none⟩) hg).trans r6
      have f7 := (hb.cell (p := ⟨g, 7, none⟩) hg).trans r7
      have hg2 : g < wr.heap.size := by omega
      go_wp2_with fail
      refine (plus_any _ _ _ _ _ _ _ _ _ (by omega) (by omega) (by omega) (by omega) (by omega) (by omega) (by omega) (by omega)).mono ?_
      rintro e w2 ⟨rfl, hb2⟩
      have ht2 := Tly.after hb2 htx
      have hr2 := Tly.after hb2 hrx
      have q := hbx.trans (hb2.mono hbx.size)
      have fz2 := fun o => ht2.frozen o
      clear c0 c1 c2 c3 f0 f1 f2 f3 f4 f5 f6 f7
      obtain ⟨c0, c1, c2, c3⟩ := ht2.cell
      go_wp2
      clear c0 c1 c2 c3 fz2
      go_roundw
      case rel => exact ⟨(.inr (.inr ⟨rfl, ht2.put _ _ _ _⟩)), hr2.far (by omega) _ _ _ _, put4_below q (by omega) _ _ _ _⟩
      case measure => simp [intOf]
    · obtain ⟨c0, c1, c2, c3⟩ := ht.cell
      obtain ⟨d0, d1, d2, d3⟩ := hr.cell
      have fz := fun o => hr.frozen o
      go_wp2
      have hF := hr.put (a0 + b0) (a1 + b1) (a2 + b2) (a3 + b3)
      have hG := put4_below hb (Nat.le_refl _) (a0 + b0) (a1 + b1) (a2 + b2) (a3 + b3)
      change bodyPost _ _ _ _ _ (put4 wr w.heap.size (a0 + b0) (a1 + b1) (a2 + b2) (a3 + b3))
      generalize put4 wr w.heap.size (a0 + b0) (a1 + b1) (a2 + b2) (a3 + b3) = wf at *
      clear d0 d1 d2 d3 fz
      obtain ⟨x0, x1, x2, x3⟩ := hF.cell
      exact bodyPost_ret (v := .agg #[.int .i64 (a0 + b0), .int .i64 (a1 + b1), .int .i64 (a2 + b2), .int .i64 (a3 + b3)]) (by simp [results, Try.results21, go_sem, x0, x1, x2, x3]) rfl ⟨rfl, hG⟩
end Go.Proofs.Ytpjjokpfengjnaa
