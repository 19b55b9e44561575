/- What Of hands back: the four counts of a text. -/
import Derived.Test.YtpjjokpfengjnaaCalls
namespace Go.Proofs.Ytpjjokpfengjnaa
open Go.RowKit Go.Sort
open M

theorem byte_bd (s : ByteArray) (k : Nat) (h : k < s.size) : 0 ≤ ((s[k]).toNat : Int) ∧ ((s[k]).toNat : Int) ≤ 255 := by
  have := (s[k]).toNat_lt
  omega
theorem tot_byte (f : Int → Int) (s : ByteArray) (k : Nat) (h : k < s.size) : tot f (s.data.toList.take (k + 1)) = tot f (s.data.toList.take k) + f ((s[k]).toNat : Int) :=
  tot_snoc f s.data.toList k (by simpa using h)

set_option maxHeartbeats 2000000 in
theorem of_any (s : ByteArray) (w : World) (hs : s.size ≤ 1048576) :
    Calls Try.prog 12 #[.string s] w fun e w' =>
      e = .returned (.agg #[.int .i64 (tot one s.data.toList), .int .i64 (tot wK s.data.toList), .int .i64 (tot wR s.data.toList), .int .i64 (tot wU s.data.toList)]) ∧ Below w.heap.size w w' := by
  go_enter Try.func12, Try.ntmps12
  go_wp2
  go_loopw [4] (fun i wr => ∃ k : Nat, k ≤ s.size ∧ i = .int .i64 k ∧ Tly wr 24 (w.heap.size + 1) (tot one (s.data.toList.take k)) (tot wK (s.data.toList.take k)) (tot wR (s.data.toList.take k)) (tot wU (s.data.toList.take k)) ∧
      Tly wr 24 w.heap.size 0 0 0 0 ∧ Below w.heap.size w wr) (fun i _ => s.size - (intOf i).toNat)
  case atStart => exact ⟨0, Nat.zero_le _, rfl, by simpa [tot] using Tly.new (w.alloc (.cells #[.int .i64 0, .int .i64 0, .int .i64 0, .int .i64 0] 24)) 24 0 0 0 0, (Tly.new w 24 0 0 0 0).alloc _, two_new _ _ _⟩
  case round =>
    obtain ⟨k, hk, rfl, ht, hr, hb⟩ := hrel
    by_cases hlt : k < s.size
    · have hl := tot_bd one one_bd (s.data.toList.take k)
      have hl1 := tot_bd wK wK_bd (s.data.toList.take k)
      have hl2 := tot_bd wR wR_bd (s.data.toList.take k)
      have hl3 := tot_bd wU wU_bd (s.data.toList.take k)
      have hlen : (s.data.toList.take k).length ≤ k := List.length_take_le _ _
      generalize hA : tot one (s.data.toList.take k) = A at *
      generalize hB : tot wK (s.data.toList.take k) = B at *
      generalize hC : tot wR (s.data.toList.take k) = C at *
      generalize hD : tot wU (s.data.toList.take k) = D at *
      have HA := Lib.hid hA; have HB := Lib.hid hB; have HC := Lib.hid hC; have HD := Lib.hid hD
      clear hA hB hC hD
      obtain ⟨c0, c1, c2, c3⟩ := ht.cell
      have fz := fun o => ht.frozen o
      have hbt := byte_bd s k hlt
      have g0 := one_bd (s[k].toNat : Int)
      have g1 := wK_bd (s[k].toNat : Int)
      have g2 := wR_bd (s[k].toNat : Int)
      have g3 := wU_bd (s[k].toNat : Int)
      go_wp2
      go_region_with (first
        | (go_at_call 22; refine (byteTally_any _ (by omega) (by omega) _).mono ?_; rintro e w1 ⟨rfl, hb1⟩; have ht1 := Tly.after hb1 ht; obtain ⟨c10, c11, c12, c13⟩ := ht1.cell; have fz1 := fun o => ht1.frozen o)
        | (go_at_call 15; refine (plus_any _ _ _ _ _ _ _ _ _ (by omega) (by omega) (by omega) (by omega) (by omega) (by omega) (by omega) (by omega)).mono ?_; rintro e w2 ⟨rfl, hb2⟩; have ht2 := Tly.after hb2 ht1; obtain ⟨c20, c21, c22, c23⟩ := ht2.cell; have fz2 := fun o => ht2.frozen o))
      all_goals go_wp2
      all_goals
        have q : Below w.heap.size w w2 := (hb.drew.trans (hb1.mono hb.size)).trans (hb2.mono (Nat.le_trans hb.size hb1.size))
        have hr2 : Tly w2 24 w.heap.size 0 0 0 0 := Tly.after hb2 (Tly.after hb1 hr)
        clear c0 c1 c2 c3 c10 c11 c12 c13 c20 c21 c22 c23 fz fz1 fz2
        go_roundw
        case rel =>
          refine ⟨k + 1, by omega, by go_num, ?_, hr2.far (by omega) _ _ _ _, put4_below q (by omega) _ _ _ _⟩
          rw [tot_byte one s k hlt, tot_byte wK s k hlt, tot_byte wR s k hlt, tot_byte wU s k hlt, HA.out, HB.out, HC.out, HD.out]
          exact ht2.put _ _ _ _
        case measure => simp [intOf]; omega
    · obtain rfl : k = s.size := by omega
      have e : s.data.toList.take s.size = s.data.toList := List.take_of_length_le (by simp)
      rw [e] at ht
      clear e
      generalize hA : tot one s.data.toList = A at ht
      generalize hB : tot wK s.data.toList = B at ht
      generalize hC : tot wR s.data.toList = C at ht
      generalize hD : tot wU s.data.toList = D at ht
      have HA := Lib.hid hA; have HB := Lib.hid hB; have HC := Lib.hid hC; have HD := Lib.hid hD
      clear hA hB hC hD
      obtain ⟨c0, c1, c2, c3⟩ := ht.cell
      obtain ⟨d0, d1, d2, d3⟩ := hr.cell
      have fz := fun o => hr.frozen o
      go_wp2
      have hF := hr.put A B C D
      have hG := put4_below hb (Nat.le_refl _) A B C D
      change bodyPost _ _ _ _ _ (put4 wr w.heap.size A B C D)
      generalize put4 wr w.heap.size A B C D = wf at *
      clear d0 d1 d2 d3 fz
      obtain ⟨x0, x1, x2, x3⟩ := hF.cell
      exact bodyPost_ret (v := .agg #[.int .i64 A, .int .i64 B, .int .i64 C, .int .i64 D]) (by simp [results, Try.results12, go_sem, x0, x1, x2, x3]) rfl ⟨by rw [HA.out, HB.out, HC.out, HD.out], hG⟩
end Go.Proofs.Ytpjjokpfengjnaa
