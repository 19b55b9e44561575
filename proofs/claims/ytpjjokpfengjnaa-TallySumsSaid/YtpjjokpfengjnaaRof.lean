/- What the reference's Lead and Of hand back: the same four counts of a text. -/
import Derived.Test.YtpjjokpfengjnaaOf
namespace Go.Proofs.Ytpjjokpfengjnaa
open Go.RowKit Go.Sort
open M

theorem rlead_yes (n : Int) (_h : n < 128 ∨ 191 < n) (w : World) : Calls Try.prog 23 #[.int .u8 n] w fun e w' => e = .returned (.bool true) ∧ w = w' := by
  by_cases a : n < 128
  · go_enter Try.func23, Try.ntmps23
    go_wp2
    go_ret
    exact ⟨rfl, rfl⟩
  · have b : 191 < n := by omega
    have a' : decide (n < 128) = false := by simpa using a
    clear _h
    go_enter Try.func23, Try.ntmps23
    go_wp2
    go_ret
    exact ⟨rfl, rfl⟩
theorem rlead_no (n : Int) (h : ¬ (n < 128 ∨ 191 < n)) (w : World) : Calls Try.prog 23 #[.int .u8 n] w fun e w' => e = .returned (.bool false) ∧ w = w' := by
  have a' : decide (n < 128) = false := by simp; omega
  have b' : decide (191 < n) = false := by simp; omega
  clear h
  go_enter Try.func23, Try.ntmps23
  go_wp2
  go_ret
  exact ⟨rfl, rfl⟩

theorem Tly.far1 {w : World} {t : TypeId} {g : Nat} {a b c d : Int} (hT : Tly w t g a b c d) {p : Addr} (hne : g ≠ p.block) (u : Value) : Tly (w.setCell p u) t g a b c d :=
  (Below.heap_setCell w p u g hne).trans hT

set_option maxHeartbeats 2000000 in
theorem rof_any (s : ByteArray) (w : World) (hs : s.size ≤ 1048576) :
    Calls Try.prog 13 #[.string s] w fun e w' =>
      e = .returned (.agg #[.int .i64 (tot one s.data.toList), .int .i64 (tot wK s.data.toList), .int .i64 (tot wR s.data.toList), .int .i64 (tot wU s.data.toList)]) ∧ Below w.heap.size w w' := by
  go_enter Try.func13, Try.ntmps13
  go_wp2
  go_loopw [4] (fun i wr => ∃ k : Nat, k ≤ s.size ∧ i = .int .i64 k ∧ Tly wr 26 (w.heap.size + 1) (tot one (s.data.toList.take k)) (tot wK (s.data.toList.take k)) (tot wR (s.data.toList.take k)) (tot wU (s.data.toList.take k)) ∧
      Tly wr 26 w.heap.size 0 0 0 0 ∧ Below w.heap.size w wr) (fun i _ => s.size - (intOf i).toNat)
  case atStart => exact ⟨0, Nat.zero_le _, rfl, by simpa [tot] using Tly.new (w.alloc (.cells #[.int .i64 0, .int .i64 0, .int .i64 0, .int .i64 0] 26)) 26 0 0 0 0, (Tly.new w 26 0 0 0 0).alloc _, two_new _ _ _⟩
  case round =>
    obtain ⟨k, hk, rfl, ht, hr, hb⟩ := hrel
    by_cases hlt : k < s.size
    · have hl := tot_bd one one_bd (s.data.toList.take k)
      have hl1 := tot_bd wK wK_bd (s.data.toList.take k)
      have hl2 := tot_bd wR wR_bd (s.data.toList.take k)
      have hl3 := tot_bd wU wU_bd (s.data.toList.take k)
      have hlen : (s.data.toList.take k).length ≤ k := List.length_take_le _ _
      have hbt := byte_bd s k hlt
      have t0 := tot_byte one s k hlt
      have t1 := tot_byte wK s k hlt
      have t2 := tot_byte wR s k hlt
      have t3 := tot_byte wU s k hlt
      generalize tot one (s.data.toList.take k) = A at *
      generalize tot wK (s.data.toList.take k) = B at *
      generalize tot wR (s.data.toList.take k) = C at *
      generalize tot wU (s.data.toList.take k) = D at *
      obtain ⟨c0, c1, c2, c3⟩ := ht.cell
      have fz := fun o => ht.frozen o
      have hn : ∀ n : Int, n = (s[k].toNat : Int) → (n = 10 ∧ wK n = 1 ∧ wR n = 1 ∧ wU n = 1) ∨ (n ≠ 10 ∧ n < 128 ∧ wK n = 0 ∧ wR n = 1 ∧ wU n = 1) ∨ (128 ≤ n ∧ n ≤ 191 ∧ wK n = 0 ∧ wR n = 0 ∧ wU n = 0) ∨ (191 < n ∧ n < 240 ∧ wK n = 0 ∧ wR n = 1 ∧ wU n = 1) ∨ (240 ≤ n ∧ wK n = 0 ∧ wR n = 1 ∧ wU n = 2) := by
        intro n _
        unfold wK wR wU
        by_cases a : n = 10
        · subst a; simp
        · by_cases b : n < 128
          · simp [a, b]
          · by_cases c : n ≤ 191
            · simp [a, b, c]; omega
            · by_cases d : n < 240
              · simp [a, b, c, d]; omega
              · simp [a, b, c, d]; omega
      rcases hn _ rfl with ⟨a, v1, v2, v3⟩ | ⟨a, b, v1, v2, v3⟩ | ⟨a, b, v1, v2, v3⟩ | ⟨a, b, v1, v2, v3⟩ | ⟨a, v1, v2, v3⟩
      all_goals rw [v1] at t1; rw [v2] at t2; rw [v3] at t3
      all_goals have T0 := Lib.hid t0; have T1 := Lib.hid t1; have T2 := Lib.hid t2; have T3 := Lib.hid t3
      all_goals clear t0 t1 t2 t3 v1 v2 v3 hn
      case inl =>
        have e1 : ((s[k].toNat : Int) == 10) = true := by simpa using a
        have e2 : decide (240 ≤ (s[k].toNat : Int)) = false := by simp; omega
        have hl' : (s[k].toNat : Int) < 128 ∨ 191 < (s[k].toNat : Int) := by omega
        clear a
        go_wp2_with (go_at_call 23; refine (rlead_yes _ hl' _).mono ?_; rintro e w1 ⟨rfl, rfl⟩)
        go_roundw
        case rel =>
          refine ⟨k + 1, by omega, by go_num, ?_, ?_, ?_⟩
          · rw [T0.out, T1.out, T2.out, T3.out]
            unfold Tly at ht ⊢
            simp [World.setCell, Array.getElem?_modify, ht, one]
          · repeat (refine Tly.far1 ?_ (by simp) _)
            exact hr
          · repeat (refine Below.setCell ?_ (by simp) _)
            exact hb
        case measure => simp [intOf]; omega
      case inr.inl =>
        have e1 : ((s[k].toNat : Int) == 10) = false := by simp only [beq_eq_false_iff_ne]; omega
        have e2 : decide (240 ≤ (s[k].toNat : Int)) = false := by simp; omega
        have hl' : (s[k].toNat : Int) < 128 ∨ 191 < (s[k].toNat : Int) := by omega
        clear a
        go_wp2_with (go_at_call 23; refine (rlead_yes _ hl' _).mono ?_; rintro e w1 ⟨rfl, rfl⟩)
        go_roundw
        case rel =>
          refine ⟨k + 1, by omega, by go_num, ?_, ?_, ?_⟩
          · rw [T0.out, T1.out, T2.out, T3.out]
            unfold Tly at ht ⊢
            simp [World.setCell, Array.getElem?_modify, ht, one]
          · repeat (refine Tly.far1 ?_ (by simp) _)
            exact hr
          · repeat (refine Below.setCell ?_ (by simp) _)
            exact hb
        case measure => simp [intOf]; omega
      case inr.inr.inl =>
        have e1 : ((s[k].toNat : Int) == 10) = false := by simp only [beq_eq_false_iff_ne]; omega
        have e2 : decide (240 ≤ (s[k].toNat : Int)) = false := by simp; omega
        have hl' : ¬ ((s[k].toNat : Int) < 128 ∨ 191 < (s[k].toNat : Int)) := by omega
        clear a
        go_wp2_with (go_at_call 23; refine (rlead_no _ hl' _).mono ?_; rintro e w1 ⟨rfl, rfl⟩)
        go_roundw
        case rel =>
          refine ⟨k + 1, by omega, by go_num, ?_, ?_, ?_⟩
          · rw [T0.out, T1.out, T2.out, T3.out]
            unfold Tly at ht ⊢
            simp [World.setCell, Array.getElem?_modify, ht, one]
          · repeat (refine Tly.far1 ?_ (by simp) _)
            exact hr
          · repeat (refine Below.setCell ?_ (by simp) _)
            exact hb
        case measure => simp [intOf]; omega
      case inr.inr.inr.inl =>
        have e1 : ((s[k].toNat : Int) == 10) = false := by simp only [beq_eq_false_iff_ne]; omega
        have e2 : decide (240 ≤ (s[k].toNat : Int)) = false := by simp; omega
        have hl' : (s[k].toNat : Int) < 128 ∨ 191 < (s[k].toNat : Int) := by omega
        clear a
        go_wp2_with (go_at_call 23; refine (rlead_yes _ hl' _).mono ?_; rintro e w1 ⟨rfl, rfl⟩)
        go_roundw
        case rel =>
          refine ⟨k + 1, by omega, by go_num, ?_, ?_, ?_⟩
          · rw [T0.out, T1.out, T2.out, T3.out]
            unfold Tly at ht ⊢
            simp [World.setCell, Array.getElem?_modify, ht, one]
          · repeat (refine Tly.far1 ?_ (by simp) _)
            exact hr
          · repeat (refine Below.setCell ?_ (by simp) _)
            exact hb
        case measure => simp [intOf]; omega
      case inr.inr.inr.inr =>
        have e1 : ((s[k].toNat : Int) == 10) = false := by simp only [beq_eq_false_iff_ne]; omega
        have e2 : 240 ≤ (s[k].toNat : Int) := by omega
        have hl' : (s[k].toNat : Int) < 128 ∨ 191 < (s[k].toNat : Int) := by omega
        clear a
        go_wp2_with (go_at_call 23; refine (rlead_yes _ hl' _).mono ?_; rintro e w1 ⟨rfl, rfl⟩)
        go_roundw
        case rel =>
          refine ⟨k + 1, by omega, by go_num, ?_, ?_, ?_⟩
          · rw [T0.out, T1.out, T2.out, T3.out]
            unfold Tly at ht ⊢
            simp [World.setCell, Array.getElem?_modify, ht, one]
            omega
          · repeat (refine Tly.far1 ?_ (by simp) _)
            exact hr
          · repeat (refine Below.setCell ?_ (by simp) _)
            exact hb
        case measure => simp [intOf]; omega
    · obtain rfl : k = s.size := by omega
      have e : s.data.toList.take s.size = s.data.toList := List.take_of_length_le (by simp)
      rw [e] at ht
      clear e
      generalize hA : tot one s.data.toList = A at ht
      generalize hB : tot wK s.data.toList = B at ht
      generalize hC : tot wR s.data.toList = C at ht
      generalize hD : tot wU s.data.toList = D at ht
      have HA := Lib.hid hA; have HB := Lib.hid hB; have HC := Lib.hid hC; have HD := Lib.hid hD
      clear hA hB hC hD
      obtain ⟨c0, c1, c2, c3⟩ := ht.cell
      obtain ⟨d0, d1, d2, d3⟩ := hr.cell
      have fz := fun o => hr.frozen o
      go_wp2
      have hF := hr.put A B C D
      have hG := put4_below hb (Nat.le_refl _) A B C D
      change bodyPost _ _ _ _ _ (put4 wr w.heap.size A B C D)
      generalize put4 wr w.heap.size A B C D = wf at *
      clear d0 d1 d2 d3 fz
      obtain ⟨x0, x1, x2, x3⟩ := hF.cell
      exact bodyPost_ret (v := .agg #[.int .i64 A, .int .i64 B, .int .i64 C, .int .i64 D]) (by simp [results, Try.results13, go_sem, x0, x1, x2, x3]) rfl ⟨by rw [HA.out, HB.out, HC.out, HD.out], hG⟩
end Go.Proofs.Ytpjjokpfengjnaa
