/- The walk of PastTells where 'most' is one that New takes, one deed or more. -/
import Derived.Test.YtjmammphomijfaaStDeeds
namespace Go.Proofs.Ytjmammphomijfaa.pastTells
open Go.RowKit

set_option maxRecDepth 100000 in
set_option maxHeartbeats 8000000 in
theorem walk_yes (a0 : Int) (b off len0 cap0 : Nat) (ns : List Int) (w : World) (hv : 1 ≤ a0 ∧ a0 ≤ 100) (h2 : len0 ≤ 200) (hbl : b < w.heap.size) (hlen : ns.length = len0) (hcell : ∀ i (hi : i < ns.length), w.cell? ⟨b, off + i, none⟩ = some (.int .i64 ns[i])) :
    Calls Try.prog 3 #[.int .i64 a0, .slice (some ⟨b, off, none⟩) len0 cap0] w fun e w' => e = .returned (.bool true) ∧ Below w.heap.size w w' := by
  have e1 : decide (200 < (len0 : Int)) = false := by simp; omega
  obtain ⟨m, hM, hm1, hm2⟩ : ∃ m : Int, low a0 100 = m ∧ 0 ≤ m ∧ m ≤ 99 := by
    have h := low_bd a0 100 (by omega)
    exact ⟨_, rfl, by omega, by omega⟩
  have HM := Lib.hid hM
  have HC := Lib.hid hcell
  have hlen2 : len0 ≤ ns.length := by omega
  obtain ⟨hv1, hv2⟩ := hv
  obtain ⟨i0, hi, hz0, hz1, hz2⟩ := info_parts Try.info3
  clear hM hcell hlen
  go_enter Try.func3, Try.ntmps3
  go_wp2_with fail
  refine (low_any _ 100 (by omega) (by omega) _).mono ?_
  rw [HM.out]
  rintro e w1 ⟨rfl, rfl⟩
  go_wp2_with fail
  refine (newI_yes (1 + m) (by omega) (by omega) _).mono ?_
  rintro e w1 ⟨rfl, rfl⟩
  go_wp2_with fail
  refine (newI_yes a0 hv1 hv2 _).mono ?_
  rintro e w1 ⟨rfl, rfl⟩
  have hn1 : 1 ≤ 1 + m := by omega
  have hn2 : 1 + m ≤ 100 := by omega
  generalize hn : 1 + m = n at *
  clear hn
  go_wp2
  go_loopw [10, 11, 12] (fun vb va i wr => ∃ k : Nat, k ≤ len0 ∧ i = .int .i64 k ∧ Rel w n k vb va wr) (fun _ _ i _ => len0 - (intOf i).toNat)
  case atStart => exact ⟨0, Nat.zero_le _, rfl, [], [], by simp, St.new w n _⟩
  case round =>
    obtain ⟨k, hk, rfl, bl, al, hln, hS⟩ := hrel
    by_cases hlt : k < len0
    · have hc : wr.cell? ⟨b, off + k, none⟩ = some (.int .i64 (ns[k]'(by omega))) := (hS.2.cell (p := ⟨b, off + k, none⟩) hbl).trans (HC.out k (by omega))
      have hV := hS.1.choose_spec.ob
      have hU := hS.1.choose_spec.oa
      obtain ⟨d, hd, hd0, hd5⟩ : ∃ d : Int, low (ns[k]'(by omega)) 5 = d ∧ 0 ≤ d ∧ d < 5 := ⟨_, rfl, low_bd _ 5 (by omega)⟩
      have HD := Lib.hid hd
      clear hd
      have hdd : d = 0 ∨ d = 1 ∨ d = 2 ∨ d = 3 ∨ d = 4 := by omega
      rcases hdd with rfl | rfl | rfl | rfl | rfl
      · -- a push
        by_cases hm : (bl.length : Int) + 1 ≤ n
        · have hmd : decide (n < (bl.length : Int) + 1) = false := by simp; omega
          obtain ⟨a10, c10, rfl⟩ := hV.sliceLen
          go_wp2_with fail
          refine (low_any _ 5 (by omega) (by omega) _).mono ?_
          rw [HD.out]
          rintro e w2 ⟨rfl, rfl⟩
          go_wp2_with fail
          refine (stPush hS (ns[k]'(by omega)) (by omega) hn1).mono ?_
          rw [pushed, if_pos hm]
          rintro e w3 ⟨rfl, ⟨⟨F3, hS3⟩, hb3⟩⟩
          go_wp2_with (at_builtin; refine wpList_append_one _ rfl _ _ 22 rfl 3 i0 (.int .i64 0) 8 Try.underlying22 hi hz0 hz1 hz2 rfl w.heap.size (.slice a10 bl.length c10) (LI bl) rfl ?hown _ 1 (.int .i64 (ns[k]'(by omega))) rfl ?hc rfl ?b1 ?b2 ?b3 ?_)
          case hown => exact hS3.ob.alloc _
          case hc => exact new_cell _ _ _ _ rfl
          case b1 => rw [lenI]; unfold maxLen; omega
          case b2 => rw [lenI]; omega
          case b3 => have := hb3.size; simp; omega
          intro v' w4 ho hgr hblk
          rw [← snocI] at ho
          obtain ⟨g4, off4, c4, rfl, hc4, _⟩ := ho.sliceSnoc
          rw [snocI] at ho
          have hS4 := hS3.appB hb3 ho hgr hblk
          rw [← snocI] at hS4
          clear ho hgr hblk
          have hS5 : St w w.heap.size n w4 (LI (bl ++ [ns[k]'(by omega)])) (LI []) _ _ _ _ := ⟨⟨_, (hS4.1.choose_spec).noA⟩, hS4.2⟩
          go_wp2_with fail
          refine (stMany hS5 (bl.length + 1) 0 (by simp) (by simp)).mono ?_
          rintro e w8 ⟨rfl, hS8⟩
          go_wp2
          go_roundw
          case rel => exact ⟨k + 1, by omega, by go_num, _, _, by simp; omega, hS8⟩
          case measure => simp [intOf]; omega
        · obtain ⟨b0, rest, rfl⟩ : ∃ b0 rest, bl = b0 :: rest := by
            cases bl with
            | nil => simp at hm; omega
            | cons b0 r => exact ⟨b0, r, rfl⟩
          have hm' : n < (rest.length : Int) + 1 + 1 := by simpa using hm
          have hln' : rest.length + 1 + al.length ≤ k := by simpa using hln
          obtain ⟨a10, c10, rfl⟩ := hV.sliceLen
          go_wp2_with fail
          refine (low_any _ 5 (by omega) (by omega) _).mono ?_
          rw [HD.out]
          rintro e w2 ⟨rfl, rfl⟩
          go_wp2_with fail
          refine (stPush hS (ns[k]'(by omega)) (by simp; omega) hn1).mono ?_
          rw [pushed, if_neg (by omega), List.tail_cons]
          rintro e w3 ⟨rfl, ⟨⟨F3, hS3⟩, hb3⟩⟩
          clear hm
          go_wp2_with (at_builtin; refine wpList_append_one _ rfl _ _ 22 rfl 3 i0 (.int .i64 0) 8 Try.underlying22 hi hz0 hz1 hz2 rfl w.heap.size (.slice a10 (b0 :: rest).length c10) (LI (b0 :: rest)) rfl ?hown _ 1 (.int .i64 (ns[k]'(by omega))) rfl ?hc rfl ?b1 ?b2 ?b3 ?_)
          case hown => exact hS3.ob.alloc _
          case hc => exact new_cell _ _ _ _ rfl
          case b1 => rw [lenI]; unfold maxLen; simp only [List.length_cons]; omega
          case b2 => rw [lenI]; simp only [List.length_cons]; omega
          case b3 => have := hb3.size; simp; omega
          intro v' w4 ho hgr hblk
          rw [← snocI] at ho
          obtain ⟨g4, off4, c4, rfl, hc4, _⟩ := ho.sliceSnoc
          rw [snocI] at ho
          have hS4 := hS3.appB hb3 ho hgr hblk
          rw [← snocI] at hS4
          clear ho hgr hblk
          simp only [List.length_cons] at hS4 hc4
          have hc1 : ¬ c4 = 1 := by omega
          obtain ⟨⟨F4, hS4'⟩, hb4⟩ := hS4
          have hS5 := hS4'.noA
          rw [show LI (b0 :: rest ++ [ns[k]'(by omega)]) = .int .i64 b0 :: LI (rest ++ [ns[k]'(by omega)]) from rfl] at hS5
          have hS6 := hS5.tailB
          rw [lenI, show (rest ++ [ns[k]'(by omega)]).length = rest.length + 1 by simp] at hS6
          have hS7 : St w w.heap.size n w4 (LI (rest ++ [ns[k]'(by omega)])) (LI []) (.slice (some ⟨g4, off4 + 1, none⟩) (rest.length + 1) (c4 - 1)) (.slice none 0 0) (LI (rest ++ [ns[k]'(by omega)])) (LI []) := ⟨⟨_, hS6⟩, hb4⟩
          clear hS5 hS6
          go_wp2_with fail
          refine (stMany hS7 (rest.length + 1) 0 (by simp) (by simp)).mono ?_
          rintro e w8 ⟨rfl, hS8⟩
          go_wp2
          go_roundw
          case rel => exact ⟨k + 1, by omega, by go_num, _, _, by simp; omega, hS8⟩
          case measure => simp [intOf]; omega
      · -- a push
        by_cases hm : (bl.length : Int) + 1 ≤ n
        · have hmd : decide (n < (bl.length : Int) + 1) = false := by simp; omega
          obtain ⟨a10, c10, rfl⟩ := hV.sliceLen
          go_wp2_with fail
          refine (low_any _ 5 (by omega) (by omega) _).mono ?_
          rw [HD.out]
          rintro e w2 ⟨rfl, rfl⟩
          go_wp2_with fail
          refine (stPush hS (ns[k]'(by omega)) (by omega) hn1).mono ?_
          rw [pushed, if_pos hm]
          rintro e w3 ⟨rfl, ⟨⟨F3, hS3⟩, hb3⟩⟩
          go_wp2_with (at_builtin; refine wpList_append_one _ rfl _ _ 22 rfl 3 i0 (.int .i64 0) 8 Try.underlying22 hi hz0 hz1 hz2 rfl w.heap.size (.slice a10 bl.length c10) (LI bl) rfl ?hown _ 1 (.int .i64 (ns[k]'(by omega))) rfl ?hc rfl ?b1 ?b2 ?b3 ?_)
          case hown => exact hS3.ob.alloc _
          case hc => exact new_cell _ _ _ _ rfl
          case b1 => rw [lenI]; unfold maxLen; omega
          case b2 => rw [lenI]; omega
          case b3 => have := hb3.size; simp; omega
          intro v' w4 ho hgr hblk
          rw [← snocI] at ho
          obtain ⟨g4, off4, c4, rfl, hc4, _⟩ := ho.sliceSnoc
          rw [snocI] at ho
          have hS4 := hS3.appB hb3 ho hgr hblk
          rw [← snocI] at hS4
          clear ho hgr hblk
          have hS5 : St w w.heap.size n w4 (LI (bl ++ [ns[k]'(by omega)])) (LI []) _ _ _ _ := ⟨⟨_, (hS4.1.choose_spec).noA⟩, hS4.2⟩
          go_wp2_with fail
          refine (stMany hS5 (bl.length + 1) 0 (by simp) (by simp)).mono ?_
          rintro e w8 ⟨rfl, hS8⟩
          go_wp2
          go_roundw
          case rel => exact ⟨k + 1, by omega, by go_num, _, _, by simp; omega, hS8⟩
          case measure => simp [intOf]; omega
        · obtain ⟨b0, rest, rfl⟩ : ∃ b0 rest, bl = b0 :: rest := by
            cases bl with
            | nil => simp at hm; omega
            | cons b0 r => exact ⟨b0, r, rfl⟩
          have hm' : n < (rest.length : Int) + 1 + 1 := by simpa using hm
          have hln' : rest.length + 1 + al.length ≤ k := by simpa using hln
          obtain ⟨a10, c10, rfl⟩ := hV.sliceLen
          go_wp2_with fail
          refine (low_any _ 5 (by omega) (by omega) _).mono ?_
          rw [HD.out]
          rintro e w2 ⟨rfl, rfl⟩
          go_wp2_with fail
          refine (stPush hS (ns[k]'(by omega)) (by simp; omega) hn1).mono ?_
          rw [pushed, if_neg (by omega), List.tail_cons]
          rintro e w3 ⟨rfl, ⟨⟨F3, hS3⟩, hb3⟩⟩
          clear hm
          go_wp2_with (at_builtin; refine wpList_append_one _ rfl _ _ 22 rfl 3 i0 (.int .i64 0) 8 Try.underlying22 hi hz0 hz1 hz2 rfl w.heap.size (.slice a10 (b0 :: rest).length c10) (LI (b0 :: rest)) rfl ?hown _ 1 (.int .i64 (ns[k]'(by omega))) rfl ?hc rfl ?b1 ?b2 ?b3 ?_)
          case hown => exact hS3.ob.alloc _
          case hc => exact new_cell _ _ _ _ rfl
          case b1 => rw [lenI]; unfold maxLen; simp only [List.length_cons]; omega
          case b2 => rw [lenI]; simp only [List.length_cons]; omega
          case b3 => have := hb3.size; simp; omega
          intro v' w4 ho hgr hblk
          rw [← snocI] at ho
          obtain ⟨g4, off4, c4, rfl, hc4, _⟩ := ho.sliceSnoc
          rw [snocI] at ho
          have hS4 := hS3.appB hb3 ho hgr hblk
          rw [← snocI] at hS4
          clear ho hgr hblk
          simp only [List.length_cons] at hS4 hc4
          have hc1 : ¬ c4 = 1 := by omega
          obtain ⟨⟨F4, hS4'⟩, hb4⟩ := hS4
          have hS5 := hS4'.noA
          rw [show LI (b0 :: rest ++ [ns[k]'(by omega)]) = .int .i64 b0 :: LI (rest ++ [ns[k]'(by omega)]) from rfl] at hS5
          have hS6 := hS5.tailB
          rw [lenI, show (rest ++ [ns[k]'(by omega)]).length = rest.length + 1 by simp] at hS6
          have hS7 : St w w.heap.size n w4 (LI (rest ++ [ns[k]'(by omega)])) (LI []) (.slice (some ⟨g4, off4 + 1, none⟩) (rest.length + 1) (c4 - 1)) (.slice none 0 0) (LI (rest ++ [ns[k]'(by omega)])) (LI []) := ⟨⟨_, hS6⟩, hb4⟩
          clear hS5 hS6
          go_wp2_with fail
          refine (stMany hS7 (rest.length + 1) 0 (by simp) (by simp)).mono ?_
          rintro e w8 ⟨rfl, hS8⟩
          go_wp2
          go_roundw
          case rel => exact ⟨k + 1, by omega, by go_num, _, _, by simp; omega, hS8⟩
          case measure => simp [intOf]; omega
      · -- a push
        by_cases hm : (bl.length : Int) + 1 ≤ n
        · have hmd : decide (n < (bl.length : Int) + 1) = false := by simp; omega
          obtain ⟨a10, c10, rfl⟩ := hV.sliceLen
          go_wp2_with fail
          refine (low_any _ 5 (by omega) (by omega) _).mono ?_
          rw [HD.out]
          rintro e w2 ⟨rfl, rfl⟩
          go_wp2_with fail
          refine (stPush hS (ns[k]'(by omega)) (by omega) hn1).mono ?_
          rw [pushed, if_pos hm]
          rintro e w3 ⟨rfl, ⟨⟨F3, hS3⟩, hb3⟩⟩
          go_wp2_with (at_builtin; refine wpList_append_one _ rfl _ _ 22 rfl 3 i0 (.int .i64 0) 8 Try.underlying22 hi hz0 hz1 hz2 rfl w.heap.size (.slice a10 bl.length c10) (LI bl) rfl ?hown _ 1 (.int .i64 (ns[k]'(by omega))) rfl ?hc rfl ?b1 ?b2 ?b3 ?_)
          case hown => exact hS3.ob.alloc _
          case hc => exact new_cell _ _ _ _ rfl
          case b1 => rw [lenI]; unfold maxLen; omega
          case b2 => rw [lenI]; omega
          case b3 => have := hb3.size; simp; omega
          intro v' w4 ho hgr hblk
          rw [← snocI] at ho
          obtain ⟨g4, off4, c4, rfl, hc4, _⟩ := ho.sliceSnoc
          rw [snocI] at ho
          have hS4 := hS3.appB hb3 ho hgr hblk
          rw [← snocI] at hS4
          clear ho hgr hblk
          have hS5 : St w w.heap.size n w4 (LI (bl ++ [ns[k]'(by omega)])) (LI []) _ _ _ _ := ⟨⟨_, (hS4.1.choose_spec).noA⟩, hS4.2⟩
          go_wp2_with fail
          refine (stMany hS5 (bl.length + 1) 0 (by simp) (by simp)).mono ?_
          rintro e w8 ⟨rfl, hS8⟩
          go_wp2
          go_roundw
          case rel => exact ⟨k + 1, by omega, by go_num, _, _, by simp; omega, hS8⟩
          case measure => simp [intOf]; omega
        · obtain ⟨b0, rest, rfl⟩ : ∃ b0 rest, bl = b0 :: rest := by
            cases bl with
            | nil => simp at hm; omega
            | cons b0 r => exact ⟨b0, r, rfl⟩
          have hm' : n < (rest.length : Int) + 1 + 1 := by simpa using hm
          have hln' : rest.length + 1 + al.length ≤ k := by simpa using hln
          obtain ⟨a10, c10, rfl⟩ := hV.sliceLen
          go_wp2_with fail
          refine (low_any _ 5 (by omega) (by omega) _).mono ?_
          rw [HD.out]
          rintro e w2 ⟨rfl, rfl⟩
          go_wp2_with fail
          refine (stPush hS (ns[k]'(by omega)) (by simp; omega) hn1).mono ?_
          rw [pushed, if_neg (by omega), List.tail_cons]
          rintro e w3 ⟨rfl, ⟨⟨F3, hS3⟩, hb3⟩⟩
          clear hm
          go_wp2_with (at_builtin; refine wpList_append_one _ rfl _ _ 22 rfl 3 i0 (.int .i64 0) 8 Try.underlying22 hi hz0 hz1 hz2 rfl w.heap.size (.slice a10 (b0 :: rest).length c10) (LI (b0 :: rest)) rfl ?hown _ 1 (.int .i64 (ns[k]'(by omega))) rfl ?hc rfl ?b1 ?b2 ?b3 ?_)
          case hown => exact hS3.ob.alloc _
          case hc => exact new_cell _ _ _ _ rfl
          case b1 => rw [lenI]; unfold maxLen; simp only [List.length_cons]; omega
          case b2 => rw [lenI]; simp only [List.length_cons]; omega
          case b3 => have := hb3.size; simp; omega
          intro v' w4 ho hgr hblk
          rw [← snocI] at ho
          obtain ⟨g4, off4, c4, rfl, hc4, _⟩ := ho.sliceSnoc
          rw [snocI] at ho
          have hS4 := hS3.appB hb3 ho hgr hblk
          rw [← snocI] at hS4
          clear ho hgr hblk
          simp only [List.length_cons] at hS4 hc4
          have hc1 : ¬ c4 = 1 := by omega
          obtain ⟨⟨F4, hS4'⟩, hb4⟩ := hS4
          have hS5 := hS4'.noA
          rw [show LI (b0 :: rest ++ [ns[k]'(by omega)]) = .int .i64 b0 :: LI (rest ++ [ns[k]'(by omega)]) from rfl] at hS5
          have hS6 := hS5.tailB
          rw [lenI, show (rest ++ [ns[k]'(by omega)]).length = rest.length + 1 by simp] at hS6
          have hS7 : St w w.heap.size n w4 (LI (rest ++ [ns[k]'(by omega)])) (LI []) (.slice (some ⟨g4, off4 + 1, none⟩) (rest.length + 1) (c4 - 1)) (.slice none 0 0) (LI (rest ++ [ns[k]'(by omega)])) (LI []) := ⟨⟨_, hS6⟩, hb4⟩
          clear hS5 hS6
          go_wp2_with fail
          refine (stMany hS7 (rest.length + 1) 0 (by simp) (by simp)).mono ?_
          rintro e w8 ⟨rfl, hS8⟩
          go_wp2
          go_roundw
          case rel => exact ⟨k + 1, by omega, by go_num, _, _, by simp; omega, hS8⟩
          case measure => simp [intOf]; omega
      · -- a step back
        rcases List.eq_nil_or_concat bl with rfl | ⟨bl0, x0, rfl⟩
        · obtain ⟨a10, c10, rfl⟩ := hV.sliceLen
          obtain ⟨a11, c11, rfl⟩ := hU.sliceLen
          go_wp2_with fail
          refine (low_any _ 5 (by omega) (by omega) _).mono ?_
          rw [HD.out]
          rintro e w2 ⟨rfl, rfl⟩
          go_wp2_with fail
          refine (stBack_none hS (ns[k]'(by omega))).mono ?_
          rintro e w3 ⟨rfl, hS3⟩
          go_wp2_with fail
          refine (stMany hS3 0 al.length (by simp) (by simp)).mono ?_
          rintro e w8 ⟨rfl, hS8⟩
          go_wp2
          go_roundw
          case rel => exact ⟨k + 1, by omega, by go_num, _, _, by simp; omega, hS8⟩
          case measure => simp [intOf]; omega
        · rw [List.concat_eq_append] at *
          have hln' : bl0.length + 1 + al.length ≤ k := by rw [List.length_append] at hln; simp only [List.length_cons, List.length_nil] at hln; omega
          obtain ⟨g2, off2, c2, rfl, hc2, hcl⟩ := hV.sliceSnoc
          obtain ⟨a11, c11, rfl⟩ := hU.sliceLen
          go_wp2_with fail
          refine (low_any _ 5 (by omega) (by omega) _).mono ?_
          rw [HD.out]
          rintro e w2 ⟨rfl, rfl⟩
          go_wp2_with fail
          refine (stBack x0 hS (ns[k]'(by omega)) (by omega) (by omega)).mono ?_
          rintro e w3 ⟨rfl, ⟨⟨F3, hS3'⟩, hb3⟩⟩
          have hcx := hcl w3 hS3'.ob
          rw [snocI bl0] at hS3'
          have hS3 := hS3'.cutB
          rw [lenI] at hS3
          clear hS3' hcl hS hV hU
          go_wp2_with (at_builtin; refine wpList_append_one _ rfl _ _ 22 rfl 3 i0 (.int .i64 0) 8 Try.underlying22 hi hz0 hz1 hz2 rfl w.heap.size (.slice a11 al.length c11) (LI al) rfl ?hown _ 1 (.int .i64 (ns[k]'(by omega))) rfl ?hc rfl ?b1 ?b2 ?b3 ?_)
          case hown => exact hS3.oa.alloc _
          case hc => exact new_cell _ _ _ _ rfl
          case b1 => rw [lenI]; unfold maxLen; omega
          case b2 => rw [lenI]; omega
          case b3 => have := hb3.size; simp; omega
          intro v' w4 ho hgr hblk
          rw [← snocI] at ho
          obtain ⟨g4, off4, c4, rfl, hc4, _⟩ := ho.sliceSnoc
          rw [snocI] at ho
          have hS4 := hS3.appA hb3 ho hgr hblk
          rw [← snocI] at hS4
          clear ho hgr hblk
          have hS5 : St w w.heap.size n w4 (LI bl0) (LI (al ++ [ns[k]'(by omega)])) _ _ _ _ := hS4
          go_wp2_with fail
          refine (stMany hS5 bl0.length (al.length + 1) (by simp) (by simp)).mono ?_
          rintro e w8 ⟨rfl, hS8⟩
          go_wp2
          go_roundw
          case rel => exact ⟨k + 1, by omega, by go_num, _, _, by simp; omega, hS8⟩
          case measure => simp [intOf]; omega
      · -- a step forth
        rcases List.eq_nil_or_concat al with rfl | ⟨al0, x0, rfl⟩
        · obtain ⟨a10, c10, rfl⟩ := hV.sliceLen
          obtain ⟨a11, c11, rfl⟩ := hU.sliceLen
          go_wp2_with fail
          refine (low_any _ 5 (by omega) (by omega) _).mono ?_
          rw [HD.out]
          rintro e w2 ⟨rfl, rfl⟩
          go_wp2_with fail
          refine (stForth_none hS (ns[k]'(by omega))).mono ?_
          rintro e w3 ⟨rfl, hS3⟩
          go_wp2_with fail
          refine (stMany hS3 bl.length 0 (by simp) (by simp)).mono ?_
          rintro e w8 ⟨rfl, hS8⟩
          go_wp2
          go_roundw
          case rel => exact ⟨k + 1, by omega, by go_num, _, _, by simp; omega, hS8⟩
          case measure => simp [intOf]; omega
        · rw [List.concat_eq_append] at *
          have hln' : al0.length + 1 + bl.length ≤ k := by rw [List.length_append] at hln; simp only [List.length_cons, List.length_nil] at hln; omega
          obtain ⟨g2, off2, c2, rfl, hc2, hcl⟩ := hU.sliceSnoc
          obtain ⟨a11, c11, rfl⟩ := hV.sliceLen
          go_wp2_with fail
          refine (low_any _ 5 (by omega) (by omega) _).mono ?_
          rw [HD.out]
          rintro e w2 ⟨rfl, rfl⟩
          go_wp2_with fail
          refine (stForth x0 hS (ns[k]'(by omega)) (by omega) (by omega)).mono ?_
          rintro e w3 ⟨rfl, ⟨⟨F3, hS3'⟩, hb3⟩⟩
          have hcx := hcl w3 hS3'.oa
          rw [snocI al0] at hS3'
          have hS3 := hS3'.cutA
          rw [lenI] at hS3
          clear hS3' hcl hS hV hU
          go_wp2_with (at_builtin; refine wpList_append_one _ rfl _ _ 22 rfl 3 i0 (.int .i64 0) 8 Try.underlying22 hi hz0 hz1 hz2 rfl w.heap.size (.slice a11 bl.length c11) (LI bl) rfl ?hown _ 1 (.int .i64 (ns[k]'(by omega))) rfl ?hc rfl ?b1 ?b2 ?b3 ?_)
          case hown => exact hS3.ob.alloc _
          case hc => exact new_cell _ _ _ _ rfl
          case b1 => rw [lenI]; unfold maxLen; omega
          case b2 => rw [lenI]; omega
          case b3 => have := hb3.size; simp; omega
          intro v' w4 ho hgr hblk
          rw [← snocI] at ho
          obtain ⟨g4, off4, c4, rfl, hc4, _⟩ := ho.sliceSnoc
          rw [snocI] at ho
          have hS4 := hS3.appB hb3 ho hgr hblk
          rw [← snocI] at hS4
          clear ho hgr hblk
          have hS5 : St w w.heap.size n w4 (LI (bl ++ [ns[k]'(by omega)])) (LI al0) _ _ _ _ := hS4
          go_wp2_with fail
          refine (stMany hS5 (bl.length + 1) al0.length (by simp) (by simp)).mono ?_
          rintro e w8 ⟨rfl, hS8⟩
          go_wp2
          go_roundw
          case rel => exact ⟨k + 1, by omega, by go_num, _, _, by simp; omega, hS8⟩
          case measure => simp [intOf]; omega
    · obtain rfl : len0 = k := by omega
      go_wp2_with fail
      refine (awake_any _).mono ?_
      rintro e w2 ⟨rfl, hb2⟩
      go_wp2
      go_ret
      exact ⟨rfl, bt hS.2 hb2⟩
end Go.Proofs.Ytjmammphomijfaa.pastTells
