/- What Grown hands back: how long the text adapted is. -/
import Derived.Test.YtkeckbmhaplkpaaGreatDoorAd
namespace Go.Proofs.YtkeckbmhaplkpaaGreatDoor.Gr
open Go Go.RowKit
open Ad.M Ad

/-- A box that counts. -/
def IsCnt (B b n : Nat) (w : World) : Prop := B ≤ b ∧ w.heap[b]? = some (.cells #[.int .i64 (n : Int)] 3 (0, 0))
set_option maxRecDepth 100000 in
theorem lay_any (B b : Nat) (acc : List UInt8) (t : ByteArray) (w : World) (h : IsCnt B b acc.length w) (hlen : acc.length + t.size ≤ 1073741824) (_ : B ≤ w.heap.size) :
    Calls Tryz.prog 344 #[.string t, .pointer (some ⟨b, 0, none⟩)] w fun e w' => e = .returned (.tuple #[]) ∧ (IsCnt B b (acc ++ t.data.toList).length w' ∧ Below B w w') := by
  obtain ⟨hB, hbk⟩ := h
  have c0 : w.cell? ⟨b, 0, none⟩ = some (.int .i64 (acc.length : Int)) := by rw [Lib.cell_of_heap hbk]; rfl
  have f0 : w.frozen? ⟨b, 0, none⟩ = false := Lib.frozen_of_heap hbk 0
  have e0 : (((acc ++ t.data.toList).length : Nat) : Int) = (acc.length : Int) + (t.size : Int) := by
    rw [List.length_append]
    have e : t.data.toList.length = t.size := by simp
    rw [e]
    omega
  have HE := Lib.hid (show IsCnt B b (acc ++ t.data.toList).length (w.setCell ⟨b, 0, none⟩ (.int .i64 ((acc.length : Int) + (t.size : Int)))) from ⟨hB, by rw [e0]; simp [World.setCell, Array.getElem?_modify, hbk]⟩)
  have HS := Lib.hid ((Below.refl B w).setCell (p := ⟨b, 0, none⟩) hB (.int .i64 ((acc.length : Int) + (t.size : Int))))
  clear e0 hbk
  go_enter Tryz.func344, Tryz.ntmps344
  go_wp2
  go_end0
  exact ⟨rfl, HE.out, HS.out⟩
/-- The loop's relation: k bytes seen, acc laid. -/
def En (B b : Nat) (w : World) (s lead unit : ByteArray) (k : Nat) (f : Bool) (wr : World) : Prop :=
  ∃ acc : List UInt8, acc.length ≤ k * 1025 ∧ IsCnt B b acc.length wr ∧ Below B w wr ∧ acc = ad lead.data.toList unit.data.toList false (s.data.toList.take k) ∧ f = fl false (s.data.toList.take k)
set_option maxRecDepth 100000 in
set_option maxHeartbeats 4000000 in
theorem each_any (B b : Nat) (s lead unit : ByteArray) (w : World) (hs : s.size ≤ 100000) (hl : lead.size ≤ 1024) (hu : unit.size ≤ 1024) (hI : IsCnt B b 0 w) (hBw : B ≤ w.heap.size) :
    Calls Tryz.prog 34 #[.string s, .string lead, .string unit, .func (.func 344) #[] #[.pointer (some ⟨b, 0, none⟩)]] w fun e w' =>
      e = .returned (.tuple #[]) ∧ (IsCnt B b (ad lead.data.toList unit.data.toList false s.data.toList).length w' ∧ Below B w w') := by
  have hst : En B b w s lead unit 0 false w := ⟨[], by simp, hI, Below.refl _ _, rfl, rfl⟩
  have HS := Lib.hid hst
  clear hst hI
  go_enter Tryz.func34, Tryz.ntmps34
  go_wp2
  go_loopw [8, 9] (fun f i wr => ∃ (k : Nat) (fb : Bool), k ≤ s.size ∧ i = .int .i64 k ∧ f = .bool fb ∧ En B b w s lead unit k fb wr) (fun _ i _ => s.size - (intOf i).toNat)
  case atStart => exact ⟨0, false, Nat.zero_le _, rfl, rfl, HS.out⟩
  case round =>
    obtain ⟨k, fb, hk, rfl, rfl, acc, hacc, hI, hb, ha, hf⟩ := hrel
    by_cases hlt : k < s.size
    · have hsz : B ≤ wr.heap.size := Nat.le_trans hBw hb.size
      have hbs := byte_size s k hlt
      have hbl := byte_list s k hlt
      have na := ad_next lead.data.toList unit.data.toList s k hlt
      have nf := fl_next s k hlt
      rw [← ha, ← hf] at na
      rw [← hf] at nf
      have hk1 : k * 1025 ≤ 100000 * 1025 := Nat.mul_le_mul_right _ (by omega)
      have hk2 : (k + 1) * 1025 = k * 1025 + 1025 := by rw [Nat.add_mul]
      have hll : lead.data.toList.length = lead.size := by simp
      have hul : unit.data.toList.length = unit.size := by simp
      have hcb := (s[k]).toNat_lt
      have hc10 : s[k] = 10 ↔ (s[k]).toNat = 10 := ⟨fun h => by rw [h]; rfl, fun h => UInt8.toNat_inj.1 h⟩
      have hc9 : s[k] = 9 ↔ (s[k]).toNat = 9 := ⟨fun h => by rw [h]; rfl, fun h => UInt8.toNat_inj.1 h⟩
      clear ha hf
      by_cases h10 : s[k] = 10
      · -- a break
        have t1 : (((s[k]).toNat : Int) == 10) = true := by rw [hc10.1 h10]; rfl
        rw [if_pos h10] at nf
        have na' : ad lead.data.toList unit.data.toList false (s.data.toList.take (k + 1)) = (acc ++ [s[k]]) ++ lead.data.toList := by
          rw [na]; simp [ad, h10]
        have NA := Lib.hid na'
        have NF := Lib.hid nf
        have HB := Lib.hid hbl
        have H1 : acc.length + (s.extract k (k + 1)).size ≤ 1073741824 := by omega
        have H2 : (acc ++ [s[k]]).length + lead.size ≤ 1073741824 := by rw [List.length_append]; simp only [List.length_cons, List.length_nil]; omega
        have H3 : (acc ++ [s[k]] ++ lead.data.toList).length ≤ (k + 1) * 1025 := by rw [List.length_append, List.length_append, hll]; simp only [List.length_cons, List.length_nil]; omega
        clear na na' nf hbl hc10 hc9 h10 hbs hll hul hk2
        go_wp2_with fail
        refine (lay_any B b acc _ _ hI H1 hsz).mono ?_
        rw [HB.out]
        rintro e w1 ⟨rfl, hI1, hb1⟩
        go_wp2_with fail
        refine (lay_any B b _ lead _ hI1 H2 (Nat.le_trans hsz hb1.size)).mono ?_
        rintro e w2 ⟨rfl, hI2, hb2⟩
        go_wp2
        go_roundw
        case rel => exact ⟨k + 1, true, by omega, by go_num, rfl, _, H3, hI2, (hb.trans hb1).trans hb2, NA.out.symm, NF.out.symm⟩
        case measure => simp [intOf]; omega
      · have t1 : (((s[k]).toNat : Int) == 10) = false := by
          simp only [beq_eq_false_iff_ne]; intro h; exact h10 (hc10.2 (by omega))
        rw [if_neg h10] at nf
        by_cases h9 : s[k] = 9
        · have t9 : (((s[k]).toNat : Int) == 9) = true := by rw [hc9.1 h9]; rfl
          cases fb
          · -- no line's beginning
            have na' : ad lead.data.toList unit.data.toList false (s.data.toList.take (k + 1)) = acc ++ [s[k]] := by
              rw [na]; simp [ad, h10]
            have nf' : fl false (s.data.toList.take (k + 1)) = false := by rw [nf]; simp
            have NA := Lib.hid na'
            have NF := Lib.hid nf'
            have HB := Lib.hid hbl
            have H1 : acc.length + (s.extract k (k + 1)).size ≤ 1073741824 := by omega
            have H3 : (acc ++ [s[k]]).length ≤ (k + 1) * 1025 := by rw [List.length_append]; simp only [List.length_cons, List.length_nil]; omega
            clear na na' nf nf' hbl hc10 hc9 h10 h9 hbs hll hul hk2
            go_wp2_with fail
            refine (lay_any B b acc _ _ hI H1 hsz).mono ?_
            rw [HB.out]
            rintro e w1 ⟨rfl, hI1, hb1⟩
            go_wp2
            go_roundw
            case rel => exact ⟨k + 1, false, by omega, by go_num, rfl, _, H3, hI1, hb.trans hb1, NA.out.symm, NF.out.symm⟩
            case measure => simp [intOf]; omega
          · by_cases hue : unit.data.toList = []
            · -- no unit
              have u1 : unit.toList = [] := by rw [Lib.toList_data]; exact hue
              have u2 : unit.toList.isEmpty = true := by rw [u1]; rfl
              have na' : ad lead.data.toList unit.data.toList false (s.data.toList.take (k + 1)) = acc ++ [s[k]] := by
                rw [na]; simp [ad, h10, hue]
              have nf' : fl false (s.data.toList.take (k + 1)) = true := by rw [nf]; simp [h9]
              have NA := Lib.hid na'
              have NF := Lib.hid nf'
              have HB := Lib.hid hbl
              have H1 : acc.length + (s.extract k (k + 1)).size ≤ 1073741824 := by omega
              have H3 : (acc ++ [s[k]]).length ≤ (k + 1) * 1025 := by rw [List.length_append]; simp only [List.length_cons, List.length_nil]; omega
              clear hue na na' nf nf' hbl hc10 hc9 h10 h9 hbs hll hul hk2
              go_wp2_with fail
              refine (lay_any B b acc _ _ hI H1 hsz).mono ?_
              rw [HB.out]
              rintro e w1 ⟨rfl, hI1, hb1⟩
              go_wp2
              go_roundw
              case rel => exact ⟨k + 1, true, by omega, by go_num, rfl, _, H3, hI1, hb.trans hb1, NA.out.symm, NF.out.symm⟩
              case measure => simp [intOf]; omega
            · -- a unit
              have u1 : unit.toList.isEmpty = false := by
                rw [Lib.toList_data]
                cases hx : unit.data.toList with
                | nil => exact absurd hx hue
                | cons a r => rfl
              have u2 : (!unit.toList.isEmpty) = true := by rw [u1]; rfl
              have na' : ad lead.data.toList unit.data.toList false (s.data.toList.take (k + 1)) = acc ++ unit.data.toList := by
                rw [na]; simp [ad, h9, hue]
              have nf' : fl false (s.data.toList.take (k + 1)) = true := by rw [nf]; simp [h9]
              have NA := Lib.hid na'
              have NF := Lib.hid nf'
              have H1 : acc.length + unit.size ≤ 1073741824 := by omega
              have H3 : (acc ++ unit.data.toList).length ≤ (k + 1) * 1025 := by rw [List.length_append, hul]; omega
              clear na na' nf nf' hbl hc10 hc9 h10 h9 hbs hll hul hk2 hue
              go_wp2_with fail
              refine (lay_any B b acc _ _ hI H1 hsz).mono ?_
              rintro e w1 ⟨rfl, hI1, hb1⟩
              go_wp2
              go_roundw
              case rel => exact ⟨k + 1, true, by omega, by go_num, rfl, _, H3, hI1, hb.trans hb1, NA.out.symm, NF.out.symm⟩
              case measure => simp [intOf]; omega
        · have t9 : (((s[k]).toNat : Int) == 9) = false := by
            simp only [beq_eq_false_iff_ne]; intro h; exact h9 (hc9.2 (by omega))
          cases fb
          · have na' : ad lead.data.toList unit.data.toList false (s.data.toList.take (k + 1)) = acc ++ [s[k]] := by
              rw [na]; simp [ad, h10]
            have nf' : fl false (s.data.toList.take (k + 1)) = false := by rw [nf]; simp
            have NA := Lib.hid na'
            have NF := Lib.hid nf'
            have HB := Lib.hid hbl
            have H1 : acc.length + (s.extract k (k + 1)).size ≤ 1073741824 := by omega
            have H3 : (acc ++ [s[k]]).length ≤ (k + 1) * 1025 := by rw [List.length_append]; simp only [List.length_cons, List.length_nil]; omega
            clear na na' nf nf' hbl hc10 hc9 h10 h9 hbs hll hul hk2
            go_wp2_with fail
            refine (lay_any B b acc _ _ hI H1 hsz).mono ?_
            rw [HB.out]
            rintro e w1 ⟨rfl, hI1, hb1⟩
            go_wp2
            go_roundw
            case rel => exact ⟨k + 1, false, by omega, by go_num, rfl, _, H3, hI1, hb.trans hb1, NA.out.symm, NF.out.symm⟩
            case measure => simp [intOf]; omega
          · have na' : ad lead.data.toList unit.data.toList false (s.data.toList.take (k + 1)) = acc ++ [s[k]] := by
              rw [na]; simp [ad, h10, h9]
            have nf' : fl false (s.data.toList.take (k + 1)) = false := by rw [nf]; simp [h9]
            have NA := Lib.hid na'
            have NF := Lib.hid nf'
            have HB := Lib.hid hbl
            have H1 : acc.length + (s.extract k (k + 1)).size ≤ 1073741824 := by omega
            have H3 : (acc ++ [s[k]]).length ≤ (k + 1) * 1025 := by rw [List.length_append]; simp only [List.length_cons, List.length_nil]; omega
            clear na na' nf nf' hbl hc10 hc9 h10 h9 hbs hll hul hk2
            go_wp2_with fail
            refine (lay_any B b acc _ _ hI H1 hsz).mono ?_
            rw [HB.out]
            rintro e w1 ⟨rfl, hI1, hb1⟩
            go_wp2
            go_roundw
            case rel => exact ⟨k + 1, false, by omega, by go_num, rfl, _, H3, hI1, hb.trans hb1, NA.out.symm, NF.out.symm⟩
            case measure => simp [intOf]; omega
    · obtain rfl : s.size = k := by omega
      rw [List.take_of_length_le (by simp)] at ha
      have HA := Lib.hid ha
      clear ha hf
      go_wp2
      go_end0
      exact ⟨rfl, by rw [← HA.out]; exact hI, hb⟩

set_option maxRecDepth 100000 in
theorem grown_any (s lead unit : ByteArray) (w : World) (hs : s.size ≤ 100000) (hl : lead.size ≤ 1024) (hu : unit.size ≤ 1024) :
    Calls Tryz.prog 314 #[.string s, .string lead, .string unit] w fun e w' => e = .returned (.int .i64 ((ad lead.data.toList unit.data.toList false s.data.toList).length : Nat)) ∧ Below w.heap.size w w' := by
  have hA : Below w.heap.size w (w.alloc (.cells #[.int .i64 0] 3)) := (Below.refl _ _).alloc (Nat.le_refl _) _
  have hF := Lib.hid (show IsCnt w.heap.size w.heap.size 0 (w.alloc (.cells #[.int .i64 0] 3)) from ⟨Nat.le_refl _, heap_alloc_new _ _⟩)
  go_enter Tryz.func314, Tryz.ntmps314
  go_wp2_with fail
  refine (each_any w.heap.size w.heap.size s lead unit _ hs hl hu ?f (by simp)).mono ?_
  case f => exact hF.out
  rintro e w1 ⟨rfl, hI1, hb1⟩
  have c0 : w1.cell? ⟨w.heap.size, 0, none⟩ = some (.int .i64 ((ad lead.data.toList unit.data.toList false s.data.toList).length : Nat)) := by rw [Lib.cell_of_heap hI1.2]; rfl
  obtain ⟨m, hm⟩ : ∃ m, (ad lead.data.toList unit.data.toList false s.data.toList).length = m := ⟨_, rfl⟩
  rw [hm] at c0
  have HM := Lib.hid hm
  clear hm hI1
  go_wp2
  go_ret
  exact ⟨by rw [HM.out]; rfl, hA.trans hb1⟩
end Go.Proofs.YtkeckbmhaplkpaaGreatDoor.Gr
