/- What each lays, what Adapt hands back: the text adapted. -/
import Derived.Test.YtfcnkmpndjmpnaaBuild
import Derived.Test.YtfcnkmpndjmpnaaMath
import Derived.WalkSpells
namespace Go.Proofs.Ytfcnkmpndjmpnaa
open Go.RowKit
open M

theorem strCells_list (s : ByteArray) : Lib.strCells s = Lib.byteCells s.data.toList := rfl
theorem lay_any (B b : Nat) (acc : List UInt8) (t : ByteArray) (w : World) (h : Lib.IsBuilder 40 5 B b (Lib.byteCells acc) w) (hlen : acc.length + t.size ≤ 1073741824) (hBw : B ≤ w.heap.size) :
    Calls Try.prog 17 #[.string t, .pointer (some ⟨b, 0, none⟩)] w fun e w' => e = .returned (.tuple #[]) ∧ (Lib.IsBuilder 40 5 B b (Lib.byteCells (acc ++ t.data.toList)) w' ∧ Below B w w') := by
  rw [Lib.byteCells_append, ← strCells_list]
  go_enter Try.func17, Try.ntmps17
  go_wp2_with fail
  refine (writeString_any B b _ t _ h (by rw [Lib.byteCells_length]; omega) hBw).mono ?_
  rintro e w1 ⟨rfl, h1, hb1⟩
  go_wp2
  go_end0
  exact ⟨rfl, h1, hb1⟩
theorem byte_list (s : ByteArray) (k : Nat) (h : k < s.size) : (s.extract k (k + 1)).data.toList = [s[k]] := by
  rw [ByteArray.data_extract, Array.toList_extract, List.extract_eq_take_drop, List.drop_eq_getElem_cons (by simpa using h)]
  simp
  rfl
theorem byte_size (s : ByteArray) (k : Nat) (h : k < s.size) : (s.extract k (k + 1)).size = 1 := by
  rw [ByteArray.size_extract]; omega
theorem take_one (s : ByteArray) (k : Nat) (h : k < s.size) : s.data.toList.take (k + 1) = s.data.toList.take k ++ [s[k]] := by
  rw [List.take_succ_eq_append_getElem (by simpa using h)]; rfl
/-- The loop's relation: k bytes seen, acc laid. -/
def En (B b : Nat) (w : World) (s lead unit : ByteArray) (k : Nat) (f : Bool) (wr : World) : Prop :=
  ∃ acc : List UInt8, acc.length ≤ k * 1025 ∧ Lib.IsBuilder 40 5 B b (Lib.byteCells acc) wr ∧ Below B w wr ∧ acc = ad lead.data.toList unit.data.toList false (s.data.toList.take k) ∧ f = fl false (s.data.toList.take k)
theorem ad_next (lead unit : List UInt8) (s : ByteArray) (k : Nat) (h : k < s.size) : ad lead unit false (s.data.toList.take (k + 1)) = ad lead unit false (s.data.toList.take k) ++ ad lead unit (fl false (s.data.toList.take k)) [s[k]] := by
  rw [take_one s k h, ad_app]
theorem fl_next (s : ByteArray) (k : Nat) (h : k < s.size) : fl false (s.data.toList.take (k + 1)) = if s[k] = 10 then true else fl false (s.data.toList.take k) && s[k] == 9 := by
  rw [take_one s k h, fl_snoc]

set_option maxHeartbeats 4000000 in
theorem each_any (B b : Nat) (s lead unit : ByteArray) (w : World) (hs : s.size ≤ 100000) (hl : lead.size ≤ 1024) (hu : unit.size ≤ 1024) (hI : Lib.IsBuilder 40 5 B b [] w) (hBw : B ≤ w.heap.size) :
    Calls Try.prog 16 #[.string s, .string lead, .string unit, .func (.func 17) #[] #[.pointer (some ⟨b, 0, none⟩)]] w fun e w' =>
      e = .returned (.tuple #[]) ∧ (Lib.IsBuilder 40 5 B b (Lib.byteCells (ad lead.data.toList unit.data.toList false s.data.toList)) w' ∧ Below B w w') := by
  have hst : En B b w s lead unit 0 false w := ⟨[], by simp, hI, Below.refl _ _, rfl, rfl⟩
  have HS := Lib.hid hst
  clear hst hI
  go_enter Try.func16, Try.ntmps16
  go_wp2
  go_loopw [8, 9] (fun f i wr => ∃ (k : Nat) (fb : Bool), k ≤ s.size ∧ i = .int .i64 k ∧ f = .bool fb ∧ En B b w s lead unit k fb wr) (fun _ i _ => s.size - (intOf i).toNat)
  case atStart => exact ⟨0, false, Nat.zero_le _, rfl, rfl, HS.out⟩
  case round =>
    obtain ⟨k, fb, hk, rfl, rfl, acc, hacc, hI, hb, ha, hf⟩ := hrel
    by_cases hlt : k < s.size
    · have hsz : B ≤ wr.heap.size := Nat.le_trans hBw hb.size
      have hbs := byte_size s k hlt
      have hbl := byte_list s k hlt
      have na := ad_next lead.data.toList unit.data.toList s k hlt
      have nf := fl_next s k hlt
      rw [← ha, ← hf] at na
      rw [← hf] at nf
      have hk1 : k * 1025 ≤ 100000 * 1025 := Nat.mul_le_mul_right _ (by omega)
      have hk2 : (k + 1) * 1025 = k * 1025 + 1025 := by rw [Nat.add_mul]
      have hll : lead.data.toList.length = lead.size := by simp
      have hul : unit.data.toList.length = unit.size := by simp
      have hcb := (s[k]).toNat_lt
      have hc10 : s[k] = 10 ↔ (s[k]).toNat = 10 := ⟨fun h => by rw [h]; rfl, fun h => UInt8.toNat_inj.1 h⟩
      have hc9 : s[k] = 9 ↔ (s[k]).toNat = 9 := ⟨fun h => by rw [h]; rfl, fun h => UInt8.toNat_inj.1 h⟩
      clear ha hf
      by_cases h10 : s[k] = 10
      · -- a break
        have t1 : (((s[k]).toNat : Int) == 10) = true := by rw [hc10.1 h10]; rfl
        rw [if_pos h10] at nf
        have na' : ad lead.data.toList unit.data.toList false (s.data.toList.take (k + 1)) = (acc ++ [s[k]]) ++ lead.data.toList := by
          rw [na]; simp [ad, h10]
        have NA := Lib.hid na'
        have NF := Lib.hid nf
        have HB := Lib.hid hbl
        have H1 : acc.length + (s.extract k (k + 1)).size ≤ 1073741824 := by omega
        have H2 : (acc ++ [s[k]]).length + lead.size ≤ 1073741824 := by rw [List.length_append]; simp only [List.length_cons, List.length_nil]; omega
        have H3 : (acc ++ [s[k]] ++ lead.data.toList).length ≤ (k + 1) * 1025 := by rw [List.length_append, List.length_append, hll]; simp only [List.length_cons, List.length_nil]; omega
        clear na na' nf hbl hc10 hc9 h10 hbs hll hul hk2
        go_wp2_with fail
        refine (lay_any B b acc _ _ hI H1 hsz).mono ?_
        rw [HB.out]
        rintro e w1 ⟨rfl, hI1, hb1⟩
        go_wp2_with fail
        refine (lay_any B b _ lead _ hI1 H2 (Nat.le_trans hsz hb1.size)).mono ?_
        rintro e w2 ⟨rfl, hI2, hb2⟩
        go_wp2
        go_roundw
        case rel => exact ⟨k + 1, true, by omega, by go_num, rfl, _, H3, hI2, (hb.trans hb1).trans hb2, NA.out.symm, NF.out.symm⟩
        case measure => simp [intOf]; omega
      · have t1 : (((s[k]).toNat : Int) == 10) = false := by
          simp only [beq_eq_false_iff_ne]; intro h; exact h10 (hc10.2 (by omega))
        rw [if_neg h10] at nf
        by_cases h9 : s[k] = 9
        · have t9 : (((s[k]).toNat : Int) == 9) = true := by rw [hc9.1 h9]; rfl
          cases fb
          · -- no line's beginning
            have na' : ad lead.data.toList unit.data.toList false (s.data.toList.take (k + 1)) = acc ++ [s[k]] := by
              rw [na]; simp [ad, h10]
            have nf' : fl false (s.data.toList.take (k + 1)) = false := by rw [nf]; simp
            have NA := Lib.hid na'
            have NF := Lib.hid nf'
            have HB := Lib.hid hbl
            have H1 : acc.length + (s.extract k (k + 1)).size ≤ 1073741824 := by omega
            have H3 : (acc ++ [s[k]]).length ≤ (k + 1) * 1025 := by rw [List.length_append]; simp only [List.length_cons, List.length_nil]; omega
            clear na na' nf nf' hbl hc10 hc9 h10 h9 hbs hll hul hk2
            go_wp2_with fail
            refine (lay_any B b acc _ _ hI H1 hsz).mono ?_
            rw [HB.out]
            rintro e w1 ⟨rfl, hI1, hb1⟩
            go_wp2
            go_roundw
            case rel => exact ⟨k + 1, false, by omega, by go_num, rfl, _, H3, hI1, hb.trans hb1, NA.out.symm, NF.out.symm⟩
            case measure => simp [intOf]; omega
          · by_cases hue : unit.data.toList = []
            · -- no unit
              have u1 : unit.toList = [] := by rw [Lib.toList_data]; exact hue
              have u2 : unit.toList.isEmpty = true := by rw [u1]; rfl
              have na' : ad lead.data.toList unit.data.toList false (s.data.toList.take (k + 1)) = acc ++ [s[k]] := by
                rw [na]; simp [ad, h10, hue]
              have nf' : fl false (s.data.toList.take (k + 1)) = true := by rw [nf]; simp [h9]
              have NA := Lib.hid na'
              have NF := Lib.hid nf'
              have HB := Lib.hid hbl
              have H1 : acc.length + (s.extract k (k + 1)).size ≤ 1073741824 := by omega
              have H3 : (acc ++ [s[k]]).length ≤ (k + 1) * 1025 := by rw [List.length_append]; simp only [List.length_cons, List.length_nil]; omega
              clear hue na na' nf nf' hbl hc10 hc9 h10 h9 hbs hll hul hk2
              go_wp2_with fail
              refine (lay_any B b acc _ _ hI H1 hsz).mono ?_
              rw [HB.out]
              rintro e w1 ⟨rfl, hI1, hb1⟩
              go_wp2
              go_roundw
              case rel => exact ⟨k + 1, true, by omega, by go_num, rfl, _, H3, hI1, hb.trans hb1, NA.out.symm, NF.out.symm⟩
              case measure => simp [intOf]; omega
            · -- a unit
              have u1 : unit.toList.isEmpty = false := by
                rw [Lib.toList_data]
                cases hx : unit.data.toList with
                | nil => exact absurd hx hue
                | cons a r => rfl
              have u2 : (!unit.toList.isEmpty) = true := by rw [u1]; rfl
              have na' : ad lead.data.toList unit.data.toList false (s.data.toList.take (k + 1)) = acc ++ unit.data.toList := by
                rw [na]; simp [ad, h9, hue]
              have nf' : fl false (s.data.toList.take (k + 1)) = true := by rw [nf]; simp [h9]
              have NA := Lib.hid na'
              have NF := Lib.hid nf'
              have H1 : acc.length + unit.size ≤ 1073741824 := by omega
              have H3 : (acc ++ unit.data.toList).length ≤ (k + 1) * 1025 := by rw [List.length_append, hul]; omega
              clear na na' nf nf' hbl hc10 hc9 h10 h9 hbs hll hul hk2 hue
              go_wp2_with fail
              refine (lay_any B b acc _ _ hI H1 hsz).mono ?_
              rintro e w1 ⟨rfl, hI1, hb1⟩
              go_wp2
              go_roundw
              case rel => exact ⟨k + 1, true, by omega, by go_num, rfl, _, H3, hI1, hb.trans hb1, NA.out.symm, NF.out.symm⟩
              case measure => simp [intOf]; omega
        · have t9 : (((s[k]).toNat : Int) == 9) = false := by
            simp only [beq_eq_false_iff_ne]; intro h; exact h9 (hc9.2 (by omega))
          cases fb
          · have na' : ad lead.data.toList unit.data.toList false (s.data.toList.take (k + 1)) = acc ++ [s[k]] := by
              rw [na]; simp [ad, h10]
            have nf' : fl false (s.data.toList.take (k + 1)) = false := by rw [nf]; simp
            have NA := Lib.hid na'
            have NF := Lib.hid nf'
            have HB := Lib.hid hbl
            have H1 : acc.length + (s.extract k (k + 1)).size ≤ 1073741824 := by omega
            have H3 : (acc ++ [s[k]]).length ≤ (k + 1) * 1025 := by rw [List.length_append]; simp only [List.length_cons, List.length_nil]; omega
            clear na na' nf nf' hbl hc10 hc9 h10 h9 hbs hll hul hk2
            go_wp2_with fail
            refine (lay_any B b acc _ _ hI H1 hsz).mono ?_
            rw [HB.out]
            rintro e w1 ⟨rfl, hI1, hb1⟩
            go_wp2
            go_roundw
            case rel => exact ⟨k + 1, false, by omega, by go_num, rfl, _, H3, hI1, hb.trans hb1, NA.out.symm, NF.out.symm⟩
            case measure => simp [intOf]; omega
          · have na' : ad lead.data.toList unit.data.toList false (s.data.toList.take (k + 1)) = acc ++ [s[k]] := by
              rw [na]; simp [ad, h10, h9]
            have nf' : fl false (s.data.toList.take (k + 1)) = false := by rw [nf]; simp [h9]
            have NA := Lib.hid na'
            have NF := Lib.hid nf'
            have HB := Lib.hid hbl
            have H1 : acc.length + (s.extract k (k + 1)).size ≤ 1073741824 := by omega
            have H3 : (acc ++ [s[k]]).length ≤ (k + 1) * 1025 := by rw [List.length_append]; simp only [List.length_cons, List.length_nil]; omega
            clear na na' nf nf' hbl hc10 hc9 h10 h9 hbs hll hul hk2
            go_wp2_with fail
            refine (lay_any B b acc _ _ hI H1 hsz).mono ?_
            rw [HB.out]
            rintro e w1 ⟨rfl, hI1, hb1⟩
            go_wp2
            go_roundw
            case rel => exact ⟨k + 1, false, by omega, by go_num, rfl, _, H3, hI1, hb.trans hb1, NA.out.symm, NF.out.symm⟩
            case measure => simp [intOf]; omega
    · obtain rfl : s.size = k := by omega
      rw [List.take_of_length_le (by simp)] at ha
      have HA := Lib.hid ha
      clear ha hf
      go_wp2
      go_end0
      exact ⟨rfl, by rw [← HA.out]; exact hI, hb⟩

theorem adapt_any (s lead unit : ByteArray) (w : World) (hs : s.size ≤ 100000) (hl : lead.size ≤ 1024) (hu : unit.size ≤ 1024) :
    Calls Try.prog 11 #[.string s, .string lead, .string unit] w fun e w' => e = .returned (.string ⟨(ad lead.data.toList unit.data.toList false s.data.toList).toArray⟩) ∧ Below w.heap.size w w' := by
  have hF := Lib.hid (Lib.fresh_isBuilder 40 5 w)
  have hA : Below w.heap.size w (w.alloc (.cells #[.pointer none, .slice none 0 0] 40)) := (Below.refl _ _).alloc (Nat.le_refl _) _
  go_enter Try.func11, Try.ntmps11
  go_wp2_with fail
  refine (each_any w.heap.size w.heap.size s lead unit _ hs hl hu hF.out (by simp)).mono ?_
  rintro e w1 ⟨rfl, hI1, hb1⟩
  go_wp2_with fail
  refine (Try.Builder_String_any _ _ _ _ hI1 (Nat.le_trans hA.size hb1.size)).mono ?_
  rintro e w2 ⟨rfl, hb2⟩
  go_wp2
  go_ret
  exact ⟨rfl, (hA.trans hb1).trans hb2⟩
end Go.Proofs.Ytfcnkmpndjmpnaa
