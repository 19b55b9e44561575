/- LeadTells' contract of the reference's Adapt. -/
import Derived.Test.YtfcnkmpndjmpnaaTellsKit
import Derived.Lib.BufferRead
namespace Go.Proofs.Ytfcnkmpndjmpnaa
open Go.RowKit
open M

theorem Try.info5 : (Try.prog.info? 5).map (fun i => (i.zero, i.size, i.bytes)) = some (some (.int .u8 0), 1, 1) := by kernel_rfl
theorem own_conv {w : World} {base : Nat} {v : Value} {acc : List UInt8} (h : w.ownsRow base 5 1 v acc.length (Lib.byteCells acc)) : (convert 38 9 v).run Try.prog w = .ok (.string ⟨acc.toArray⟩) w := by
  have hc := @World.ownsRow.cells _ _ _ _ _ _ _ h
  rcases h.2 with ⟨rfl, h0⟩ | ⟨g, cap, cur, rfl, _⟩
  · have : acc = [] := List.length_eq_zero_iff.1 h0
    subst this
    exact Lib.run_convert_nil_bytes w 38 9 5 0 Try.underlying38 Try.underlying5 Try.underlying9
  · refine run_convert_bytes_back w 38 9 5 ⟨g, 0, none⟩ cap acc Try.underlying38 Try.underlying5 Try.underlying9 (fun j hj => ?_)
    exact hc (g := g) rfl j _ (by simp [Lib.byteCells, hj])
def Rr (W : World) (s lead unit : ByteArray) (k : Nat) (f : Bool) (v : Value) (wr : World) : Prop :=
  ∃ acc : List UInt8, acc.length ≤ k * 1025 ∧ wr.ownsRow W.heap.size 5 1 v acc.length (Lib.byteCells acc) ∧ Below W.heap.size W wr ∧ acc = ad lead.data.toList unit.data.toList false (s.data.toList.take k) ∧ f = fl false (s.data.toList.take k)
theorem own_str {w : World} {base : Nat} {v : Value} {acc : List UInt8} {t : ByteArray} (h : w.ownsRow base 5 1 v (acc.length + t.size) (Lib.byteCells acc ++ Lib.strCells t)) : w.ownsRow base 5 1 v (acc ++ t.data.toList).length (Lib.byteCells (acc ++ t.data.toList)) := by
  rw [Lib.byteCells_append, List.length_append]
  have e : t.data.toList.length = t.size := by simp
  rw [e]
  exact h
theorem own_one {w : World} {base : Nat} {v : Value} {acc : List UInt8} {c : UInt8} (h : w.ownsRow base 5 1 v (acc.length + 1) (Lib.byteCells acc ++ [.int .u8 (c.toNat : Int)])) : w.ownsRow base 5 1 v (acc ++ [c]).length (Lib.byteCells (acc ++ [c])) := by
  rw [Lib.byteCells_append, List.length_append]
  exact h

set_option maxHeartbeats 8000000 in
theorem radapt_any (s lead unit : ByteArray) (w : World) (hs : s.size ≤ 100) (hl : lead.size ≤ 30) (hu : unit.size ≤ 30) :
    Calls Try.prog 12 #[.string s, .string lead, .string unit] w fun e w' => e = .returned (.string ⟨(ad lead.data.toList unit.data.toList false s.data.toList).toArray⟩) ∧ Below w.heap.size w w' := by
  obtain ⟨i0, hi, hz0, hz1, hz2⟩ := info_parts Try.info5
  have hst : Rr w s lead unit 0 false (.slice none 0 0) w := ⟨[], by simp, World.ownsRow_nil _ _ _ _, Below.refl _ _, rfl, rfl⟩
  have HS := Lib.hid hst
  clear hst
  go_enter Try.func12, Try.ntmps12
  go_wp2
  go_loopw [7, 8, 9] (fun v f i wr => ∃ (k : Nat) (fb : Bool), k ≤ s.size ∧ i = .int .i64 k ∧ f = .bool fb ∧ Rr w s lead unit k fb v wr) (fun _ _ i _ => s.size - (intOf i).toNat)
  case atStart => exact ⟨0, false, Nat.zero_le _, rfl, rfl, HS.out⟩
  case round =>
    obtain ⟨k, fb, hk, rfl, rfl, acc, hacc, ho, hb, ha, hf⟩ := hrel
    by_cases hlt : k < s.size
    · have hsz := hb.size
      have na := ad_next lead.data.toList unit.data.toList s k hlt
      have nf := fl_next s k hlt
      rw [← ha, ← hf] at na
      rw [← hf] at nf
      have hk1 : k * 1025 ≤ 100 * 1025 := Nat.mul_le_mul_right _ (by omega)
      have hk2 : (k + 1) * 1025 = k * 1025 + 1025 := by rw [Nat.add_mul]
      have hll : lead.data.toList.length = lead.size := by simp
      have hul : unit.data.toList.length = unit.size := by simp
      have hcb := (s[k]).toNat_lt
      have hc10 : s[k] = 10 ↔ (s[k]).toNat = 10 := ⟨fun h => by rw [h]; rfl, fun h => UInt8.toNat_inj.1 h⟩
      have hc9 : s[k] = 9 ↔ (s[k]).toNat = 9 := ⟨fun h => by rw [h]; rfl, fun h => UInt8.toNat_inj.1 h⟩
      clear ha hf
      by_cases h10 : s[k] = 10
      · have t10 : (((s[k]).toNat : Int) == 10) = true := by rw [hc10.1 h10]; rfl
        have t9 : (((s[k]).toNat : Int) == 9) = false := by rw [hc10.1 h10]; rfl
        rw [if_pos h10] at nf
        have na' : ad lead.data.toList unit.data.toList false (s.data.toList.take (k + 1)) = (acc ++ [s[k]]) ++ lead.data.toList := by
          rw [na]; simp [ad, h10]
        have NA := Lib.hid na'
        have NF := Lib.hid nf
        have H3 : (acc ++ [s[k]] ++ lead.data.toList).length ≤ (k + 1) * 1025 := by rw [List.length_append, List.length_append, hll]; simp only [List.length_cons, List.length_nil]; omega
        clear na na' nf hc10 hc9 h10 hll hul hk2
        cases fb
        · go_wp2_with (at_builtin; refine wpList_append_own _ rfl _ _ 38 rfl w.heap.size 5 i0 (.int .u8 0) 1 1 Try.underlying38 hi hz0 hz1 hz2 rfl (by decide) _ _ _ rfl (ho.alloc _) ⟨wr.heap.size, 0, none⟩ 1 1 [.int .u8 ((s[k]).toNat : Int)] rfl rfl ?c1 ?c2 ?c3 ?c4 ?c5 ?_)
          case c1 =>
            intro j u hj
            match j, hj with
            | 0, hj => simp at hj; subst hj; simp [Addr.add]
          case c2 => intro u hu; simp at hu; subst hu; rfl
          case c3 => unfold maxLen; omega
          case c4 => omega
          case c5 => simp; omega
          intro v' w2 hown' hgrow _
          have hb2 : Below w.heap.size w w2 := (hb.alloc hsz _).grown hgrow (by simp; omega) (fun q hq => (ho.lt q hq).1)
          have ho2 := own_one hown'
          clear hown' hgrow ho
          go_wp2_with (at_builtin; refine Lib.wpList_append_own_string _ rfl _ _ 38 9 rfl w.heap.size 5 i0 Try.underlying38 Try.underlying9 hi hz0 hz1 hz2 _ _ _ rfl ho2 lead rfl ?d3 ?d4 ?d5 ?_)
          case d3 => rw [List.length_append]; simp only [List.length_cons, List.length_nil]; unfold maxLen; omega
          case d4 => rw [List.length_append]; simp only [List.length_cons, List.length_nil]; omega
          case d5 => have := hb2.size; omega
          intro v3 w3 hown3 hgrow3 _
          have hb3 : Below w.heap.size w w3 := hb2.grown hgrow3 (by have := hb2.size; omega) (fun q hq => (ho2.lt q hq).1)
          have ho3 := own_str (acc := acc ++ [s[k]]) (by rw [List.length_append]; exact hown3)
          clear hown3 hgrow3 ho2
          go_wp2
          go_roundw
          case rel => exact ⟨k + 1, true, by omega, by go_num, rfl, _, H3, ho3, hb3, NA.out.symm, NF.out.symm⟩
          case measure => simp [intOf]; omega
        · go_wp2_with (at_builtin; refine wpList_append_own _ rfl _ _ 38 rfl w.heap.size 5 i0 (.int .u8 0) 1 1 Try.underlying38 hi hz0 hz1 hz2 rfl (by decide) _ _ _ rfl (ho.alloc _) ⟨wr.heap.size, 0, none⟩ 1 1 [.int .u8 ((s[k]).toNat : Int)] rfl rfl ?c1 ?c2 ?c3 ?c4 ?c5 ?_)
          case c1 =>
            intro j u hj
            match j, hj with
            | 0, hj => simp at hj; subst hj; simp [Addr.add]
          case c2 => intro u hu; simp at hu; subst hu; rfl
          case c3 => unfold maxLen; omega
          case c4 => omega
          case c5 => simp; omega
          intro v' w2 hown' hgrow _
          have hb2 : Below w.heap.size w w2 := (hb.alloc hsz _).grown hgrow (by simp; omega) (fun q hq => (ho.lt q hq).1)
          have ho2 := own_one hown'
          clear hown' hgrow ho
          go_wp2_with (at_builtin; refine Lib.wpList_append_own_string _ rfl _ _ 38 9 rfl w.heap.size 5 i0 Try.underlying38 Try.underlying9 hi hz0 hz1 hz2 _ _ _ rfl ho2 lead rfl ?d3 ?d4 ?d5 ?_)
          case d3 => rw [List.length_append]; simp only [List.length_cons, List.length_nil]; unfold maxLen; omega
          case d4 => rw [List.length_append]; simp only [List.length_cons, List.length_nil]; omega
          case d5 => have := hb2.size; omega
          intro v3 w3 hown3 hgrow3 _
          have hb3 : Below w.heap.size w w3 := hb2.grown hgrow3 (by have := hb2.size; omega) (fun q hq => (ho2.lt q hq).1)
          have ho3 := own_str (acc := acc ++ [s[k]]) (by rw [List.length_append]; exact hown3)
          clear hown3 hgrow3 ho2
          go_wp2
          go_roundw
          case rel => exact ⟨k + 1, true, by omega, by go_num, rfl, _, H3, ho3, hb3, NA.out.symm, NF.out.symm⟩
          case measure => simp [intOf]; omega
      · have t10 : (((s[k]).toNat : Int) == 10) = false := by
          simp only [beq_eq_false_iff_ne]; intro h; exact h10 (hc10.2 (by omega))
        rw [if_neg h10] at nf
        by_cases h9 : s[k] = 9
        · have t9 : (((s[k]).toNat : Int) == 9) = true := by rw [hc9.1 h9]; rfl
          cases fb
          · -- no line's beginning
            have na' : ad lead.data.toList unit.data.toList false (s.data.toList.take (k + 1)) = acc ++ [s[k]] := by
              rw [na]; simp [ad, h10]
            have nf' : fl false (s.data.toList.take (k + 1)) = false := by rw [nf]; simp
            have NA := Lib.hid na'
            have NF := Lib.hid nf'
            have H3 : (acc ++ [s[k]]).length ≤ (k + 1) * 1025 := by rw [List.length_append]; simp only [List.length_cons, List.length_nil]; omega
            clear na na' nf nf' hc10 hc9 h10 h9 hll hul hk2
            go_wp2_with (at_builtin; refine wpList_append_own _ rfl _ _ 38 rfl w.heap.size 5 i0 (.int .u8 0) 1 1 Try.underlying38 hi hz0 hz1 hz2 rfl (by decide) _ _ _ rfl (ho.alloc _) ⟨wr.heap.size, 0, none⟩ 1 1 [.int .u8 ((s[k]).toNat : Int)] rfl rfl ?c1 ?c2 ?c3 ?c4 ?c5 ?_)
            case c1 =>
              intro j u hj
              match j, hj with
              | 0, hj => simp at hj; subst hj; simp [Addr.add]
            case c2 => intro u hu; simp at hu; subst hu; rfl
            case c3 => unfold maxLen; omega
            case c4 => omega
            case c5 => simp; omega
            intro v' w2 hown' hgrow _
            have hb2 : Below w.heap.size w w2 := (hb.alloc hsz _).grown hgrow (by simp; omega) (fun q hq => (ho.lt q hq).1)
            have ho2 := own_one hown'
            clear hown' hgrow ho
            go_wp2
            go_roundw
            case rel => exact ⟨k + 1, false, by omega, by go_num, rfl, _, H3, ho2, hb2, NA.out.symm, NF.out.symm⟩
            case measure => simp [intOf]; omega
          · by_cases hue : unit.data.toList = []
            · have u0 : unit.toList = [] := by rw [Lib.toList_data]; exact hue
              have u1 : unit.toList.isEmpty = true := by rw [u0]; rfl
              have u2 : (unit.toList == []) = true := by rw [u0]; rfl
              have na' : ad lead.data.toList unit.data.toList false (s.data.toList.take (k + 1)) = acc ++ [s[k]] := by
                rw [na]; simp [ad, h10, hue]
              have nf' : fl false (s.data.toList.take (k + 1)) = true := by rw [nf]; simp [h9]
              have NA := Lib.hid na'
              have NF := Lib.hid nf'
              have H3 : (acc ++ [s[k]]).length ≤ (k + 1) * 1025 := by rw [List.length_append]; simp only [List.length_cons, List.length_nil]; omega
              clear na na' nf nf' hc10 hc9 h10 h9 hll hul hk2
              clear hue u0
              go_wp2_with (at_builtin; refine wpList_append_own _ rfl _ _ 38 rfl w.heap.size 5 i0 (.int .u8 0) 1 1 Try.underlying38 hi hz0 hz1 hz2 rfl (by decide) _ _ _ rfl (ho.alloc _) ⟨wr.heap.size, 0, none⟩ 1 1 [.int .u8 ((s[k]).toNat : Int)] rfl rfl ?c1 ?c2 ?c3 ?c4 ?c5 ?_)
              case c1 =>
                intro j u hj
                match j, hj with
                | 0, hj => simp at hj; subst hj; simp [Addr.add]
              case c2 => intro u hu; simp at hu; subst hu; rfl
              case c3 => unfold maxLen; omega
              case c4 => omega
              case c5 => simp; omega
              intro v' w2 hown' hgrow _
              have hb2 : Below w.heap.size w w2 := (hb.alloc hsz _).grown hgrow (by simp; omega) (fun q hq => (ho.lt q hq).1)
              have ho2 := own_one hown'
              clear hown' hgrow ho
              go_wp2
              go_roundw
              case rel => exact ⟨k + 1, true, by omega, by go_num, rfl, _, H3, ho2, hb2, NA.out.symm, NF.out.symm⟩
              case measure => simp [intOf]; omega
            · have u1 : unit.toList.isEmpty = false := by
                rw [Lib.toList_data]
                cases hx : unit.data.toList with
                | nil => exact absurd hx hue
                | cons a r => rfl
              have na' : ad lead.data.toList unit.data.toList false (s.data.toList.take (k + 1)) = acc ++ unit.data.toList := by
                rw [na]; simp [ad, h9, hue]
              have nf' : fl false (s.data.toList.take (k + 1)) = true := by rw [nf]; simp [h9]
              have NA := Lib.hid na'
              have NF := Lib.hid nf'
              have H3 : (acc ++ unit.data.toList).length ≤ (k + 1) * 1025 := by rw [List.length_append, hul]; omega
              clear na na' nf nf' hc10 hc9 h10 h9 hll hul hk2 hue
              go_wp2_with (at_builtin; refine Lib.wpList_append_own_string _ rfl _ _ 38 9 rfl w.heap.size 5 i0 Try.underlying38 Try.underlying9 hi hz0 hz1 hz2 _ _ _ rfl ho unit rfl ?d3 ?d4 ?d5 ?_)
              case d3 => unfold maxLen; omega
              case d4 => omega
              case d5 => exact hsz
              intro v3 w3 hown3 hgrow3 _
              have hb3 : Below w.heap.size w w3 := hb.grown hgrow3 hsz (fun q hq => (ho.lt q hq).1)
              have ho3 := own_str hown3
              clear hown3 hgrow3 ho
              go_wp2
              go_roundw
              case rel => exact ⟨k + 1, true, by omega, by go_num, rfl, _, H3, ho3, hb3, NA.out.symm, NF.out.symm⟩
              case measure => simp [intOf]; omega
        · have t9 : (((s[k]).toNat : Int) == 9) = false := by
            simp only [beq_eq_false_iff_ne]; intro h; exact h9 (hc9.2 (by omega))
          cases fb
          · -- no line's beginning
            have na' : ad lead.data.toList unit.data.toList false (s.data.toList.take (k + 1)) = acc ++ [s[k]] := by
              rw [na]; simp [ad, h10]
            have nf' : fl false (s.data.toList.take (k + 1)) = false := by rw [nf]; simp
            have NA := Lib.hid na'
            have NF := Lib.hid nf'
            have H3 : (acc ++ [s[k]]).length ≤ (k + 1) * 1025 := by rw [List.length_append]; simp only [List.length_cons, List.length_nil]; omega
            clear na na' nf nf' hc10 hc9 h10 h9 hll hul hk2
            go_wp2_with (at_builtin; refine wpList_append_own _ rfl _ _ 38 rfl w.heap.size 5 i0 (.int .u8 0) 1 1 Try.underlying38 hi hz0 hz1 hz2 rfl (by decide) _ _ _ rfl (ho.alloc _) ⟨wr.heap.size, 0, none⟩ 1 1 [.int .u8 ((s[k]).toNat : Int)] rfl rfl ?c1 ?c2 ?c3 ?c4 ?c5 ?_)
            case c1 =>
              intro j u hj
              match j, hj with
              | 0, hj => simp at hj; subst hj; simp [Addr.add]
            case c2 => intro u hu; simp at hu; subst hu; rfl
            case c3 => unfold maxLen; omega
            case c4 => omega
            case c5 => simp; omega
            intro v' w2 hown' hgrow _
            have hb2 : Below w.heap.size w w2 := (hb.alloc hsz _).grown hgrow (by simp; omega) (fun q hq => (ho.lt q hq).1)
            have ho2 := own_one hown'
            clear hown' hgrow ho
            go_wp2
            go_roundw
            case rel => exact ⟨k + 1, false, by omega, by go_num, rfl, _, H3, ho2, hb2, NA.out.symm, NF.out.symm⟩
            case measure => simp [intOf]; omega
          · -- a line's beginning
            have na' : ad lead.data.toList unit.data.toList false (s.data.toList.take (k + 1)) = acc ++ [s[k]] := by
              rw [na]; simp [ad, h10, h9]
            have nf' : fl false (s.data.toList.take (k + 1)) = false := by rw [nf]; simp [h9]
            have NA := Lib.hid na'
            have NF := Lib.hid nf'
            have H3 : (acc ++ [s[k]]).length ≤ (k + 1) * 1025 := by rw [List.length_append]; simp only [List.length_cons, List.length_nil]; omega
            clear na na' nf nf' hc10 hc9 h10 h9 hll hul hk2
            go_wp2_with (at_builtin; refine wpList_append_own _ rfl _ _ 38 rfl w.heap.size 5 i0 (.int .u8 0) 1 1 Try.underlying38 hi hz0 hz1 hz2 rfl (by decide) _ _ _ rfl (ho.alloc _) ⟨wr.heap.size, 0, none⟩ 1 1 [.int .u8 ((s[k]).toNat : Int)] rfl rfl ?c1 ?c2 ?c3 ?c4 ?c5 ?_)
            case c1 =>
              intro j u hj
              match j, hj with
              | 0, hj => simp at hj; subst hj; simp [Addr.add]
            case c2 => intro u hu; simp at hu; subst hu; rfl
            case c3 => unfold maxLen; omega
            case c4 => omega
            case c5 => simp; omega
            intro v' w2 hown' hgrow _
            have hb2 : Below w.heap.size w w2 := (hb.alloc hsz _).grown hgrow (by simp; omega) (fun q hq => (ho.lt q hq).1)
            have ho2 := own_one hown'
            clear hown' hgrow ho
            go_wp2
            go_roundw
            case rel => exact ⟨k + 1, false, by omega, by go_num, rfl, _, H3, ho2, hb2, NA.out.symm, NF.out.symm⟩
            case measure => simp [intOf]; omega
    · obtain rfl : s.size = k := by omega
      rw [List.take_of_length_le (by simp)] at ha
      have hcv := own_conv ho
      have HA := Lib.hid ha
      clear ha hf ho
      go_wp2
      go_ret
      exact ⟨congrArg (fun l : List UInt8 => Ending.returned (.string ⟨l.toArray⟩)) HA.out, hb⟩
end Go.Proofs.Ytfcnkmpndjmpnaa
