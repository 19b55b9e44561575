/-
  The contracts of strings.Builder (String) at this program, as the kit's own tool lay-plain.mjs writes them.
-/
import Derived.Shelf.Strings.Builder1
import Derived.Test.YtkeckbmhaplkpaaGreatDoorProg
import Derived.Test.YtkeckbmhaplkpaaGreatDoorChecked
import Derived.WalkKit
import Derived.WalkSpells
import Derived.Lib.Hide
namespace Go.Proofs
open Go.Shelf
def Tryz.lays169_ren : Go.Shelf.Ren := ⟨fun | 169 => 37 | n => n, fun | 70 => 77 | 9 => 9 | 0 => 0 | 72 => 79 | 37 => 76 | 127 => 148 | 3 => 3 | 5 => 5 | n => n, fun | n => n⟩
theorem Tryz.lays169 : Go.Proofs.Lays.n169 Tryz.prog Tryz.lays169_ren := {
  mixed := by kernel_rfl
  f169 := Tryz.func37.trans (congrArg some (by kernel_rfl))
  t0 := Tryz.underlying0
  a0 := Tryz.isAgg0
  z0 := Tryz.sizeOf0
  v0 := Tryz.zeroValue0
  t3 := Tryz.underlying3
  a3 := Tryz.isAgg3
  z3 := Tryz.sizeOf3
  v3 := Tryz.zeroValue3
  t9 := Tryz.underlying9
  a9 := Tryz.isAgg9
  z9 := Tryz.sizeOf9
  v9 := Tryz.zeroValue9
  t37 := Tryz.underlying76
  a37 := Tryz.isAgg76
  z37 := Tryz.sizeOf76
  v37 := Tryz.zeroValue76
  t70 := Tryz.underlying77
  a70 := Tryz.isAgg77
  z70 := Tryz.sizeOf77
  v70 := Tryz.zeroValue77
  t72 := Tryz.underlying79
  a72 := Tryz.isAgg79
  z72 := Tryz.sizeOf79
  v72 := Tryz.zeroValue79
  t127 := Tryz.underlying148
  a127 := Tryz.isAgg148
  z127 := Tryz.sizeOf148
  v127 := Tryz.zeroValue148 }
theorem Tryz.Builder_Extra_169 : Builder.Extra Tryz.prog Tryz.lays169_ren := {
  sizeBuilder := by kernel_rfl
  liesBuilder := by kernel_rfl
  t5 := Tryz.underlying5
  a5 := Tryz.isAgg5
  z5 := Tryz.sizeOf5
  v5 := Tryz.zeroValue5
  infoByte := by kernel_rfl
  cellsByte := by kernel_rfl
  sizeByte := by kernel_rfl
  neB5 := by decide }
open Go.RowKit in
/-- (*strings.Builder).String: "String returns the accumulated string.": OF A BUILDER THAT HOLDS AT LEAST ONE BYTE. ✋ THE MODEL FREEZES THOSE BYTES IN THE BUFFER (unsafe.String): a later write INTO them ends the model's run without an answer; a later append BEHIND them goes on. The statement's order of evaluation is drawn: one draw. (LAID: no walk: one application.) -/
theorem Tryz.Builder_String (B b : Nat) (l : List UInt8) (w : World) (h : Lib.IsBuilder 79 5 B b (Lib.byteCells l) w) (h0 : l ≠ []) :
    Calls Tryz.prog 37 #[.pointer (some ⟨b, 0, none⟩)] w fun e w' => e = .returned (.string ⟨l.toArray⟩) ∧ Below B w w' := Any.Builder_String Tryz.lays169 Tryz.Builder_Extra_169 B b l w h h0
open Go.RowKit in
/-- (*strings.Builder).String OF A BUILDER THAT HOLDS NO BYTE: the empty string. (Its buffer is nil, or a row of which it has taken nothing yet; where that row has NO capacity the model lays one new block for unsafe.SliceData's 'some address'.) One draw. (LAID: no walk: one application.) -/
theorem Tryz.Builder_String_empty (B b : Nat) (w : World) (h : Lib.IsBuilder 79 5 B b [] w) (hBw : B ≤ w.heap.size) :
    Calls Tryz.prog 37 #[.pointer (some ⟨b, 0, none⟩)] w fun e w' => e = .returned (.string ⟨#[]⟩) ∧ Below B w w' := Any.Builder_String_empty Tryz.lays169 Tryz.Builder_Extra_169 B b w h hBw
open Go.RowKit in
/-- (*strings.Builder).String: "String returns the accumulated string.": WHATEVER THE BUILDER HOLDS. (LAID: no walk: one application.) -/
theorem Tryz.Builder_String_any (B b : Nat) (l : List UInt8) (w : World) (h : Lib.IsBuilder 79 5 B b (Lib.byteCells l) w) (hBw : B ≤ w.heap.size) :
    Calls Tryz.prog 37 #[.pointer (some ⟨b, 0, none⟩)] w fun e w' => e = .returned (.string ⟨l.toArray⟩) ∧ Below B w w' := Any.Builder_String_any Tryz.lays169 Tryz.Builder_Extra_169 B b l w h hBw
end Go.Proofs
/- A text adapted, in plain lists of bytes: a lead behind each break, a unit for each tab at a line's beginning. No program in sight. -/
namespace Go.Proofs.YtkeckbmhaplkpaaGreatDoor.Ad.M

/-- f: are we at a line's beginning, behind a break? -/
def ad (lead unit : List UInt8) : Bool → List UInt8 → List UInt8
  | _, [] => []
  | f, c :: r => if c = 10 then 10 :: (lead ++ ad lead unit true r) else if c = 9 ∧ f = true ∧ unit ≠ [] then unit ++ ad lead unit true r else c :: ad lead unit (f && c == 9) r
/-- The flag behind a text. -/
def fl (f : Bool) : List UInt8 → Bool
  | [] => f
  | c :: r => fl (if c = 10 then true else f && c == 9) r
theorem fl_snoc (f : Bool) (l : List UInt8) (c : UInt8) : fl f (l ++ [c]) = if c = 10 then true else fl f l && c == 9 := by
  induction l generalizing f with
  | nil => rfl
  | cons d r ih => simp only [List.cons_append, fl]; exact ih _
theorem ad_app (lead unit : List UInt8) (f : Bool) (l m : List UInt8) : ad lead unit f (l ++ m) = ad lead unit f l ++ ad lead unit (fl f l) m := by
  induction l generalizing f with
  | nil => rfl
  | cons c r ih =>
    simp only [List.cons_append, ad, fl]
    by_cases h : c = 10
    · simp [h, ih]
    · by_cases h2 : c = 9 ∧ f = true ∧ unit ≠ []
      · rw [if_neg h, if_pos h2, if_neg h, if_pos h2, if_neg h, ih]
        have : (f && c == 9) = true := by simp [h2.1, h2.2.1]
        rw [this]; simp
      · rw [if_neg h, if_neg h2, if_neg h, if_neg h2, if_neg h, ih]; simp
theorem ad_le (lead unit : List UInt8) (f : Bool) (l : List UInt8) (N : Nat) (h1 : lead.length + 1 ≤ N) (h2 : unit.length ≤ N) : (ad lead unit f l).length ≤ l.length * N := by
  induction l generalizing f with
  | nil => simp [ad]
  | cons c r ih =>
    have e : (c :: r).length * N = r.length * N + N := by simp [Nat.add_mul]
    rw [e]
    simp only [ad]
    split
    · have := ih true; simp only [List.length_cons, List.length_append]; omega
    · split
      · have := ih true; simp only [List.length_append]; omega
      · have := ih (f && c == 9); simp only [List.length_cons]; omega
end Go.Proofs.YtkeckbmhaplkpaaGreatDoor.Ad.M
/- The contracts of strings.Builder's copyCheck and WriteString at this program. -/
namespace Go.Proofs.YtkeckbmhaplkpaaGreatDoor.Ad
open Go.RowKit

set_option maxRecDepth 100000 in
theorem sizeB : (Tryz.prog.info? 79).map (·.size) = some 2 := by kernel_rfl
set_option maxRecDepth 100000 in
theorem liesB : liesAt Tryz.prog Tryz.prog.depth 79 (2 / Tryz.prog.cellsOf 79) 0 79 1 = true := by kernel_rfl
set_option maxRecDepth 100000 in
theorem infoB : (Tryz.prog.info? 5).map (fun i => (i.zero, i.size, i.bytes)) = some (some (.int .u8 0), 1, 1) := by kernel_rfl

set_option maxRecDepth 100000 in
theorem copy_used (b : Nat) (w : World) (h0 : w.cell? ⟨b, 0, none⟩ = some (.pointer (some ⟨b, 0, none⟩))) :
    Calls Tryz.prog 75 #[.pointer (some ⟨b, 0, none⟩)] w fun e w' => e = .returned (.tuple #[]) ∧ w = w' := by
  obtain ⟨j, hj, _⟩ := Option.map_eq_some_iff.1 sizeB
  go_enter Tryz.func75, Tryz.ntmps75
  go_wp2
  rw [Lib.run_neq_ptr_same w _ Tryz.underlying77 hj]
  go_wp2
  go_end0
  exact ⟨rfl, rfl⟩
set_option maxRecDepth 100000 in
theorem copy_fresh (b : Nat) (w : World) (h0 : w.cell? ⟨b, 0, none⟩ = some (.pointer none)) (hsh : w.shape? b = some (79, 2)) (hfz : w.frozen? ⟨b, 0, none⟩ = false) :
    Calls Tryz.prog 75 #[.pointer (some ⟨b, 0, none⟩)] w fun e w' => e = .returned (.tuple #[]) ∧ w.setCell ⟨b, 0, none⟩ (.pointer (some ⟨b, 0, none⟩)) = w' := by
  obtain ⟨j, hj, hjs⟩ := Option.map_eq_some_iff.1 sizeB
  go_enter Tryz.func75, Tryz.ntmps75
  go_wp2
  rw [Lib.run_to_unsafe w ⟨b, 0, none⟩ Tryz.underlying77 Tryz.underlying226 hj (by rw [hjs]; decide) hsh (Nat.zero_lt_succ 1)]
  simp only [Result.andThen]
  rw [Oper.upon_value]
  go_wp2
  rw [run_callFunc_extern Tryz.func129 (by kernel_rfl) (by kernel_rfl) (by kernel_rfl) (e := Extern.AbiNoEscape.same) (by kernel_rfl)]
  rw [Lib.run_noEscape]
  simp only [Result.andThen]
  rw [Oper.upon_value]
  go_wp2
  rw [Lib.run_from_unsafe w ⟨b, 0, none⟩ Tryz.underlying226 Tryz.underlying77 hj hsh liesB]
  simp only [Result.andThen]
  rw [Oper.upon_value]
  go_wp2
  go_end0
  exact ⟨rfl, rfl⟩
set_option maxRecDepth 100000 in
theorem copy_any (B b : Nat) (bs : List Value) (w : World) (h : Lib.IsBuilder 79 5 B b bs w) :
    Calls Tryz.prog 75 #[.pointer (some ⟨b, 0, none⟩)] w fun e w' => e = .returned (.tuple #[]) ∧ (Lib.BuilderAt 79 5 B b (.pointer (some ⟨b, 0, none⟩)) bs w' ∧ Below B w w') := by
  rcases h with h | h
  · refine (copy_fresh b w h.cell0 h.shape h.frozen0).mono ?_
    rintro e w' ⟨rfl, rfl⟩
    exact ⟨rfl, h.used _, (Below.refl B w).setCell (p := ⟨b, 0, none⟩) h.1 _⟩
  · refine (copy_used b w h.cell0).mono ?_
    rintro e w' ⟨rfl, rfl⟩
    exact ⟨rfl, h, Below.refl B _⟩

set_option maxRecDepth 100000 in
set_option maxHeartbeats 1000000 in
theorem writeString_any (B b : Nat) (bs : List Value) (s : ByteArray) (w : World) (h : Lib.IsBuilder 79 5 B b bs w) (hlen : bs.length + s.size ≤ 140737488355328) (hBw : B ≤ w.heap.size) :
    Calls Tryz.prog 36 #[.pointer (some ⟨b, 0, none⟩), .string s] w fun e w' => e = .returned (.tuple #[.int .i64 s.size, .nilIface]) ∧ (Lib.IsBuilder 79 5 B b (bs ++ Lib.strCells s) w' ∧ Below B w w') := by
  obtain ⟨i0, hi, hz0, hz1, hz2⟩ := info_parts infoB
  go_enter Tryz.func36, Tryz.ntmps36
  go_wp2_with fail
  refine (copy_any B b bs _ h).mono ?_
  rintro e w1 ⟨rfl, h1, hb1⟩
  obtain ⟨hB, v, hbk, hown, hne⟩ := h1
  have c0 : w1.cell? ⟨b, 0, none⟩ = some (.pointer (some ⟨b, 0, none⟩)) := by rw [Lib.cell_of_heap hbk]; rfl
  have c1 : w1.cell? ⟨b, 1, none⟩ = some v := by rw [Lib.cell_of_heap hbk]; rfl
  go_wp2_with (at_builtin; refine Lib.wpList_append_own_string _ rfl _ _ 76 9 rfl B 5 i0 Tryz.underlying76 Tryz.underlying9 hi hz0 hz1 hz2 _ _ _ rfl hown s rfl ?c3 ?c4 ?c5 ?_)
  case c3 => unfold maxLen; omega
  case c4 => omega
  case c5 => have := hb1.size; omega
  intro v' w2 hown' hgrow _
  have hlt : b < w1.heap.size := by
    rcases Nat.lt_or_ge b w1.heap.size with h' | h'
    · exact h'
    · simp [Array.getElem?_eq_none h'] at hbk
  have hb2 : w2.heap[b]? = some (.cells #[.pointer (some ⟨b, 0, none⟩), v] 79 (0, 0)) := by
    rw [hgrow.block b hlt (fun e => hne e.symm)]
    exact hbk
  have d0 : w2.cell? ⟨b, 0, none⟩ = some (.pointer (some ⟨b, 0, none⟩)) := by rw [Lib.cell_of_heap hb2]; rfl
  have d1 : w2.cell? ⟨b, 1, none⟩ = some v := by rw [Lib.cell_of_heap hb2]; rfl
  have f1 : w2.frozen? ⟨b, 1, none⟩ = false := Lib.frozen_of_heap hb2 1
  obtain ⟨ao, n', cap, rfl⟩ : ∃ ao n' cap, v' = .slice ao n' cap := by
    rcases hown'.2 with ⟨hv, _⟩ | ⟨g, cap, cur, hv, _⟩
    · exact ⟨_, _, _, hv⟩
    · exact ⟨_, _, _, hv⟩
  go_wp2
  go_ret2
  refine ⟨rfl, .inr ?_, ?_⟩
  · exact Lib.BuilderAt.put (T := 79) (e := 5) hB hb2 (bs' := bs ++ Lib.strCells s) (by simpa [Lib.strCells_length] using hown') (by decide)
  · exact (hb1.grown hgrow (by have := hb1.size; omega) (fun k hk => (hown.lt k hk).1)).setCell (p := ⟨b, 1, none⟩) hB _
end Go.Proofs.YtkeckbmhaplkpaaGreatDoor.Ad
/- What each lays, what Adapt hands back: the text adapted. -/
namespace Go.Proofs.YtkeckbmhaplkpaaGreatDoor.Ad
open Go.RowKit
open M

set_option maxRecDepth 100000 in
theorem strCells_list (s : ByteArray) : Lib.strCells s = Lib.byteCells s.data.toList := rfl
set_option maxRecDepth 100000 in
theorem lay_any (B b : Nat) (acc : List UInt8) (t : ByteArray) (w : World) (h : Lib.IsBuilder 79 5 B b (Lib.byteCells acc) w) (hlen : acc.length + t.size ≤ 1073741824) (hBw : B ≤ w.heap.size) :
    Calls Tryz.prog 35 #[.string t, .pointer (some ⟨b, 0, none⟩)] w fun e w' => e = .returned (.tuple #[]) ∧ (Lib.IsBuilder 79 5 B b (Lib.byteCells (acc ++ t.data.toList)) w' ∧ Below B w w') := by
  rw [Lib.byteCells_append, ← strCells_list]
  go_enter Tryz.func35, Tryz.ntmps35
  go_wp2_with fail
  refine (writeString_any B b _ t _ h (by rw [Lib.byteCells_length]; omega) hBw).mono ?_
  rintro e w1 ⟨rfl, h1, hb1⟩
  go_wp2
  go_end0
  exact ⟨rfl, h1, hb1⟩
set_option maxRecDepth 100000 in
theorem byte_list (s : ByteArray) (k : Nat) (h : k < s.size) : (s.extract k (k + 1)).data.toList = [s[k]] := by
  rw [ByteArray.data_extract, Array.toList_extract, List.extract_eq_take_drop, List.drop_eq_getElem_cons (by simpa using h)]
  simp
  rfl
set_option maxRecDepth 100000 in
theorem byte_size (s : ByteArray) (k : Nat) (h : k < s.size) : (s.extract k (k + 1)).size = 1 := by
  rw [ByteArray.size_extract]; omega
set_option maxRecDepth 100000 in
theorem take_one (s : ByteArray) (k : Nat) (h : k < s.size) : s.data.toList.take (k + 1) = s.data.toList.take k ++ [s[k]] := by
  rw [List.take_succ_eq_append_getElem (by simpa using h)]; rfl
/-- The loop's relation: k bytes seen, acc laid. -/
def En (B b : Nat) (w : World) (s lead unit : ByteArray) (k : Nat) (f : Bool) (wr : World) : Prop :=
  ∃ acc : List UInt8, acc.length ≤ k * 1025 ∧ Lib.IsBuilder 79 5 B b (Lib.byteCells acc) wr ∧ Below B w wr ∧ acc = ad lead.data.toList unit.data.toList false (s.data.toList.take k) ∧ f = fl false (s.data.toList.take k)
set_option maxRecDepth 100000 in
theorem ad_next (lead unit : List UInt8) (s : ByteArray) (k : Nat) (h : k < s.size) : ad lead unit false (s.data.toList.take (k + 1)) = ad lead unit false (s.data.toList.take k) ++ ad lead unit (fl false (s.data.toList.take k)) [s[k]] := by
  rw [take_one s k h, ad_app]
set_option maxRecDepth 100000 in
theorem fl_next (s : ByteArray) (k : Nat) (h : k < s.size) : fl false (s.data.toList.take (k + 1)) = if s[k] = 10 then true else fl false (s.data.toList.take k) && s[k] == 9 := by
  rw [take_one s k h, fl_snoc]

set_option maxRecDepth 100000 in
set_option maxHeartbeats 4000000 in
theorem each_any (B b : Nat) (s lead unit : ByteArray) (w : World) (hs : s.size ≤ 100000) (hl : lead.size ≤ 1024) (hu : unit.size ≤ 1024) (hI : Lib.IsBuilder 79 5 B b [] w) (hBw : B ≤ w.heap.size) :
    Calls Tryz.prog 34 #[.string s, .string lead, .string unit, .func (.func 35) #[] #[.pointer (some ⟨b, 0, none⟩)]] w fun e w' =>
      e = .returned (.tuple #[]) ∧ (Lib.IsBuilder 79 5 B b (Lib.byteCells (ad lead.data.toList unit.data.toList false s.data.toList)) w' ∧ Below B w w') := by
  have hst : En B b w s lead unit 0 false w := ⟨[], by simp, hI, Below.refl _ _, rfl, rfl⟩
  have HS := Lib.hid hst
  clear hst hI
  go_enter Tryz.func34, Tryz.ntmps34
  go_wp2
  go_loopw [8, 9] (fun f i wr => ∃ (k : Nat) (fb : Bool), k ≤ s.size ∧ i = .int .i64 k ∧ f = .bool fb ∧ En B b w s lead unit k fb wr) (fun _ i _ => s.size - (intOf i).toNat)
  case atStart => exact ⟨0, false, Nat.zero_le _, rfl, rfl, HS.out⟩
  case round =>
    obtain ⟨k, fb, hk, rfl, rfl, acc, hacc, hI, hb, ha, hf⟩ := hrel
    by_cases hlt : k < s.size
    · have hsz : B ≤ wr.heap.size := Nat.le_trans hBw hb.size
      have hbs := byte_size s k hlt
      have hbl := byte_list s k hlt
      have na := ad_next lead.data.toList unit.data.toList s k hlt
      have nf := fl_next s k hlt
      rw [← ha, ← hf] at na
      rw [← hf] at nf
      have hk1 : k * 1025 ≤ 100000 * 1025 := Nat.mul_le_mul_right _ (by omega)
      have hk2 : (k + 1) * 1025 = k * 1025 + 1025 := by rw [Nat.add_mul]
      have hll : lead.data.toList.length = lead.size := by simp
      have hul : unit.data.toList.length = unit.size := by simp
      have hcb := (s[k]).toNat_lt
      have hc10 : s[k] = 10 ↔ (s[k]).toNat = 10 := ⟨fun h => by rw [h]; rfl, fun h => UInt8.toNat_inj.1 h⟩
      have hc9 : s[k] = 9 ↔ (s[k]).toNat = 9 := ⟨fun h => by rw [h]; rfl, fun h => UInt8.toNat_inj.1 h⟩
      clear ha hf
      by_cases h10 : s[k] = 10
      · -- a break
        have t1 : (((s[k]).toNat : Int) == 10) = true := by rw [hc10.1 h10]; rfl
        rw [if_pos h10] at nf
        have na' : ad lead.data.toList unit.data.toList false (s.data.toList.take (k + 1)) = (acc ++ [s[k]]) ++ lead.data.toList := by
          rw [na]; simp [ad, h10]
        have NA := Lib.hid na'
        have NF := Lib.hid nf
        have HB := Lib.hid hbl
        have H1 : acc.length + (s.extract k (k + 1)).size ≤ 1073741824 := by omega
        have H2 : (acc ++ [s[k]]).length + lead.size ≤ 1073741824 := by rw [List.length_append]; simp only [List.length_cons, List.length_nil]; omega
        have H3 : (acc ++ [s[k]] ++ lead.data.toList).length ≤ (k + 1) * 1025 := by rw [List.length_append, List.length_append, hll]; simp only [List.length_cons, List.length_nil]; omega
        clear na na' nf hbl hc10 hc9 h10 hbs hll hul hk2
        go_wp2_with fail
        refine (lay_any B b acc _ _ hI H1 hsz).mono ?_
        rw [HB.out]
        rintro e w1 ⟨rfl, hI1, hb1⟩
        go_wp2_with fail
        refine (lay_any B b _ lead _ hI1 H2 (Nat.le_trans hsz hb1.size)).mono ?_
        rintro e w2 ⟨rfl, hI2, hb2⟩
        go_wp2
        go_roundw
        case rel => exact ⟨k + 1, true, by omega, by go_num, rfl, _, H3, hI2, (hb.trans hb1).trans hb2, NA.out.symm, NF.out.symm⟩
        case measure => simp [intOf]; omega
      · have t1 : (((s[k]).toNat : Int) == 10) = false := by
          simp only [beq_eq_false_iff_ne]; intro h; exact h10 (hc10.2 (by omega))
        rw [if_neg h10] at nf
        by_cases h9 : s[k] = 9
        · have t9 : (((s[k]).toNat : Int) == 9) = true := by rw [hc9.1 h9]; rfl
          cases fb
          · -- no line's beginning
            have na' : ad lead.data.toList unit.data.toList false (s.data.toList.take (k + 1)) = acc ++ [s[k]] := by
              rw [na]; simp [ad, h10]
            have nf' : fl false (s.data.toList.take (k + 1)) = false := by rw [nf]; simp
            have NA := Lib.hid na'
            have NF := Lib.hid nf'
            have HB := Lib.hid hbl
            have H1 : acc.length + (s.extract k (k + 1)).size ≤ 1073741824 := by omega
            have H3 : (acc ++ [s[k]]).length ≤ (k + 1) * 1025 := by rw [List.length_append]; simp only [List.length_cons, List.length_nil]; omega
            clear na na' nf nf' hbl hc10 hc9 h10 h9 hbs hll hul hk2
            go_wp2_with fail
            refine (lay_any B b acc _ _ hI H1 hsz).mono ?_
            rw [HB.out]
            rintro e w1 ⟨rfl, hI1, hb1⟩
            go_wp2
            go_roundw
            case rel => exact ⟨k + 1, false, by omega, by go_num, rfl, _, H3, hI1, hb.trans hb1, NA.out.symm, NF.out.symm⟩
            case measure => simp [intOf]; omega
          · by_cases hue : unit.data.toList = []
            · -- no unit
              have u1 : unit.toList = [] := by rw [Lib.toList_data]; exact hue
              have u2 : unit.toList.isEmpty = true := by rw [u1]; rfl
              have na' : ad lead.data.toList unit.data.toList false (s.data.toList.take (k + 1)) = acc ++ [s[k]] := by
                rw [na]; simp [ad, h10, hue]
              have nf' : fl false (s.data.toList.take (k + 1)) = true := by rw [nf]; simp [h9]
              have NA := Lib.hid na'
              have NF := Lib.hid nf'
              have HB := Lib.hid hbl
              have H1 : acc.length + (s.extract k (k + 1)).size ≤ 1073741824 := by omega
              have H3 : (acc ++ [s[k]]).length ≤ (k + 1) * 1025 := by rw [List.length_append]; simp only [List.length_cons, List.length_nil]; omega
              clear hue na na' nf nf' hbl hc10 hc9 h10 h9 hbs hll hul hk2
              go_wp2_with fail
              refine (lay_any B b acc _ _ hI H1 hsz).mono ?_
              rw [HB.out]
              rintro e w1 ⟨rfl, hI1, hb1⟩
              go_wp2
              go_roundw
              case rel => exact ⟨k + 1, true, by omega, by go_num, rfl, _, H3, hI1, hb.trans hb1, NA.out.symm, NF.out.symm⟩
              case measure => simp [intOf]; omega
            · -- a unit
              have u1 : unit.toList.isEmpty = false := by
                rw [Lib.toList_data]
                cases hx : unit.data.toList with
                | nil => exact absurd hx hue
                | cons a r => rfl
              have u2 : (!unit.toList.isEmpty) = true := by rw [u1]; rfl
              have na' : ad lead.data.toList unit.data.toList false (s.data.toList.take (k + 1)) = acc ++ unit.data.toList := by
                rw [na]; simp [ad, h9, hue]
              have nf' : fl false (s.data.toList.take (k + 1)) = true := by rw [nf]; simp [h9]
              have NA := Lib.hid na'
              have NF := Lib.hid nf'
              have H1 : acc.length + unit.size ≤ 1073741824 := by omega
              have H3 : (acc ++ unit.data.toList).length ≤ (k + 1) * 1025 := by rw [List.length_append, hul]; omega
              clear na na' nf nf' hbl hc10 hc9 h10 h9 hbs hll hul hk2 hue
              go_wp2_with fail
              refine (lay_any B b acc _ _ hI H1 hsz).mono ?_
              rintro e w1 ⟨rfl, hI1, hb1⟩
              go_wp2
              go_roundw
              case rel => exact ⟨k + 1, true, by omega, by go_num, rfl, _, H3, hI1, hb.trans hb1, NA.out.symm, NF.out.symm⟩
              case measure => simp [intOf]; omega
        · have t9 : (((s[k]).toNat : Int) == 9) = false := by
            simp only [beq_eq_false_iff_ne]; intro h; exact h9 (hc9.2 (by omega))
          cases fb
          · have na' : ad lead.data.toList unit.data.toList false (s.data.toList.take (k + 1)) = acc ++ [s[k]] := by
              rw [na]; simp [ad, h10]
            have nf' : fl false (s.data.toList.take (k + 1)) = false := by rw [nf]; simp
            have NA := Lib.hid na'
            have NF := Lib.hid nf'
            have HB := Lib.hid hbl
            have H1 : acc.length + (s.extract k (k + 1)).size ≤ 1073741824 := by omega
            have H3 : (acc ++ [s[k]]).length ≤ (k + 1) * 1025 := by rw [List.length_append]; simp only [List.length_cons, List.length_nil]; omega
            clear na na' nf nf' hbl hc10 hc9 h10 h9 hbs hll hul hk2
            go_wp2_with fail
            refine (lay_any B b acc _ _ hI H1 hsz).mono ?_
            rw [HB.out]
            rintro e w1 ⟨rfl, hI1, hb1⟩
            go_wp2
            go_roundw
            case rel => exact ⟨k + 1, false, by omega, by go_num, rfl, _, H3, hI1, hb.trans hb1, NA.out.symm, NF.out.symm⟩
            case measure => simp [intOf]; omega
          · have na' : ad lead.data.toList unit.data.toList false (s.data.toList.take (k + 1)) = acc ++ [s[k]] := by
              rw [na]; simp [ad, h10, h9]
            have nf' : fl false (s.data.toList.take (k + 1)) = false := by rw [nf]; simp [h9]
            have NA := Lib.hid na'
            have NF := Lib.hid nf'
            have HB := Lib.hid hbl
            have H1 : acc.length + (s.extract k (k + 1)).size ≤ 1073741824 := by omega
            have H3 : (acc ++ [s[k]]).length ≤ (k + 1) * 1025 := by rw [List.length_append]; simp only [List.length_cons, List.length_nil]; omega
            clear na na' nf nf' hbl hc10 hc9 h10 h9 hbs hll hul hk2
            go_wp2_with fail
            refine (lay_any B b acc _ _ hI H1 hsz).mono ?_
            rw [HB.out]
            rintro e w1 ⟨rfl, hI1, hb1⟩
            go_wp2
            go_roundw
            case rel => exact ⟨k + 1, false, by omega, by go_num, rfl, _, H3, hI1, hb.trans hb1, NA.out.symm, NF.out.symm⟩
            case measure => simp [intOf]; omega
    · obtain rfl : s.size = k := by omega
      rw [List.take_of_length_le (by simp)] at ha
      have HA := Lib.hid ha
      clear ha hf
      go_wp2
      go_end0
      exact ⟨rfl, by rw [← HA.out]; exact hI, hb⟩

set_option maxRecDepth 100000 in
theorem adapt_any (s lead unit : ByteArray) (w : World) (hs : s.size ≤ 100000) (hl : lead.size ≤ 1024) (hu : unit.size ≤ 1024) :
    Calls Tryz.prog 15 #[.string s, .string lead, .string unit] w fun e w' => e = .returned (.string ⟨(ad lead.data.toList unit.data.toList false s.data.toList).toArray⟩) ∧ Below w.heap.size w w' := by
  have hF := Lib.hid (Lib.fresh_isBuilder 79 5 w)
  have hA : Below w.heap.size w (w.alloc (.cells #[.pointer none, .slice none 0 0] 79)) := (Below.refl _ _).alloc (Nat.le_refl _) _
  go_enter Tryz.func15, Tryz.ntmps15
  go_wp2_with fail
  refine (each_any w.heap.size w.heap.size s lead unit _ hs hl hu hF.out (by simp)).mono ?_
  rintro e w1 ⟨rfl, hI1, hb1⟩
  go_wp2_with fail
  refine (Tryz.Builder_String_any _ _ _ _ hI1 (Nat.le_trans hA.size hb1.size)).mono ?_
  rintro e w2 ⟨rfl, hb2⟩
  go_wp2
  go_ret
  exact ⟨rfl, (hA.trans hb1).trans hb2⟩
end Go.Proofs.YtkeckbmhaplkpaaGreatDoor.Ad
