/- The snippet's reader over a guarded text: its small functions. -/
import Derived.Test.YtkeckbmhaplkpaaGreatDoorChecked
import Derived.WalkKit
import Derived.WalkSpells
import Derived.Lib.Hide
import Derived.Lib.QuietBelow
import Derived.Lib.Bytealg
import Derived.BigQuiet
namespace Go.Proofs.YtkeckbmhaplkpaaGreatDoor.Pa
open Go Go.RowKit

def hasC (s : ByteArray) (c : UInt8) : Bool := s.data[0]? == some c
theorem one_list (c : UInt8) : (⟨#[c]⟩ : ByteArray).toList = [c] := by rw [Lib.toList_data]
theorem ext_list (s : ByteArray) (h : 0 < s.size) : (s.extract 0 1).toList = [s[0]] := by
  rw [Lib.toList_data, ByteArray.data_extract, Array.toList_extract, List.extract_eq_take_drop, List.drop_eq_getElem_cons (by simpa using h)]
  simp
  rfl
theorem hp_any (s : ByteArray) (c : UInt8) (w : World) : Calls Tryz.prog 258 #[.string s, .string ⟨#[c]⟩] w fun e w' => e = .returned (.bool (hasC s c)) ∧ w' = w := by
  have e1 : (⟨#[c]⟩ : ByteArray).size = 1 := rfl
  by_cases h : 0 < s.size
  · have hv : hasC s c = (([s[0]] : List UInt8) == [c]) := by
      unfold hasC
      have : s.data[0]? = some s[0] := Array.getElem?_eq_getElem h
      rw [this]
      rw [Bool.eq_iff_iff]
      simp
    rw [hv]
    have l1 := ext_list s h
    have l2 := one_list c
    have H1 := Lib.hid l1
    have H2 := Lib.hid l2
    have h1 : decide ((1 : Int) ≤ (s.size : Int)) = true := by simp; omega
    clear hv l1 l2
    go_enter Tryz.func258, Tryz.ntmps258
    go_wp2
    go_ret
    exact ⟨congrArg (fun l : List UInt8 => Ending.returned (.bool (l == [c]))) H1.out, rfl⟩
  · have hv : hasC s c = false := by
      unfold hasC
      have : s.data[0]? = none := Array.getElem?_eq_none (by show s.size ≤ 0; omega)
      rw [this]; rfl
    rw [hv]
    have hz : s.size = 0 := by omega
    have h1 : decide ((1 : Int) ≤ (s.size : Int)) = false := by rw [hz]; rfl
    clear hv
    go_enter Tryz.func258, Tryz.ntmps258
    go_wp2
    go_ret
    exact ⟨rfl, rfl⟩
theorem prefix_any (s : ByteArray) (c : UInt8) (w : World) : Calls Tryz.prog 213 #[.string s, .string ⟨#[c]⟩] w fun e w' => e = .returned (.bool (hasC s c)) ∧ w' = w := by
  go_enter Tryz.func213, Tryz.ntmps213
  go_wp2_with fail
  refine (hp_any s c _).mono ?_
  rintro e w1 ⟨rfl, rfl⟩
  go_wp2
  go_ret
  exact ⟨rfl, rfl⟩
/-- The reader's text, and where it is. -/
structure RdAt (b : Nat) (g : ByteArray) (p : Nat) (w : World) : Prop where
  c0 : w.cell? ⟨b, 0, none⟩ = some (.string g)
  c1 : w.cell? ⟨b, 1, none⟩ = some (.int .i64 (p : Int))
  f1 : w.frozen? ⟨b, 1, none⟩ = false
theorem RdAt.drew {b : Nat} {g : ByteArray} {p : Nat} {w : World} (h : RdAt b g p w) (n : Nat) : RdAt b g p (w.drewN n) := ⟨h.c0, h.c1, h.f1⟩
theorem RdAt.lt {b : Nat} {g : ByteArray} {p : Nat} {w : World} (h : RdAt b g p w) : b < w.heap.size := World.block_lt_of_cell? w _ h.c0
theorem RdAt.below {b : Nat} {g : ByteArray} {p : Nat} {w w' : World} (h : RdAt b g p w) (k : Below w.heap.size w w') : RdAt b g p w' :=
  ⟨(k.cell (p := ⟨b, 0, none⟩) h.lt).trans h.c0, (k.cell (p := ⟨b, 1, none⟩) h.lt).trans h.c1, (k.frozen (p := ⟨b, 1, none⟩) h.lt).trans h.f1⟩
theorem see_any (b : Nat) (g : ByteArray) (p : Nat) (c : UInt8) (w : World) (h : RdAt b g p w) (hp : p ≤ g.size) :
    Calls Tryz.prog 156 #[.pointer (some ⟨b, 0, none⟩), .string ⟨#[c]⟩] w fun e w' => e = .returned (.bool (hasC (g.extract p g.size) c)) ∧ ∃ m, w' = w.drewN m := by
  obtain ⟨c0, c1, f1⟩ := h
  have h1 : (p : Int) ≤ (g.size : Int) := by omega
  have h2 : (0 : Int) ≤ (p : Int) := by omega
  go_enter Tryz.func156, Tryz.ntmps156
  go_wp2
  go_quiet (first | (go_at_call 213; exact Calls.quiet_of_same (prefix_any _ c _)))
  go_wp2
  go_ret
  exact ⟨rfl, _, rfl⟩
set_option maxRecDepth 100000 in
theorem index_any (s : ByteArray) (c : UInt8) (w : World) : Calls Tryz.prog 263 #[.string s, .int .u8 (c.toNat : Int)] w fun e w' => e = .returned (.int .i64 (Lib.indexByte s.data.toList c)) ∧ w' = w := by
  have hc : ((c.toNat : Int)).toNat.toUInt8 = c := by
    rw [Int.toNat_natCast]
    exact UInt8.ofNat_toNat
  go_enter Tryz.func263, Tryz.ntmps263
  go_wp2
  rw [run_callFunc_extern Tryz.func309 (by kernel_rfl) (by kernel_rfl) (by kernel_rfl) (e := Extern.BytealgIndexByte.indexByte) (by kernel_rfl), Lib.run_indexByteString]
  simp only [Result.andThen]
  rw [Oper.upon_value, hc]
  go_wp2
  go_ret
  exact ⟨rfl, rfl⟩
theorem indexByte_any (s : ByteArray) (c : UInt8) (w : World) : Calls Tryz.prog 215 #[.string s, .int .u8 (c.toNat : Int)] w fun e w' => e = .returned (.int .i64 (Lib.indexByte s.data.toList c)) ∧ w' = w := by
  go_enter Tryz.func215, Tryz.ntmps215
  go_wp2_with fail
  refine (index_any s c _).mono ?_
  rintro e w1 ⟨rfl, rfl⟩
  go_wp2
  go_ret
  exact ⟨rfl, rfl⟩

/-! ### next -/
/-- Of all below B, b alone may have turned. -/
structure But (B b : Nat) (w w' : World) : Prop where
  os : w'.os = w.os
  tape : w'.tape = w.tape
  output : w'.output = w.output
  size : w.heap.size ≤ w'.heap.size
  block : ∀ k, k < B → k ≠ b → w'.heap[k]? = w.heap[k]?
theorem But.refl (B b : Nat) (w : World) : But B b w w := ⟨rfl, rfl, rfl, Nat.le_refl _, fun _ _ _ => rfl⟩
theorem But.trans {B b : Nat} {w w1 w2 : World} (h : But B b w w1) (k : But B b w1 w2) : But B b w w2 :=
  ⟨k.os.trans h.os, k.tape.trans h.tape, k.output.trans h.output, Nat.le_trans h.size k.size, fun i hi hne => (k.block i hi hne).trans (h.block i hi hne)⟩
theorem But.mono {B B' b : Nat} {w w' : World} (h : But B b w w') (hB : B' ≤ B) : But B' b w w' := ⟨h.os, h.tape, h.output, h.size, fun k hk hne => h.block k (Nat.lt_of_lt_of_le hk hB) hne⟩
theorem But.drew {B b : Nat} {w w' : World} (h : But B b w w') (n : Nat) : But B b w (w'.drewN n) := ⟨h.os, h.tape, h.output, h.size, h.block⟩
theorem But.setCell {B b : Nat} {w w' : World} (h : But B b w w') (o : Nat) (v : Value) : But B b w (w'.setCell ⟨b, o, none⟩ v) :=
  ⟨h.os, h.tape, h.output, by simpa using h.size, fun k hk hne => (heap_setCell_other w' ⟨b, o, none⟩ k v hne).trans (h.block k hk hne)⟩
theorem But.of {B b : Nat} {w w' : World} (h : Below B w w') : But B b w w' := ⟨h.os, h.tape, h.output, h.size, fun k hk _ => h.block k hk⟩
theorem RdAt.put {b : Nat} {g : ByteArray} {p : Nat} {w : World} (h : RdAt b g p w) (q : Nat) : RdAt b g q (w.setCell ⟨b, 1, none⟩ (.int .i64 (q : Int))) :=
  ⟨(World.cell?_setCell_other _ _ _ _ (by simp)).trans h.c0, World.cell?_setCell_same _ _ _ h.c1, by rw [World.frozen?_setCell]; exact h.f1⟩
abbrev three : ByteArray := ⟨#[36, 125, 92]⟩
theorem hasC_at (g : ByteArray) (p : Nat) (c : UInt8) (h : p < g.size) : hasC (g.extract p g.size) c = (g[p] == c) := by
  unfold hasC
  have : (g.extract p g.size).data[0]? = some g[p] := by
    rw [ByteArray.data_extract, Array.getElem?_extract]
    have h0 : 0 < min g.size g.data.size - p := by
      have e : g.data.size = g.size := rfl
      rw [e]; omega
    rw [if_pos h0]
    show g.data[p + 0]? = _
    exact Array.getElem?_eq_getElem h
  rw [this]
  rfl
set_option maxHeartbeats 2000000 in
theorem next_not (b : Nat) (g : ByteArray) (p : Nat) (w : World) (h : RdAt b g p w) (hp : p < g.size) (hs : g.size ≤ 1000000) (hc : g[p] ≠ 92) :
    Calls Tryz.prog 159 #[.pointer (some ⟨b, 0, none⟩), .string three] w fun e w' => e = .returned (.int .u8 ((g[p]).toNat : Int)) ∧ RdAt b g (p + 1) w' ∧ But w.heap.size b w w' := by
  have h92 : hasC (g.extract p g.size) 92 = false := by rw [hasC_at g p 92 hp]; simpa using hc
  have H := Lib.hid h
  have hs1 := see_any b g p 92
  rw [h92] at hs1
  have S := Lib.hid hs1
  clear h92 hs1
  obtain ⟨c0, c1, f1⟩ := h
  have h1 : (p : Int) ≤ (g.size : Int) := by omega
  have h2 : (0 : Int) ≤ (p : Int) := by omega
  go_enter Tryz.func159, Tryz.ntmps159
  go_wp2
  go_quiet (first | (go_at_call 156; refine Calls.quiet_of (S.out _ ?_ ?_); exact H.out.drew _; omega))
  go_wp2
  go_quiet (fail)
  go_wp2
  go_ret
  exact ⟨rfl, ((H.out.drew _).put (p + 1)).drew _, (((But.refl _ _ _).drew _).setCell 1 _).drew _⟩
theorem idx_three (d : UInt8) (h : d = 36 ∨ d = 125 ∨ d = 92) : (0 : Int) ≤ Lib.indexByte three.data.toList d := by
  rcases h with rfl | rfl | rfl <;> decide
set_option maxHeartbeats 2000000 in
theorem next_esc (b : Nat) (g : ByteArray) (p q : Nat) (w : World) (h : RdAt b g p w) (hq : q = p + 1) (hp : q < g.size) (hs : g.size ≤ 1000000) (hc : g[p]'(by omega) = 92) (hd : g[q] = 36 ∨ g[q] = 125 ∨ g[q] = 92) :
    Calls Tryz.prog 159 #[.pointer (some ⟨b, 0, none⟩), .string three] w fun e w' => e = .returned (.int .u8 ((g[q]).toNat : Int)) ∧ RdAt b g (q + 1) w' ∧ But w.heap.size b w w' := by
  have h92 : hasC (g.extract p g.size) 92 = true := by rw [hasC_at g p 92 (by omega)]; simpa using hc
  have H := Lib.hid h
  have hs1 := see_any b g p 92
  rw [h92] at hs1
  have S := Lib.hid hs1
  have i0 := idx_three _ hd
  have I := Lib.hid (indexByte_any three g[q])
  clear h92 hs1 hc hd
  generalize Lib.indexByte three.data.toList g[q] = ix at *
  obtain ⟨c0, c1, f1⟩ := h
  have h1 : (p : Int) ≤ (g.size : Int) := by omega
  have h2 : (0 : Int) ≤ (p : Int) := by omega
  have hw : IntKind.i64.wrap ((p : Int) + 1) = (q : Int) := by rw [IntKind.wrap_i64]; omega
  have h3 : decide ((q : Int) < (g.size : Int)) = true := by simp; omega
  have h4 : decide ((0 : Int) ≤ ix) = true := by simpa using i0
  have hwq : IntKind.i64.wrap ((q : Int) + 1) = (q : Int) + 1 := by rw [IntKind.wrap_i64]; omega
  have hle : p ≤ g.size := by omega
  have HLE := Lib.hid hle
  clear hq hle
  go_enter Tryz.func159, Tryz.ntmps159
  go_wp2
  go_quiet (first | (go_at_call 156; refine Calls.quiet_of (S.out _ ?_ ?_); exact H.out.drew _; exact HLE.out) | (go_at_call 215; exact Calls.quiet_of_same (I.out _)))
  go_wp2
  go_quiet (fail)
  go_wp2
  go_ret
  exact ⟨rfl, (((H.out.drew _).put q).put (q + 1)).drew _, ((((But.refl _ _ _).drew _).setCell 1 _).setCell 1 _).drew _⟩
theorem zero264 : (Tryz.prog.info? 264).map (fun i => (i.zero, i.size, i.bytes)) = some (some (.agg #[.int .i64 0, .string ⟨#[]⟩, .int .i64 0, .bool false, .bool false, .int .i64 0, .string ⟨#[]⟩, .bool false, .slice none 0 0, .int .i64 0, .int .i64 0, .bool false, .slice none 0 0, .slice none 0 0, .bool false, .bool false, .slice none 0 0, .slice none 0 0]), 18, 224) := by kernel_rfl
abbrev none264 : Value := .agg #[.int .i64 0, .string ⟨#[]⟩, .int .i64 0, .bool false, .bool false, .int .i64 0, .string ⟨#[]⟩, .bool false, .slice none 0 0, .int .i64 0, .int .i64 0, .bool false, .slice none 0 0, .slice none 0 0, .bool false, .bool false, .slice none 0 0, .slice none 0 0]
abbrev zeros264 : Array Value := #[.int .i64 0, .string ⟨#[]⟩, .int .i64 0, .bool false, .bool false, .int .i64 0, .string ⟨#[]⟩, .bool false, .slice none 0 0, .int .i64 0, .int .i64 0, .bool false, .slice none 0 0, .slice none 0 0, .bool false, .bool false, .slice none 0 0, .slice none 0 0]
theorem below_drewN {B : Nat} {a w : World} (h : Below B a w) (n : Nat) : Below B a (w.drewN n) := ⟨h.os, h.tape, h.output, h.size, h.block⟩
/-- A new block, all of nothing. -/
def ZBlk (w wr : World) : Prop := Below w.heap.size w wr ∧ wr.heap[w.heap.size]? = some (.cells zeros264 264 (0, 0))
theorem ZBlk.put {w wr : World} (h : ZBlk w wr) (i : Nat) (v : Value) (hv : zeros264[i]? = some v) : ZBlk w (wr.setCell ⟨w.heap.size, i, none⟩ v) := by
  refine ⟨h.1.setCell (p := ⟨w.heap.size, i, none⟩) (Nat.le_refl _) v, ?_⟩
  have e : zeros264.setIfInBounds i v = zeros264 := by
    apply Array.ext_getElem?
    intro j
    rw [Array.getElem?_setIfInBounds]
    split
    · rename_i hij
      subst hij
      split
      · exact hv.symm
      · rename_i hn
        rw [Array.getElem?_eq_none (by omega)] at hv
        cases hv
    · rfl
  rw [← e]
  simp only [World.setCell, Array.getElem?_modify, h.2, Option.map_some, if_true, Option.isSome_none, Bool.false_eq_true, if_false]
theorem ZBlk.cells {w wr : World} (h : ZBlk w wr) (i : Nat) : wr.cell? ⟨w.heap.size, i, none⟩ = zeros264[i]? := by
  simp only [World.cell?, h.2, Option.isSome_none, Bool.false_eq_true, if_false]
theorem part_fin {w wf : World} (hZ : ZBlk w wf) (A : Act) (h2 : A.tmps.getD 2 undef = .pointer (some ⟨w.heap.size, 0, none⟩)) (h3 : A.tmps.getD 3 undef = .bool false) (hd : A.defers = []) :
    bodyPost Tryz.prog Tryz.f157 (fun e w' => e = .returned (.tuple #[none264, .bool false]) ∧ Below w.heap.size w w') .ret A wf := by
  refine bodyPost_ret (v := .tuple #[none264, .bool false]) ?_ hd ⟨rfl, hZ.1⟩
  have hc := hZ.cells
  rw [Array.getD_eq_getD_getElem?] at h2 h3
  simp [results, Tryz.results157, go_sem, h2, h3, hc]
end Go.Proofs.YtkeckbmhaplkpaaGreatDoor.Pa
