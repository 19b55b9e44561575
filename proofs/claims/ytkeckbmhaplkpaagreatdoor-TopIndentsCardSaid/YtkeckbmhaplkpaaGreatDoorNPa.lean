/- The snippet's reader over a guarded text: its loop. -/
import Derived.Test.YtkeckbmhaplkpaaGreatDoorNPb
import Derived.Test.YtkeckbmhaplkpaaGreatDoorNGu
import Derived.Deep.RegionWith
import Derived.Deep.RegionHeld3
namespace Go.Proofs.YtkeckbmhaplkpaaGreatDoor.Pa
open Go Go.RowKit

set_option maxHeartbeats 2000000 in
theorem part_not (b : Nat) (g : ByteArray) (p : Nat) (w : World) (h : RdAt b g p w) (hp : p < g.size) (hc : g[p] ≠ 36) :
    Calls Tryz.prog 157 #[.pointer (some ⟨b, 0, none⟩)] w fun e w' => e = .returned (.tuple #[none264, .bool false]) ∧ Below w.heap.size w w' := by
  have h36 : hasC (g.extract p g.size) 36 = false := by rw [hasC_at g p 36 hp]; simpa using hc
  have H := Lib.hid h
  have hs1 := see_any b g p 36
  rw [h36] at hs1
  have S := Lib.hid hs1
  have hle : p ≤ g.size := by omega
  have HLE := Lib.hid hle
  clear h36 hs1 hc hle h hp
  go_enter Tryz.func157, Tryz.ntmps157
  go_wp2_with fail
  refine (S.out _ ?_ HLE.out).mono ?_
  · exact H.out.below ((Below.refl _ _).alloc (Nat.le_refl _) _)
  rintro e w1 ⟨rfl, m, rfl⟩
  go_wp2
  refine part_fin ?_ _ rfl rfl rfl
  repeat (refine ZBlk.put ?_ _ _ rfl)
  exact ⟨below_drewN ((Below.refl _ _).alloc (Nat.le_refl _) _) _, heap_alloc_new _ _⟩
end Go.Proofs.YtkeckbmhaplkpaaGreatDoor.Pa
/- The snippet's reader over a guarded text: its loop reads the text itself. -/
namespace Go.Proofs.YtkeckbmhaplkpaaGreatDoor.Pa
open Go Go.RowKit
open Gd.M

theorem But.alloc {B b : Nat} {w w' : World} (h : But B b w w') (hB : B ≤ w'.heap.size) (o : Obj) : But B b w (w'.alloc o) :=
  h.trans (But.of ((Below.refl B w').alloc hB o))
theorem But.grown {B b : Nat} {w w1 w2 : World} {row : Option Nat} (h : But B b w w1) (hg : w1.grownBy w2 row) (hB : B ≤ w1.heap.size) (hr : ∀ k, row = some k → B ≤ k) : But B b w w2 :=
  h.trans (But.of ((Below.refl B w1).grown hg hB hr))
theorem own_keep {w w' : World} {B e size n : Nat} {v : Value} {xs : List Value} (h : w.ownsRow B e size v n xs) (hk : ∀ k, B ≤ k → k < w.heap.size → w'.heap[k]? = w.heap[k]?) : w'.ownsRow B e size v n xs := by
  refine ⟨h.1, ?_⟩
  rcases h.2 with h2 | ⟨g, cap, cur, h1, h2, h3, h4⟩
  · exact .inl h2
  · refine .inr ⟨g, cap, cur, h1, h2, ?_, h4⟩
    rw [hk g h2 ?_]
    · exact h3
    · rcases Nat.lt_or_ge g w.heap.size with h5 | h5
      · exact h5
      · rw [Array.getElem?_eq_none h5] at h3; cases h3
theorem own_but {w w' : World} {B b e size n : Nat} {v : Value} {xs : List Value} (h : w.ownsRow B e size v n xs) (hb : b < B) (k : But w.heap.size b w w') : w'.ownsRow B e size v n xs :=
  own_keep h fun i h1 h2 => k.block i h2 (by omega)
theorem calls_switch {P : Program} {f : FuncId} {args : Array Value} {R : Ending → World → Prop} {w1 w2 : World} (hb : Below w1.heap.size w1 w2) (h : ∀ w2', Below w1.heap.size w1 w2' → Calls P f args w2' R) : Calls P f args w2 R := h _ hb
def lenOf : Value → Nat | .slice _ n _ => n | _ => 0
theorem own_len {w : World} {B e size n : Nat} {v : Value} {xs : List Value} (h : w.ownsRow B e size v n xs) : lenOf v = n := by
  rcases h.2 with ⟨rfl, rfl⟩ | ⟨g, cap, cur, rfl, _⟩ <;> rfl
/-- A guarded text as bytes. -/
def gs (s : List UInt8) : ByteArray := ⟨(gd s).toArray⟩
theorem gs_size (s : List UInt8) : (gs s).size = (gd s).length := by
  show (gd s).toArray.size = _
  simp
theorem gs_at (s : List UInt8) (p : Nat) (h : p < (gs s).size) : some (gs s)[p] = (gd s)[p]? := by
  have : (gs s).data[p]? = some (gs s)[p] := Array.getElem?_eq_getElem h
  rw [← this]
  show (gd s).toArray[p]? = _
  simp
/-- The loop's relation. -/
def Rp (b : Nat) (s : List UInt8) (w : World) (k : Nat) (v : Value) (wr : World) : Prop :=
  wr.ownsRow w.heap.size 5 1 v (s.take k).length (Lib.byteCells (s.take k)) ∧ RdAt b (gs s) (pos s k) wr ∧ But w.heap.size b w wr
/-- What next tells of the k-th byte. -/
theorem next_at (b : Nat) (s : List UInt8) (k : Nat) (w : World) (hk : k < s.length) (hs : s.length ≤ 1000) (h : RdAt b (gs s) (pos s k) w) :
    Calls Tryz.prog 159 #[.pointer (some ⟨b, 0, none⟩), .string three] w fun e w' => e = .returned (.int .u8 ((s[k]).toNat : Int)) ∧ RdAt b (gs s) (pos s (k + 1)) w' ∧ But w.heap.size b w w' := by
  have hl := gd_len s
  have hlt := pos_lt s k hk
  have h1 := gs_at s (pos s k) (by rw [gs_size]; exact hlt)
  rw [get_first s k hk] at h1
  rw [pos_next s k hk]
  cases he : esc s[k]
  · rw [one_not _ he] at h1 ⊢
    have e1 : (gs s)[pos s k]'(by rw [gs_size]; exact hlt) = s[k] := by simpa using h1
    have := next_not b (gs s) (pos s k) w h (by rw [gs_size]; exact hlt) (by rw [gs_size]; omega) (by rw [e1]; exact (esc_false he).2.2)
    rw [e1] at this
    exact this
  · rw [one_esc _ he] at h1 ⊢
    have e1 : (gs s)[pos s k]'(by rw [gs_size]; exact hlt) = 92 := by simpa using h1
    have h2 := get_second s k hk he
    have hlt2 : pos s k + 1 < (gd s).length := (List.getElem?_eq_some_iff.1 h2).1
    have h3 := gs_at s (pos s k + 1) (by rw [gs_size]; exact hlt2)
    rw [h2] at h3
    have e2 : (gs s)[pos s k + 1]'(by rw [gs_size]; exact hlt2) = s[k] := by simpa using h3
    have := next_esc b (gs s) (pos s k) (pos s k + 1) w h rfl (by rw [gs_size]; exact hlt2) (by rw [gs_size]; omega) e1 (by rw [e2]; exact esc_true he)
    rw [e2] at this
    exact this
/-- No part begins at the k-th byte. -/
theorem part_at (b : Nat) (s : List UInt8) (k : Nat) (w : World) (hk : k < s.length) (h : RdAt b (gs s) (pos s k) w) :
    Calls Tryz.prog 157 #[.pointer (some ⟨b, 0, none⟩)] w fun e w' => e = .returned (.tuple #[none264, .bool false]) ∧ Below w.heap.size w w' := by
  have hlt := pos_lt s k hk
  have h1 := gs_at s (pos s k) (by rw [gs_size]; exact hlt)
  rw [get_first s k hk] at h1
  refine part_not b (gs s) (pos s k) w h (by rw [gs_size]; exact hlt) ?_
  cases he : esc s[k]
  · rw [one_not _ he] at h1
    have e1 : (gs s)[pos s k]'(by rw [gs_size]; exact hlt) = s[k] := by simpa using h1
    rw [e1]
    exact (esc_false he).1
  · rw [one_esc _ he] at h1
    have e1 : (gs s)[pos s k]'(by rw [gs_size]; exact hlt) = 92 := by simpa using h1
    rw [e1]
    decide
theorem RdAt.keep {B b : Nat} {g : ByteArray} {p : Nat} {w w' : World} (h : RdAt b g p w) (hb : b < B) (k : Below B w w') : RdAt b g p w' :=
  ⟨(k.cell (p := ⟨b, 0, none⟩) hb).trans h.c0, (k.cell (p := ⟨b, 1, none⟩) hb).trans h.c1, (k.frozen (p := ⟨b, 1, none⟩) hb).trans h.f1⟩
theorem take_one' (s : List UInt8) (k : Nat) (h : k < s.length) : s.take (k + 1) = s.take k ++ [s[k]] := List.take_succ_eq_append_getElem h
end Go.Proofs.YtkeckbmhaplkpaaGreatDoor.Pa
/- The snippet's reader over a guarded text: all of it. -/
namespace Go.Proofs.YtkeckbmhaplkpaaGreatDoor.Pa
open Go Go.RowKit
open Gd.M Gd

/-- What comes behind the loop. -/
noncomputable def tlC (c : Code) : Code := match c with | .seq _ b => b | c => c
noncomputable def c96 : Code := match Tryz.f96.body with | none => .skip | some b => tlC (tlC (tlC (tlC b)))
set_option maxHeartbeats 4000000 in
theorem parts_walk (b : Nat) (s : List UInt8) (w : World) (hs : s.length ≤ 1000) (h : RdAt b (gs s) 0 w) (R : Ending → World → Prop)
    (hR : ∀ v w1 c, c = c96 → w1.ownsRow w.heap.size 5 1 v s.length (Lib.byteCells s) → But w.heap.size b w w1 → ∀ A Q, A.tmps.getD 0 undef = .pointer (some ⟨b, 0, none⟩) → A.tmps.getD 1 undef = .bool false → A.tmps.getD 6 undef = .slice none 0 0 → A.tmps.getD 7 undef = v → A.defers = [] → 70 ≤ A.tmps.size →
      (∀ A' w', A'.tmps.getD 5 undef = .bool true → A'.defers = [] → R (.returned (.tuple #[A'.tmps.getD 4 undef, .bool true])) w' → Q .ret A' w') → c.wp Tryz.prog Q A w1) :
    Calls Tryz.prog 96 #[.pointer (some ⟨b, 0, none⟩), .bool false] w R := by
  obtain ⟨i0, hi, hz0, hz1, hz2⟩ := info_parts info5
  have hlt := h.lt
  have HST := Lib.hid (show Rp b s w 0 (.slice none 0 0) w from ⟨World.ownsRow_nil _ _ _ _, by rw [pos_zero]; exact h, But.refl _ _ _⟩)
  have HR := Lib.hid hR
  clear hR h
  go_enter Tryz.func96, Tryz.ntmps96
  refine wp_seq_k fun K hK => ?_
  have HK := Lib.hid hK
  clear hK
  go_wp2
  refine HK.out _ _ ?_
  clear HK
  refine wp_seq_k fun K hK => ?_
  have HK := Lib.hid hK
  clear hK
  go_wp2
  refine HK.out _ _ ?_
  clear HK
  refine wp_seq_k fun K hK => ?_
  have HK := Lib.hid hK
  clear hK
  go_wp2
  refine HK.out _ _ ?_
  clear HK
  refine wp_seq_k fun K hK => ?_
  have HK := Lib.hid hK
  clear hK
  go_wp2
  go_loopw [6, 7] (fun o v wr => ∃ k : Nat, k ≤ s.length ∧ o = .slice none 0 0 ∧ Rp b s w k v wr) (fun _ v _ => s.length - lenOf v)
  case atStart => exact ⟨0, Nat.zero_le _, rfl, HST.out⟩
  case round =>
    obtain ⟨k, hk, rfl, ho, hr, hb⟩ := hrel
    have hll : (s.take k).length = k := by rw [List.length_take]; omega
    have hlen := own_len ho
    by_cases hlt2 : k < s.length
    · have hp1 := pos_lt s k hlt2
      rw [← gs_size] at hp1
      obtain ⟨c0, c1, f1⟩ := id hr
      have q1 : decide ((pos s k : Int) < ((gs s).size : Int)) = true := by simp; omega
      have HR2 := Lib.hid hr
      clear hr
      go_wp2
      go_quiet (fail)
      go_wp2_with fail
      refine (part_at b s k _ hlt2 (HR2.out.drew _)).mono ?_
      rintro e w1 ⟨rfl, hb1⟩
      have hb1' : Below wr.heap.size wr w1 := ⟨hb1.os, hb1.tape, hb1.output, hb1.size, hb1.block⟩
      clear hb1
      go_wp2_with fail
      refine calls_switch (w1 := w1) ?_ fun w2 hb2 => ?_
      · repeat (refine Below.setCell ?_ (Nat.le_refl _) _)
        exact (Below.refl _ _).alloc (Nat.le_refl _) _
      have hb12 : Below wr.heap.size wr w2 := hb1'.trans (hb2.mono hb1'.size)
      have hr2 := HR2.out.below hb12
      have ho2 := own_keep ho fun i _ h2 => hb12.block i h2
      have hB2 : But w.heap.size b w w2 := hb.trans (But.of (hb12.mono hb.size))
      clear hb1' hb2 hb12 ho hb HR2 c0 c1 f1
      refine (next_at b s k _ hlt2 hs hr2).mono ?_
      rintro e w3 ⟨rfl, hr3, hb3⟩
      have ho3 := own_but ho2 hlt hb3
      have hB3 : But w.heap.size b w w3 := hB2.trans (hb3.mono hB2.size)
      have hsz := hB3.size
      have hn : (s.take k).length ≤ 1000 := by omega
      clear ho2 hb3 hB2 hr2
      go_wp2_with (at_builtin; refine wpList_append_own _ rfl _ _ 76 rfl w.heap.size 5 i0 (.int .u8 0) 1 1 Tryz.underlying76 hi hz0 hz1 hz2 rfl (by decide) _ _ _ rfl (ho3.alloc _) ⟨w3.heap.size, 0, none⟩ 1 1 [.int .u8 ((s[k]).toNat : Int)] rfl rfl ?c1 ?c2 ?c3 ?c4 ?c5 ?_)
      case c1 =>
        intro j u hj
        match j, hj with
        | 0, hj => simp at hj; subst hj; simp [Addr.add]
      case c2 => intro u hu; simp at hu; subst hu; rfl
      case c3 => unfold maxLen; omega
      case c4 => omega
      case c5 => simp; omega
      intro v2 w4 hown' hgrow _
      have hK : Below w.heap.size w3 w4 := ((Below.refl _ w3).alloc hsz _).grown hgrow (by simp; omega) (fun q hq => (ho3.lt q hq).1)
      have ho4 : w4.ownsRow w.heap.size 5 1 v2 (s.take (k + 1)).length (Lib.byteCells (s.take (k + 1))) := by
        rw [take_one' s k hlt2]
        exact own_one (by rw [hll]; exact hown')
      have N := Lib.hid (show Rp b s w (k + 1) v2 w4 from ⟨ho4, hr3.keep hlt hK, hB3.trans (But.of hK)⟩)
      have hlen4 := own_len ho4
      have hl4 : (s.take (k + 1)).length = k + 1 := by rw [List.length_take]; omega
      clear hown' hgrow ho3 hB3 hr3 hK ho4
      go_wp2
      go_roundw
      case rel => exact ⟨k + 1, by omega, rfl, N.out⟩
      case measure => omega
    · obtain rfl : k = s.length := by omega
      rw [List.take_length] at ho
      have hpe : pos s s.length = (gs s).size := by rw [pos_end, gs_size]
      rw [hpe] at hr
      obtain ⟨c0, c1, f1⟩ := id hr
      clear hr hlen
      go_wp2
      go_quiet (fail)
      go_wp2
      clear c0 c1 f1 HST
      refine HK.out _ _ ?_
      refine HR.out u7 _ _ ?a1 ?a2 ?a3 _ _ ?a4 ?a5 ?a6 ?a7 ?a8 ?a9 ?a10
      case a1 => kernel_rfl
      case a2 => exact own_keep ho fun _ _ _ => rfl
      case a3 => exact hb.trans ⟨rfl, rfl, rfl, Nat.le_refl _, fun _ _ _ => rfl⟩
      case a4 => rfl
      case a5 => rfl
      case a6 => rfl
      case a7 => rfl
      case a8 => rfl
      case a9 => simp
      case a10 =>
        intro A' w' h5 hd hr
        refine bodyPost_ret (results_tmp2 (show Tryz.f96.results = #[.tmp 4, .tmp 5] by kernel_rfl) _ _ _) hd ?_
        rw [h5]
        exact hr
end Go.Proofs.YtkeckbmhaplkpaaGreatDoor.Pa
