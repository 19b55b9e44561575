/- What the law's parts hands back: the text's lines. -/
import Derived.Test.YtfcnkmpndjmpnaaAwake
import Derived.Test.YtfcnkmpndjmpnaaLines
namespace Go.Proofs.Ytfcnkmpndjmpnaa
open Go.RowKit
open M

theorem Try.info9 : (Try.prog.info? 9).map (fun i => (i.zero, i.size, i.bytes)) = some (some (.string ⟨#[]⟩), 1, 16) := by kernel_rfl
abbrev Ls (L : List ByteArray) : List (List UInt8) := L.map (fun l => l.data.toList)
/-- A text's lines. -/
structure Pieces (s : ByteArray) (L : List ByteArray) : Prop where
  dry : ∀ l ∈ L, ∀ x ∈ l.data.toList, x ≠ 10
  whole : s.data.toList ++ [10] = flat (Ls L)
  few : L.length ≤ s.size + 1
/-- k bytes seen, a line begun at f. -/
structure Pt (s : ByteArray) (k f : Nat) (L : List ByteArray) : Prop where
  le : f ≤ k
  dry : ∀ l ∈ L, ∀ x ∈ l.data.toList, x ≠ 10
  now : ∀ i (h : i < s.size), f ≤ i → i < k → s[i] ≠ 10
  whole : (s.data.toList ++ [10]).take f = flat (Ls L)
  few : L.length ≤ f
theorem Pt.start (s : ByteArray) : Pt s 0 0 [] := ⟨Nat.le_refl _, by simp, fun _ _ _ h => absurd h (by omega), rfl, Nat.le_refl _⟩
theorem Pt.next {s : ByteArray} {k f : Nat} {L : List ByteArray} (h : Pt s k f L) (hk : k < s.size) (h10 : s[k] ≠ 10) : Pt s (k + 1) f L :=
  ⟨by have := h.le; omega, h.dry, fun i hi h1 h2 => by
    by_cases he : i = k
    · subst he; exact h10
    · exact h.now i hi h1 (by omega), h.whole, h.few⟩
theorem Pt.cut {s : ByteArray} {k f : Nat} {L : List ByteArray} (h : Pt s k f L) (hk : k ≤ s.size) (h10 : ∀ h : k < s.size, s[k] = 10) : Pt s (k + 1) (k + 1) (L ++ [s.extract f k]) where
  le := Nat.le_refl _
  dry := by
    intro l hl x hx
    simp only [List.mem_append, List.mem_singleton] at hl
    rcases hl with hl | rfl
    · exact h.dry l hl x hx
    · rw [ByteArray.data_extract, Array.toList_extract, List.extract_eq_take_drop] at hx
      obtain ⟨i, hi, rfl⟩ := List.mem_iff_getElem.1 hx
      rw [List.getElem_take, List.getElem_drop]
      simp at hi
      exact h.now (f + i) (by omega) (by omega) (by omega)
  now := fun i hi h1 h2 => absurd h1 (by omega)
  whole := by
    have hle := h.le
    have hS : (s.data.toList ++ [10])[k]'(by simp; omega) = 10 := by
      by_cases hlt : k < s.size
      · rw [List.getElem_append_left (by simpa using hlt)]; exact h10 hlt
      · rw [List.getElem_append_right (by simp; omega)]; simp
    rw [List.take_succ_eq_append_getElem (by simp; omega), hS]
    have e : (s.data.toList ++ [10]).take k = flat (Ls L) ++ (s.extract f k).data.toList := by
      rw [← h.whole, ByteArray.data_extract, Array.toList_extract, List.extract_eq_take_drop]
      have : (s.data.toList ++ [10]).take k = s.data.toList.take k := List.take_append_of_le_length (by simp; omega)
      rw [this, List.take_append_of_le_length (by simp; omega)]
      rw [← List.drop_take]
      conv => lhs; rw [← List.take_append_drop f (s.data.toList.take k)]
      rw [List.take_take, Nat.min_eq_left hle]
    rw [e]
    simp [Ls, flat_app, flat]
  few := by have := h.few; have := h.le; simp; omega
theorem Pt.done {s : ByteArray} {f : Nat} {L : List ByteArray} (h : Pt s (s.size + 1) f L) (hf : f = s.size + 1) : Pieces s L :=
  ⟨h.dry, by rw [← h.whole, hf, List.take_of_length_le (by simp)], by have := h.few; omega⟩
theorem Pieces.pos {s : ByteArray} {L : List ByteArray} (h : Pieces s L) : 0 < L.length := by
  rcases L with _ | ⟨l, r⟩
  · have := h.whole; simp [flat] at this
  · simp
/-- The texts lie in a block of their own. -/
def SRow (w : World) (g : Nat) (L : List ByteArray) : Prop := ∀ i (h : i < L.length), w.cell? ⟨g, i, none⟩ = some (.string L[i])
abbrev SV (L : List ByteArray) : List Value := L.map Value.string
def Rp (W : World) (s : ByteArray) (k f : Nat) (L : List ByteArray) (v : Value) (wr : World) : Prop :=
  Pt s k f L ∧ (k = s.size + 1 → f = s.size + 1) ∧ wr.ownsRow W.heap.size 9 1 v L.length (SV L) ∧ Below W.heap.size W wr

theorem own_row {w : World} {base : Nat} {v : Value} {L : List ByteArray} (h : w.ownsRow base 9 1 v L.length (SV L)) (hp : 0 < L.length) : ∃ g cap, v = .slice (some ⟨g, 0, none⟩) L.length cap ∧ SRow w g L ∧ g < w.heap.size := by
  have hlt := h.lt
  have hc := @World.ownsRow.cells _ _ _ _ _ _ _ h
  rcases h.2 with ⟨_, h0⟩ | ⟨g, cap, cur, rfl, _⟩
  · omega
  · refine ⟨g, cap, rfl, fun i hi => ?_, (hlt g rfl).2⟩
    have := hc (g := g) rfl i (.string L[i]) (by simp [SV, hi])
    rwa [Addr.add_lit, Nat.zero_add] at this

set_option maxHeartbeats 2000000 in
theorem parts_any (s : ByteArray) (w : World) (hs : s.size ≤ 1048576) :
    Calls Try.prog 14 #[.string s] w fun e w' => ∃ (L : List ByteArray) (g cap : Nat), e = .returned (.slice (some ⟨g, 0, none⟩) L.length cap) ∧ SRow w' g L ∧ g < w'.heap.size ∧ Pieces s L ∧ Below w.heap.size w w' := by
  obtain ⟨i0, hi, hz0, hz1, hz2⟩ := info_parts Try.info9
  have hst : Rp w s 0 0 [] (.slice none 0 0) w := ⟨Pt.start s, fun h => by omega, World.ownsRow_nil _ _ _ _, Below.refl _ _⟩
  have HS := Lib.hid hst
  clear hst
  go_enter Try.func14, Try.ntmps14
  go_wp2
  go_loopw [3, 4, 5] (fun v f i wr => ∃ (k ff : Nat) (L : List ByteArray), k ≤ s.size + 1 ∧ i = .int .i64 k ∧ f = .int .i64 ff ∧ Rp w s k ff L v wr) (fun _ _ i _ => s.size + 1 - (intOf i).toNat)
  case atStart => exact ⟨0, 0, [], Nat.zero_le _, rfl, rfl, HS.out⟩
  case round =>
    obtain ⟨k, ff, L, hk, rfl, rfl, hP, hE, ho, hb⟩ := hrel
    have hle := hP.le
    have hfew := hP.few
    by_cases hlt : k ≤ s.size
    · have hsz := hb.size
      by_cases hend : k = s.size
      · have hC := hP.cut hlt (fun h => absurd h (by omega))
        clear hP hE
        subst hend
        go_wp2_with (at_builtin; refine wpList_append_own _ rfl _ _ 30 rfl w.heap.size 9 i0 (.string ⟨#[]⟩) 1 16 Try.underlying30 hi hz0 hz1 hz2 rfl (by decide) _ _ _ rfl (ho.alloc _) ⟨wr.heap.size, 0, none⟩ 1 1 [.string (s.extract ff s.size)] rfl rfl ?c1 ?c2 ?c3 ?c4 ?c5 ?_)
        case c1 =>
          intro j u hj
          match j, hj with
          | 0, hj => simp at hj; subst hj; simp [Addr.add]
        case c2 => intro u hu; simp at hu; subst hu; rfl
        case c3 => unfold maxLen; omega
        case c4 => omega
        case c5 => simp; omega
        intro v' w2 hown' hgrow _
        have hb2 : Below w.heap.size w w2 := (hb.alloc hsz _).grown hgrow (by simp; omega) (fun q hq => (ho.lt q hq).1)
        have hR : Rp w s (s.size + 1) (s.size + 1) (L ++ [s.extract ff s.size]) v' w2 := ⟨hC, fun _ => rfl, by simpa [SV] using hown', hb2⟩
        clear hown' hgrow hC ho hb hb2
        go_wp2
        go_roundw
        case rel => exact ⟨s.size + 1, s.size + 1, _, Nat.le_refl _, by go_num, by go_num, hR⟩
        case measure => simp [intOf]
      · have hk2 : k < s.size := by omega
        have hcb := (s[k]).toNat_lt
        have hc10 : s[k] = 10 ↔ (s[k]).toNat = 10 := ⟨fun h => by rw [h]; rfl, fun h => UInt8.toNat_inj.1 h⟩
        have te : ((k : Int) == s.size) = false := by simp only [beq_eq_false_iff_ne]; omega
        by_cases h10 : s[k] = 10
        · have t10 : (((s[k]).toNat : Int) == 10) = true := by rw [hc10.1 h10]; rfl
          have hC := hP.cut hlt (fun _ => h10)
          clear hP hE hc10
          go_wp2_with (at_builtin; refine wpList_append_own _ rfl _ _ 30 rfl w.heap.size 9 i0 (.string ⟨#[]⟩) 1 16 Try.underlying30 hi hz0 hz1 hz2 rfl (by decide) _ _ _ rfl (ho.alloc _) ⟨wr.heap.size, 0, none⟩ 1 1 [.string (s.extract ff k)] rfl rfl ?c1 ?c2 ?c3 ?c4 ?c5 ?_)
          case c1 =>
            intro j u hj
            match j, hj with
            | 0, hj => simp at hj; subst hj; simp [Addr.add]
          case c2 => intro u hu; simp at hu; subst hu; rfl
          case c3 => unfold maxLen; omega
          case c4 => omega
          case c5 => simp; omega
          intro v' w2 hown' hgrow _
          have hb2 : Below w.heap.size w w2 := (hb.alloc hsz _).grown hgrow (by simp; omega) (fun q hq => (ho.lt q hq).1)
          have hR : Rp w s (k + 1) (k + 1) (L ++ [s.extract ff k]) v' w2 := ⟨hC, fun h => h, by simpa [SV] using hown', hb2⟩
          clear hown' hgrow hC ho hb hb2
          go_wp2
          go_roundw
          case rel => exact ⟨k + 1, k + 1, _, by omega, by go_num, by go_num, hR⟩
          case measure => simp [intOf]; omega
        · have t10 : (((s[k]).toNat : Int) == 10) = false := by
            simp only [beq_eq_false_iff_ne]; intro h; exact h10 (hc10.2 (by omega))
          have hR : Rp w s (k + 1) ff L _ wr := ⟨hP.next hk2 h10, fun h => by omega, ho, hb⟩
          clear hP hE hc10 ho hb
          go_wp2
          go_roundw
          case rel => exact ⟨k + 1, ff, L, by omega, by go_num, rfl, hR⟩
          case measure => simp [intOf]; omega
    · obtain rfl : k = s.size + 1 := by omega
      have hD := hP.done (hE rfl)
      obtain ⟨g, cap, rfl, hR, hg⟩ := own_row ho hD.pos
      clear hP ho hE
      go_wp2
      go_ret
      exact ⟨L, g, cap, rfl, hR, hg, hD, hb⟩
end Go.Proofs.Ytfcnkmpndjmpnaa
