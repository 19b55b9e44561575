/- What editor.turn hands back: as many bytes as both begin with, as many as both end with. -/
import Derived.Test.YtkeckbmhaplkpaaGreatDoorChecked
import Derived.WalkKit
import Derived.WalkSpells
import Derived.Lib.Hide
import Derived.Lib.QuietBelow
import Derived.BigQuiet
namespace Go.Proofs.YtkeckbmhaplkpaaGreatDoor.Tu
open Go Go.RowKit Go.Sort

/-- Both begin with the same k bytes. -/
def Pre (s t : ByteArray) (k : Nat) : Prop := k ≤ s.size ∧ k ≤ t.size ∧ ∀ i, i < k → s.data[i]? = t.data[i]?
/-- .. and with no more. -/
def PreEnd (s t : ByteArray) (k : Nat) : Prop := k = s.size ∨ k = t.size ∨ s.data[k]? ≠ t.data[k]?
/-- Both end with the same m bytes, behind k. -/
def Suf (s t : ByteArray) (k m : Nat) : Prop := m ≤ s.size - k ∧ m ≤ t.size - k ∧ ∀ i, i < m → s.data[s.size - 1 - i]? = t.data[t.size - 1 - i]?
def SufEnd (s t : ByteArray) (k m : Nat) : Prop := m = s.size - k ∨ m = t.size - k ∨ s.data[s.size - 1 - m]? ≠ t.data[t.size - 1 - m]?
/-- What is handed back has its block, of three zeroes yet. -/
def Own (w wr : World) : Prop := Below w.heap.size w wr ∧ wr.heap[w.heap.size]? = some (.cells #[.int .i64 0, .int .i64 0, .string ⟨#[]⟩] 131 (0, 0))
theorem Own.cells {w wr : World} (h : Own w wr) : wr.cell? ⟨w.heap.size, 0, none⟩ = some (.int .i64 0) ∧ wr.cell? ⟨w.heap.size, 1, none⟩ = some (.int .i64 0) ∧ wr.cell? ⟨w.heap.size, 2, none⟩ = some (.string ⟨#[]⟩) ∧ ∀ o, wr.frozen? ⟨w.heap.size, o, none⟩ = false := by
  have := h.2
  simp [World.cell?, World.frozen?, this]
theorem Own.drew {w wr : World} (h : Own w wr) (n : Nat) : Own w (wr.drewN n) := ⟨⟨h.1.os, h.1.tape, h.1.output, h.1.size, h.1.block⟩, h.2⟩
theorem byte_eq {a b : UInt8} (h : ((a.toNat : Int) == (b.toNat : Int)) = true) : a = b := by
  have : (a.toNat : Int) = b.toNat := by simpa using h
  exact UInt8.toNat.inj (by omega)
theorem byte_ne {a b : UInt8} (h : ((a.toNat : Int) == (b.toNat : Int)) = false) : a ≠ b := by
  rintro rfl
  simp at h
theorem wrap_sub (a b : Nat) (h : b ≤ a) (ha : a ≤ 1048576) : IntKind.i64.wrap ((a : Int) - (b : Int)) = ((a - b : Nat) : Int) := by
  rw [show ((a : Int) - (b : Int)) = ((a - b : Nat) : Int) by omega]
  rw [IntKind.wrap_i64]
  omega
theorem at_eq (s : ByteArray) (k : Nat) (h : k < s.size) : s.data[k]? = some s[k] := Array.getElem?_eq_getElem h
/-- Three stores. -/
def put3 (w : World) (g : Nat) (a b : Int) (c : ByteArray) : World := ((w.setCell ⟨g, 0, none⟩ (.int .i64 a)).setCell ⟨g, 1, none⟩ (.int .i64 b)).setCell ⟨g, 2, none⟩ (.string c)
theorem Own.put {w wr : World} (h : Own w wr) (a b : Int) (c : ByteArray) : Below w.heap.size w (put3 wr w.heap.size a b c) ∧ (put3 wr w.heap.size a b c).cell? ⟨w.heap.size, 0, none⟩ = some (.int .i64 a) ∧
    (put3 wr w.heap.size a b c).cell? ⟨w.heap.size, 1, none⟩ = some (.int .i64 b) ∧ (put3 wr w.heap.size a b c).cell? ⟨w.heap.size, 2, none⟩ = some (.string c) := by
  have e := h.2
  refine ⟨((h.1.setCell (p := ⟨w.heap.size, 0, none⟩) (Nat.le_refl _) _).setCell (p := ⟨w.heap.size, 1, none⟩) (Nat.le_refl _) _).setCell (p := ⟨w.heap.size, 2, none⟩) (Nat.le_refl _) _, ?_, ?_, ?_⟩ <;>
    simp [put3, World.cell?, World.setCell, Array.getElem?_modify, e]
theorem build129 (a b : Int) (w : World) : (Instr.build 129 #[(0, .int .i64 a), (1, .int .i64 b)]).run Tryz.prog w = .ok (.agg #[.int .i64 a, .int .i64 b]) w := by kernel_rfl
theorem build131 (a b : Int) (c : ByteArray) (w : World) : (Instr.build 131 #[(0, .agg #[.int .i64 a, .int .i64 b]), (1, .string c)]).run Tryz.prog w = .ok (.agg #[.int .i64 a, .int .i64 b, .string c]) w := by kernel_rfl
set_option maxHeartbeats 2000000 in
theorem turn_any (s t : ByteArray) (w : World) (hs : s.size ≤ 1048576) (ht : t.size ≤ 1048576) : Calls Tryz.prog 60 #[.string s, .string t] w fun e w' =>
    (∃ k m : Nat, e = .returned (.agg #[.int .i64 k, .int .i64 ((s.size - m : Nat) : Int), .string (t.extract k (t.size - m))]) ∧ Pre s t k ∧ PreEnd s t k ∧ Suf s t k m ∧ SufEnd s t k m) ∧ Below w.heap.size w w' := by
  go_enter Tryz.func60, Tryz.ntmps60
  go_wp2
  go_loopw [5] (fun i wr => ∃ k : Nat, k ≤ s.size ∧ k ≤ t.size ∧ i = .int .i64 k ∧ Hid (Pre s t k) ∧ Own w wr) (fun i _ => s.size - (intOf i).toNat)
  case atStart => exact ⟨0, Nat.zero_le _, Nat.zero_le _, rfl, Lib.hid ⟨Nat.zero_le _, Nat.zero_le _, fun i h => absurd h (by omega)⟩, (Below.refl _ _).alloc (Nat.le_refl _) _, heap_alloc_new _ _⟩
  case round =>
    obtain ⟨k, hk1, hk2, rfl, hP, hO⟩ := hrel
    by_cases h1 : k < s.size
    · by_cases h2 : k < t.size
      · cases h3 : (((s[k]).toNat : Int) == ((t[k]).toNat : Int))
        · have H := Lib.hid (show PreEnd s t k from .inr (.inr (by rw [at_eq s k h1, at_eq t k h2]; exact fun h => byte_ne h3 (Option.some.inj h))))
          go_wp2
          go_quiet (fail)
          go_wp2
          go_loopw [6] (fun i wr => ∃ m : Nat, m ≤ s.size - k ∧ m ≤ t.size - k ∧ i = .int .i64 m ∧ Hid (Suf s t k m) ∧ Own w wr) (fun i _ => s.size - (intOf i).toNat)
          case atStart => exact ⟨0, Nat.zero_le _, Nat.zero_le _, rfl, Lib.hid ⟨Nat.zero_le _, Nat.zero_le _, fun i h => absurd h (by omega)⟩, hO.drew _⟩
          case round =>
            clear hO
            obtain ⟨m, hm1, hm2, rfl, hS, hO⟩ := hrel
            have w1 := wrap_sub s.size k hk1 hs
            have w2 := wrap_sub t.size k hk2 ht
            have w3 := wrap_sub s.size m (by omega) hs
            have w4 := wrap_sub t.size m (by omega) ht
            by_cases g1 : m < s.size - k
            · have d1 : decide ((m : Int) < ((s.size - k : Nat) : Int)) = true := by simp; omega
              by_cases g2 : m < t.size - k
              · have d2 : decide ((m : Int) < ((t.size - k : Nat) : Int)) = true := by simp; omega
                have e1 : (s.size : Int) - 1 - (m : Int) = ((s.size - 1 - m : Nat) : Int) := by omega
                have e2 : (t.size : Int) - 1 - (m : Int) = ((t.size - 1 - m : Nat) : Int) := by omega
                have e3 : s.size - 1 - m < s.size := by omega
                have e4 : t.size - 1 - m < t.size := by omega
                cases g3 : (((s[s.size - 1 - m]).toNat : Int) == ((t[t.size - 1 - m]).toNat : Int))
                · have N := Lib.hid (show SufEnd s t k m from .inr (.inr (by rw [at_eq s _ e3, at_eq t _ e4]; exact fun h => byte_ne g3 (Option.some.inj h))))
                  go_wp2
                  go_quiet (fail)
                  obtain ⟨c0, c1, c2, fz⟩ := (hO.drew nq).cells
                  have hF := (hO.drew nq).put k ((s.size - m : Nat) : Int) (t.extract k (t.size - m))
                  go_wp2_with fail
                  first
                    | (rw [build129]; simp only [Result.andThen]; rw [Oper.upon_value]; go_wp2_with fail; rw [build131]; simp only [Result.andThen]; rw [Oper.upon_value]; go_wp2)
                    | skip
                  change bodyPost _ _ _ _ _ (put3 (wr.drewN nq) w.heap.size k ((s.size - m : Nat) : Int) (t.extract k (t.size - m)))
                  generalize put3 (wr.drewN nq) w.heap.size k ((s.size - m : Nat) : Int) (t.extract k (t.size - m)) = wf at *
                  obtain ⟨hB, x0, x1, x2⟩ := hF
                  exact bodyPost_ret (v := .agg #[.int .i64 k, .int .i64 ((s.size - m : Nat) : Int), .string (t.extract k (t.size - m))]) (by simp [results, Tryz.results60, go_sem, x0, x1, x2]) rfl ⟨⟨k, m, rfl, hP.out, H.out, hS.out, N.out⟩, hB⟩
                · have N := Lib.hid (show Suf s t k (m + 1) from ⟨by omega, by omega, fun i hi => by
                    by_cases him : i < m
                    · exact hS.out.2.2 i him
                    · obtain rfl : i = m := by omega
                      rw [at_eq s _ e3, at_eq t _ e4, byte_eq g3]⟩)
                  go_wp2
                  go_quiet (fail)
                  go_wp2
                  go_roundw
                  case rel => exact ⟨m + 1, by omega, by omega, by go_num, N, hO.drew _⟩
                  case measure => simp [intOf]; omega
              · have d2 : decide ((m : Int) < ((t.size - k : Nat) : Int)) = false := by simp; omega
                have N := Lib.hid (show SufEnd s t k m from .inr (.inl (by omega)))
                go_wp2
                go_quiet (fail)
                obtain ⟨c0, c1, c2, fz⟩ := (hO.drew nq).cells
                have hF := (hO.drew nq).put k ((s.size - m : Nat) : Int) (t.extract k (t.size - m))
                go_wp2_with fail
                first
                  | (rw [build129]; simp only [Result.andThen]; rw [Oper.upon_value]; go_wp2_with fail; rw [build131]; simp only [Result.andThen]; rw [Oper.upon_value]; go_wp2)
                  | skip
                change bodyPost _ _ _ _ _ (put3 (wr.drewN nq) w.heap.size k ((s.size - m : Nat) : Int) (t.extract k (t.size - m)))
                generalize put3 (wr.drewN nq) w.heap.size k ((s.size - m : Nat) : Int) (t.extract k (t.size - m)) = wf at *
                obtain ⟨hB, x0, x1, x2⟩ := hF
                exact bodyPost_ret (v := .agg #[.int .i64 k, .int .i64 ((s.size - m : Nat) : Int), .string (t.extract k (t.size - m))]) (by simp [results, Tryz.results60, go_sem, x0, x1, x2]) rfl ⟨⟨k, m, rfl, hP.out, H.out, hS.out, N.out⟩, hB⟩
            · have d1 : decide ((m : Int) < ((s.size - k : Nat) : Int)) = false := by simp; omega
              have N := Lib.hid (show SufEnd s t k m from .inl (by omega))
              go_wp2
              go_quiet (fail)
              obtain ⟨c0, c1, c2, fz⟩ := (hO.drew nq).cells
              have hF := (hO.drew nq).put k ((s.size - m : Nat) : Int) (t.extract k (t.size - m))
              go_wp2_with fail
              first
                | (rw [build129]; simp only [Result.andThen]; rw [Oper.upon_value]; go_wp2_with fail; rw [build131]; simp only [Result.andThen]; rw [Oper.upon_value]; go_wp2)
                | skip
              change bodyPost _ _ _ _ _ (put3 (wr.drewN nq) w.heap.size k ((s.size - m : Nat) : Int) (t.extract k (t.size - m)))
              generalize put3 (wr.drewN nq) w.heap.size k ((s.size - m : Nat) : Int) (t.extract k (t.size - m)) = wf at *
              obtain ⟨hB, x0, x1, x2⟩ := hF
              exact bodyPost_ret (v := .agg #[.int .i64 k, .int .i64 ((s.size - m : Nat) : Int), .string (t.extract k (t.size - m))]) (by simp [results, Tryz.results60, go_sem, x0, x1, x2]) rfl ⟨⟨k, m, rfl, hP.out, H.out, hS.out, N.out⟩, hB⟩
        · have H := Lib.hid (show Pre s t (k + 1) from ⟨by omega, by omega, fun i hi => by
            by_cases hik : i < k
            · exact hP.out.2.2 i hik
            · obtain rfl : i = k := by omega
              rw [at_eq s i h1, at_eq t i h2, byte_eq h3]⟩)
          go_wp2
          go_quiet (fail)
          go_wp2
          go_roundw
          case rel => exact ⟨k + 1, by omega, by omega, by go_num, H, hO.drew _⟩
          case measure => simp [intOf]; omega
      · have H := Lib.hid (show PreEnd s t k from .inr (.inl (by omega)))
        go_wp2
        go_quiet (fail)
        go_wp2
        go_loopw [6] (fun i wr => ∃ m : Nat, m ≤ s.size - k ∧ m ≤ t.size - k ∧ i = .int .i64 m ∧ Hid (Suf s t k m) ∧ Own w wr) (fun i _ => s.size - (intOf i).toNat)
        case atStart => exact ⟨0, Nat.zero_le _, Nat.zero_le _, rfl, Lib.hid ⟨Nat.zero_le _, Nat.zero_le _, fun i h => absurd h (by omega)⟩, hO.drew _⟩
        case round =>
          clear hO
          obtain ⟨m, hm1, hm2, rfl, hS, hO⟩ := hrel
          have w1 := wrap_sub s.size k hk1 hs
          have w2 := wrap_sub t.size k hk2 ht
          have w3 := wrap_sub s.size m (by omega) hs
          have w4 := wrap_sub t.size m (by omega) ht
          have g1 : m < s.size - k := by omega
          have g2 : ¬ m < t.size - k := by omega
          have d1 : decide ((m : Int) < ((s.size - k : Nat) : Int)) = true := by simp; omega
          have d2 : decide ((m : Int) < ((t.size - k : Nat) : Int)) = false := by simp; omega
          have N := Lib.hid (show SufEnd s t k m from .inr (.inl (by omega)))
          go_wp2
          go_quiet (fail)
          obtain ⟨c0, c1, c2, fz⟩ := (hO.drew nq).cells
          have hF := (hO.drew nq).put k ((s.size - m : Nat) : Int) (t.extract k (t.size - m))
          go_wp2_with fail
          first
            | (rw [build129]; simp only [Result.andThen]; rw [Oper.upon_value]; go_wp2_with fail; rw [build131]; simp only [Result.andThen]; rw [Oper.upon_value]; go_wp2)
            | skip
          change bodyPost _ _ _ _ _ (put3 (wr.drewN nq) w.heap.size k ((s.size - m : Nat) : Int) (t.extract k (t.size - m)))
          generalize put3 (wr.drewN nq) w.heap.size k ((s.size - m : Nat) : Int) (t.extract k (t.size - m)) = wf at *
          obtain ⟨hB, x0, x1, x2⟩ := hF
          exact bodyPost_ret (v := .agg #[.int .i64 k, .int .i64 ((s.size - m : Nat) : Int), .string (t.extract k (t.size - m))]) (by simp [results, Tryz.results60, go_sem, x0, x1, x2]) rfl ⟨⟨k, m, rfl, hP.out, H.out, hS.out, N.out⟩, hB⟩
    · have H := Lib.hid (show PreEnd s t k from .inl (by omega))
      go_wp2
      go_quiet (fail)
      go_wp2
      go_loopw [6] (fun i wr => ∃ m : Nat, m ≤ s.size - k ∧ m ≤ t.size - k ∧ i = .int .i64 m ∧ Hid (Suf s t k m) ∧ Own w wr) (fun i _ => s.size - (intOf i).toNat)
      case atStart => exact ⟨0, Nat.zero_le _, Nat.zero_le _, rfl, Lib.hid ⟨Nat.zero_le _, Nat.zero_le _, fun i h => absurd h (by omega)⟩, hO.drew _⟩
      case round =>
        clear hO
        obtain ⟨m, hm1, hm2, rfl, hS, hO⟩ := hrel
        have w1 := wrap_sub s.size k hk1 hs
        have w2 := wrap_sub t.size k hk2 ht
        have w3 := wrap_sub s.size m (by omega) hs
        have w4 := wrap_sub t.size m (by omega) ht
        have g1 : ¬ m < s.size - k := by omega
        have d1 : decide ((m : Int) < ((s.size - k : Nat) : Int)) = false := by simp; omega
        have N := Lib.hid (show SufEnd s t k m from .inl (by omega))
        go_wp2
        go_quiet (fail)
        obtain ⟨c0, c1, c2, fz⟩ := (hO.drew nq).cells
        have hF := (hO.drew nq).put k ((s.size - m : Nat) : Int) (t.extract k (t.size - m))
        go_wp2_with fail
        first
          | (rw [build129]; simp only [Result.andThen]; rw [Oper.upon_value]; go_wp2_with fail; rw [build131]; simp only [Result.andThen]; rw [Oper.upon_value]; go_wp2)
          | skip
        change bodyPost _ _ _ _ _ (put3 (wr.drewN nq) w.heap.size k ((s.size - m : Nat) : Int) (t.extract k (t.size - m)))
        generalize put3 (wr.drewN nq) w.heap.size k ((s.size - m : Nat) : Int) (t.extract k (t.size - m)) = wf at *
        obtain ⟨hB, x0, x1, x2⟩ := hF
        exact bodyPost_ret (v := .agg #[.int .i64 k, .int .i64 ((s.size - m : Nat) : Int), .string (t.extract k (t.size - m))]) (by simp [results, Tryz.results60, go_sem, x0, x1, x2]) rfl ⟨⟨k, m, rfl, hP.out, H.out, hS.out, N.out⟩, hB⟩
end Go.Proofs.YtkeckbmhaplkpaaGreatDoor.Tu
