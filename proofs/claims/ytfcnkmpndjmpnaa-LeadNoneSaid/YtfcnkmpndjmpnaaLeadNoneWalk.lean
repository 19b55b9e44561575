/- The walk of LeadNone: whatever the texts, it answers true; nothing that was there has turned. -/
import Derived.Test.YtfcnkmpndjmpnaaParts
import Derived.OpenShut
namespace Go.Proofs.Ytfcnkmpndjmpnaa.leadNone
open Go.RowKit
open M

theorem same_any (s u : ByteArray) (w : World) (hs : s.size ≤ 100) (hu : u = ⟨#[]⟩ ∨ u = ⟨#[9]⟩) :
    Calls Try.prog 11 #[.string s, .string ⟨#[]⟩, .string u] w fun e w' => e = .returned (.string s) ∧ Below w.heap.size w w' := by
  have hz : u.size ≤ 1024 := by
    rcases hu with rfl | rfl
    · show 0 ≤ 1024; omega
    · show 1 ≤ 1024; omega
  have h := adapt_any s ⟨#[]⟩ u w (by omega) (by show 0 ≤ 1024; omega) hz
  have e : (ByteArray.mk #[]).data.toList = [] := rfl
  rw [e, ad_same _ _ _ (hu.imp (fun h => by rw [h]) (fun h => by rw [h]))] at h
  exact h
theorem line_any (l lead u : ByteArray) (w : World) (hs : l.size ≤ 100000) (hl : lead.size ≤ 30) (hu : u.size ≤ 30) (hd : ∀ x ∈ l.data.toList, x ≠ 10) :
    Calls Try.prog 11 #[.string l, .string lead, .string u] w fun e w' => e = .returned (.string l) ∧ Below w.heap.size w w' := by
  have h := adapt_any l lead u w hs (by omega) (by omega)
  rw [ad_line _ _ _ hd] at h
  exact h
theorem first_le {s : ByteArray} {l : ByteArray} {L : List ByteArray} (h : Pieces s (l :: L)) : l.size ≤ s.size := by
  have e := congrArg List.length h.whole
  have n1 : l.data.toList.length = l.size := by simp
  have n2 : s.data.toList.length = s.size := by simp
  simp only [Ls, List.map_cons, flat, List.length_append, List.length_cons, List.length_nil] at e
  omega

set_option maxHeartbeats 1000000 in
theorem walk (a0 a1 a2 : ByteArray) (w0 : a0.size ≤ maxLen) (w1 : a1.size ≤ maxLen) (w2 : a2.size ≤ maxLen) (w : World) :
    Calls Try.prog 5 #[.string a0, .string a1, .string a2] w fun e w' => e = .returned (.bool true) ∧ Below w.heap.size w w' := by
  unfold maxLen at w0 w1 w2
  by_cases h0 : 100 < a0.size
  · go_enter Try.func5, Try.ntmps5
    go_wp2_with fail
    refine (awake_any _).mono ?_
    rintro e w1 ⟨rfl, hb1⟩
    go_wp2
    go_ret
    exact ⟨rfl, hb1⟩
  have h0' : decide (100 < (a0.size : Int)) = false := by simp; omega
  by_cases h1 : 30 < a1.size
  · go_enter Try.func5, Try.ntmps5
    go_wp2_with fail
    refine (awake_any _).mono ?_
    rintro e w1 ⟨rfl, hb1⟩
    go_wp2
    go_ret
    exact ⟨rfl, hb1⟩
  have h1' : decide (30 < (a1.size : Int)) = false := by simp; omega
  by_cases h2 : 30 < a2.size
  · go_enter Try.func5, Try.ntmps5
    go_wp2_with fail
    refine (awake_any _).mono ?_
    rintro e w1 ⟨rfl, hb1⟩
    go_wp2
    go_ret
    exact ⟨rfl, hb1⟩
  have h2' : decide (30 < (a2.size : Int)) = false := by simp; omega
  have g0 : a0.size ≤ 100 := by omega
  have g1 : a1.size ≤ 30 := by omega
  have g2 : a2.size ≤ 30 := by omega
  clear w0 w1 w2 h0 h1 h2
  go_enter Try.func5, Try.ntmps5
  go_wp2_with fail
  refine (parts_any a0 _ (by omega)).mono ?_
  rintro e w1 ⟨L, g, cap, rfl, hR, hg, hP, hb1⟩
  cases L with
  | nil => exact absurd hP.pos (by simp)
  | cons l r =>
    have c0 : w1.cell? ⟨g, 0, none⟩ = some (.string l) := hR 0 (by simp)
    have hd := hP.dry l (by simp)
    have hle := first_le hP
    have hpos : 0 < (l :: r).length := by simp
    clear hR hP
    go_wp2_with fail
    refine (same_any a0 ⟨#[]⟩ _ g0 (.inl rfl)).mono ?_
    rintro e w2 ⟨rfl, hb2⟩
    go_wp2_with fail
    refine (same_any a0 ⟨#[9]⟩ _ g0 (.inr rfl)).mono ?_
    rintro e w3 ⟨rfl, hb3⟩
    go_wp2_with fail
    refine (line_any l a1 a2 _ (by omega) g1 g2 hd).mono ?_
    rintro e w4 ⟨rfl, hb4⟩
    go_wp2_with fail
    refine (awake_any _).mono ?_
    rintro e w5 ⟨rfl, hb5⟩
    go_wp2
    go_ret
    exact ⟨rfl, bt (bt (bt (bt hb1 hb2) hb3) hb4) hb5⟩
end Go.Proofs.Ytfcnkmpndjmpnaa.leadNone
