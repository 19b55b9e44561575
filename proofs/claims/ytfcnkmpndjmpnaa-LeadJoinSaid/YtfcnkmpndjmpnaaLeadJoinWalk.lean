/- The walk of LeadJoin: whatever the texts, it answers true; nothing that was there has turned. -/
import Derived.Test.YtfcnkmpndjmpnaaAwake
import Derived.OpenShut
namespace Go.Proofs.Ytfcnkmpndjmpnaa.leadJoin
open Go.RowKit
open M

/-- Behind a text whose tail is tabs only, and ahead of them no break, the flag is down. -/
theorem fl_tabs (l : List UInt8) (k : Nat) (ht : ∀ i (h : i < l.length), k ≤ i → l[i] = 9) (hf : fl false (l.take k) = false) : fl false l = false := by
  have aux : ∀ (m : List UInt8), (∀ x ∈ m, x = 9) → fl false m = false := by
    intro m hm
    induction m with
    | nil => rfl
    | cons c r ih =>
      have hc : c = 9 := hm c (by simp)
      subst hc
      exact ih fun x hx => hm x (by simp [hx])
  have app : ∀ (f : Bool) (a b : List UInt8), fl f (a ++ b) = fl (fl f a) b := by
    intro f a b
    induction a generalizing f with
    | nil => rfl
    | cons c r ih => exact ih _
  rw [← List.take_append_drop k l, app, hf]
  refine aux _ fun x hx => ?_
  obtain ⟨i, hi, rfl⟩ := List.mem_iff_getElem.1 hx
  rw [List.getElem_drop]
  exact ht _ _ (by omega)
theorem fl_last (s : ByteArray) (k : Nat) (hk : k < s.size) (h9 : s[k] ≠ 9) (h10 : s[k] ≠ 10) : fl false (s.data.toList.take (k + 1)) = false := by
  rw [fl_next s k hk, if_neg h10]; simp [h9]
theorem str_app (l m : List UInt8) : (⟨l.toArray⟩ : ByteArray) ++ ⟨m.toArray⟩ = ⟨(l ++ m).toArray⟩ := by
  apply ByteArray.ext
  rw [ByteArray.data_append]
  simp
theorem join_any (s t lead unit : ByteArray) (w : World) (hs : s.size ≤ 60) (ht : t.size ≤ 60) (hl : lead.size ≤ 20) (hu : unit.size ≤ 20) (hf : fl false s.data.toList = false) :
    Calls Try.prog 11 #[.string (s ++ t), .string lead, .string unit] w fun e w' => e = .returned (.string (⟨(ad lead.data.toList unit.data.toList false s.data.toList).toArray⟩ ++ ⟨(ad lead.data.toList unit.data.toList false t.data.toList).toArray⟩)) ∧ Below w.heap.size w w' := by
  have h := adapt_any (s ++ t) lead unit w (by rw [ByteArray.size_append]; omega) (by omega) (by omega)
  rw [ByteArray.data_append, Array.toList_append, ad_app, hf] at h
  rw [str_app]
  exact h

/-- From k on, tabs only. -/
def Tabs (s : ByteArray) (k : Nat) : Prop := ∀ i (h : i < s.size), k ≤ i → s[i] = 9
theorem Tabs.start (s : ByteArray) : Tabs s s.size := fun i h hk => absurd h (by omega)
theorem Tabs.next {s : ByteArray} {k : Nat} (h : Tabs s (k + 1)) (hk : k < s.size) (h9 : s[k] = 9) : Tabs s k := fun i hi hki => by
  by_cases he : i = k
  · subst he; exact h9
  · exact h i hi (by omega)
theorem Tabs.fl0 {s : ByteArray} (h : Tabs s 0) : fl false s.data.toList = false :=
  fl_tabs _ 0 (fun i hi _ => h i (by simpa using hi) (Nat.zero_le _)) rfl
theorem Tabs.flk {s : ByteArray} {k : Nat} (h : Tabs s (k + 1)) (hk : k < s.size) (h9 : s[k] ≠ 9) (h10 : s[k] ≠ 10) : fl false s.data.toList = false :=
  fl_tabs _ (k + 1) (fun i hi hki => h i (by simpa using hi) hki) (fl_last s k hk h9 h10)
set_option maxHeartbeats 1000000 in
theorem walk (a0 a1 a2 a3 : ByteArray) (w0 : a0.size ≤ maxLen) (w1 : a1.size ≤ maxLen) (w2 : a2.size ≤ maxLen) (w3 : a3.size ≤ maxLen) (w : World) :
    Calls Try.prog 7 #[.string a0, .string a1, .string a2, .string a3] w fun e w' => e = .returned (.bool true) ∧ Below w.heap.size w w' := by
  unfold maxLen at w0 w1 w2 w3
  by_cases hbig : 60 < a0.size ∨ 60 < a1.size ∨ 20 < a2.size ∨ 20 < a3.size
  · have hd : (decide (60 < (a0.size : Int)) || (decide (60 < (a1.size : Int)) || (decide (20 < (a2.size : Int)) || decide (20 < (a3.size : Int))))) = true := by
      simp; omega
    by_cases h0 : 60 < a0.size
    · go_enter Try.func7, Try.ntmps7
      go_wp2_with fail
      refine (awake_any _).mono ?_
      rintro e w1 ⟨rfl, hb1⟩
      go_wp2
      go_ret
      exact ⟨rfl, hb1⟩
    have h0' : decide (60 < (a0.size : Int)) = false := by simp; omega
    by_cases h1 : 60 < a1.size
    · go_enter Try.func7, Try.ntmps7
      go_wp2_with fail
      refine (awake_any _).mono ?_
      rintro e w1 ⟨rfl, hb1⟩
      go_wp2
      go_ret
      exact ⟨rfl, hb1⟩
    have h1' : decide (60 < (a1.size : Int)) = false := by simp; omega
    by_cases h2 : 20 < a2.size
    · go_enter Try.func7, Try.ntmps7
      go_wp2_with fail
      refine (awake_any _).mono ?_
      rintro e w1 ⟨rfl, hb1⟩
      go_wp2
      go_ret
      exact ⟨rfl, hb1⟩
    have h2' : decide (20 < (a2.size : Int)) = false := by simp; omega
    have h3 : 20 < a3.size := by omega
    go_enter Try.func7, Try.ntmps7
    go_wp2_with fail
    refine (awake_any _).mono ?_
    rintro e w1 ⟨rfl, hb1⟩
    go_wp2
    go_ret
    exact ⟨rfl, hb1⟩
  have g0 : a0.size ≤ 60 := by omega
  have g1 : a1.size ≤ 60 := by omega
  have g2 : a2.size ≤ 20 := by omega
  have g3 : a3.size ≤ 20 := by omega
  clear hbig w0 w1 w2 w3
  have n2 : a2.data.toList.length = a2.size := by simp
  have n3 : a3.data.toList.length = a3.size := by simp
  have n0 : a0.data.toList.length = a0.size := by simp
  have n1 : a1.data.toList.length = a1.size := by simp
  have hl1 := ad_le a2.data.toList a3.data.toList false a0.data.toList 30 (by omega) (by omega)
  have hl2 := ad_le a2.data.toList a3.data.toList false a1.data.toList 30 (by omega) (by omega)
  rw [n0] at hl1
  rw [n1] at hl2
  clear n0 n1 n2 n3
  have h0' : decide (60 < (a0.size : Int)) = false := by simp; omega
  have h1' : decide (60 < (a1.size : Int)) = false := by simp; omega
  have h2' : decide (20 < (a2.size : Int)) = false := by simp; omega
  have h3' : decide (20 < (a3.size : Int)) = false := by simp; omega
  go_enter Try.func7, Try.ntmps7
  go_wp2_with fail
  go_loopw [9] (fun i wr => ∃ k : Nat, k ≤ a0.size ∧ i = .int .i64 k ∧ Tabs a0 k ∧ wr = w) (fun i _ => (intOf i).toNat)
  case atStart => exact ⟨a0.size, Nat.le_refl _, rfl, Tabs.start a0, rfl⟩
  case round =>
    obtain ⟨k, hk, rfl, hT, rfl⟩ := hrel
    cases k with
    | zero =>
      have hf := hT.fl0
      go_wp2_with fail
      refine (join_any a0 a1 a2 a3 _ g0 g1 g2 g3 hf).mono ?_
      rintro e w1 ⟨rfl, hb1⟩
      go_wp2_with fail
      refine (adapt_any a0 a2 a3 _ (by omega) (by omega) (by omega)).mono ?_
      rintro e w2 ⟨rfl, hb2⟩
      go_wp2_with fail
      refine (adapt_any a1 a2 a3 _ (by omega) (by omega) (by omega)).mono ?_
      rintro e w3 ⟨rfl, hb3⟩
      go_wp2_with fail
      refine (awake_any _).mono ?_
      rintro e w4 ⟨rfl, hb4⟩
      go_wp2
      go_ret
      exact ⟨rfl, bt (bt (bt hb1 hb2) hb3) hb4⟩
    | succ j =>
      have hj : j < a0.size := by omega
      have hcb := (a0[j]).toNat_lt
      have hc10 : a0[j] = 10 ↔ (a0[j]).toNat = 10 := ⟨fun h => by rw [h]; rfl, fun h => UInt8.toNat_inj.1 h⟩
      have hc9 : a0[j] = 9 ↔ (a0[j]).toNat = 9 := ⟨fun h => by rw [h]; rfl, fun h => UInt8.toNat_inj.1 h⟩
      by_cases h9 : a0[j] = 9
      · have t9 : (((a0[j]).toNat : Int) == 9) = true := by rw [hc9.1 h9]; rfl
        have hT' := hT.next hj h9
        clear hc10 hc9
        go_wp2
        go_roundw
        case rel => exact ⟨j, by omega, by go_num, hT', trivial⟩
        case measure => simp [intOf]
      · have t9 : (((a0[j]).toNat : Int) == 9) = false := by
          simp only [beq_eq_false_iff_ne]; intro h; exact h9 (hc9.2 (by omega))
        by_cases h10 : a0[j] = 10
        · have t10 : (((a0[j]).toNat : Int) == 10) = true := by rw [hc10.1 h10]; rfl
          clear hc10 hc9
          go_wp2_with fail
          refine (awake_any _).mono ?_
          rintro e w1 ⟨rfl, hb1⟩
          go_wp2
          go_ret
          exact ⟨rfl, hb1⟩
        · have t10 : (((a0[j]).toNat : Int) == 10) = false := by
            simp only [beq_eq_false_iff_ne]; intro h; exact h10 (hc10.2 (by omega))
          have hf := hT.flk hj h9 h10
          clear hc10 hc9
          go_wp2_with fail
          refine (join_any a0 a1 a2 a3 _ g0 g1 g2 g3 hf).mono ?_
          rintro e w1 ⟨rfl, hb1⟩
          go_wp2_with fail
          refine (adapt_any a0 a2 a3 _ (by omega) (by omega) (by omega)).mono ?_
          rintro e w2 ⟨rfl, hb2⟩
          go_wp2_with fail
          refine (adapt_any a1 a2 a3 _ (by omega) (by omega) (by omega)).mono ?_
          rintro e w3 ⟨rfl, hb3⟩
          go_wp2_with fail
          refine (awake_any _).mono ?_
          rintro e w4 ⟨rfl, hb4⟩
          go_wp2
          go_ret
          exact ⟨rfl, bt (bt (bt hb1 hb2) hb3) hb4⟩
end Go.Proofs.Ytfcnkmpndjmpnaa.leadJoin
