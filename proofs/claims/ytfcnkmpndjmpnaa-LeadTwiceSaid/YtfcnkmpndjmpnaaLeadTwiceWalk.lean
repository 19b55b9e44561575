/- The walk of LeadTwice: whatever the texts, it answers true; nothing that was there has turned. -/
import Derived.Test.YtfcnkmpndjmpnaaAwake
import Derived.OpenShut
namespace Go.Proofs.Ytfcnkmpndjmpnaa.leadTwice
open Go.RowKit
open M

theorem ad_nil (lead : List UInt8) (f g : Bool) (l : List UInt8) : ad lead [] f l = ad lead [] g l := by
  induction l generalizing f g with
  | nil => rfl
  | cons c r ih =>
    simp only [ad, ne_eq, not_true_eq_false, and_false, if_false]
    rw [ih (f && c == 9) (g && c == 9)]
theorem ad_dry (lead : List UInt8) (f : Bool) (b m : List UInt8) (hb : ∀ x ∈ b, x ≠ 10) : ad lead [] f (b ++ m) = b ++ ad lead [] f m := by
  induction b generalizing f with
  | nil => rfl
  | cons c r ih =>
    have hc : c ≠ 10 := hb c (by simp)
    simp only [List.cons_append, ad, ne_eq, not_true_eq_false, and_false, if_false, hc]
    rw [ih _ fun x hx => hb x (by simp [hx]), ad_nil lead (f && c == 9) f m]
theorem twice (a b : List UInt8) (hb : ∀ x ∈ b, x ≠ 10) (f g h : Bool) (l : List UInt8) : ad a [] f (ad b [] g l) = ad (a ++ b) [] h l := by
  induction l generalizing f g h with
  | nil => rfl
  | cons c r ih =>
    by_cases hc : c = 10
    · subst hc
      simp only [ad, if_true]
      rw [ad_dry a true b _ hb, ih true true true, List.append_assoc]
    · simp only [ad, hc, if_false, ne_eq, not_true_eq_false, and_false]
      rw [ih _ _ (h && c == 9)]
/-- No break ahead of k. -/
def Dry (s : ByteArray) (k : Nat) : Prop := ∀ i (h : i < s.size), i < k → s[i] ≠ 10
theorem Dry.start (s : ByteArray) : Dry s 0 := fun _ _ h => absurd h (by omega)
theorem Dry.next {s : ByteArray} {k : Nat} (h : Dry s k) (hk : k < s.size) (h10 : s[k] ≠ 10) : Dry s (k + 1) := fun i hi hki => by
  by_cases he : i = k
  · subst he; exact h10
  · exact h i hi (by omega)
theorem Dry.all {s : ByteArray} (h : Dry s s.size) : ∀ x ∈ s.data.toList, x ≠ 10 := fun x hx => by
  obtain ⟨i, hi, rfl⟩ := List.mem_iff_getElem.1 hx
  exact h i (by simpa using hi) (by simpa using hi)
theorem in_any (s b : ByteArray) (w : World) (hs : s.size ≤ 80) (hb : b.size ≤ 20) :
    Calls Try.prog 11 #[.string s, .string b, .string ⟨#[]⟩] w fun e w' => e = .returned (.string ⟨(ad b.data.toList [] false s.data.toList).toArray⟩) ∧ Below w.heap.size w w' :=
  adapt_any s b ⟨#[]⟩ w (by omega) (by omega) (by show 0 ≤ 1024; omega)
theorem out_any (s a b : ByteArray) (w : World) (hs : s.size ≤ 80) (ha : a.size ≤ 20) (hb : b.size ≤ 20) (hd : Dry b b.size) :
    Calls Try.prog 11 #[.string ⟨(ad b.data.toList [] false s.data.toList).toArray⟩, .string a, .string ⟨#[]⟩] w fun e w' => e = .returned (.string ⟨(ad (a.data.toList ++ b.data.toList) [] false s.data.toList).toArray⟩) ∧ Below w.heap.size w w' := by
  have n1 : b.data.toList.length = b.size := by simp
  have n2 : s.data.toList.length = s.size := by simp
  have hl := ad_le b.data.toList [] false s.data.toList 30 (by omega) (by simp)
  have h := adapt_any ⟨(ad b.data.toList [] false s.data.toList).toArray⟩ a ⟨#[]⟩ w (by show (ad b.data.toList [] false s.data.toList).toArray.size ≤ 100000; simp; omega) (by omega) (by show 0 ≤ 1024; omega)
  have e : (ByteArray.mk (ad b.data.toList [] false s.data.toList).toArray).data.toList = ad b.data.toList [] false s.data.toList := by simp
  rw [e] at h
  have e2 : (ByteArray.mk #[]).data.toList = [] := rfl
  rw [e2, twice a.data.toList b.data.toList hd.all false false false s.data.toList] at h
  exact h
theorem both_any (s a b : ByteArray) (w : World) (hs : s.size ≤ 80) (ha : a.size ≤ 20) (hb : b.size ≤ 20) :
    Calls Try.prog 11 #[.string s, .string (a ++ b), .string ⟨#[]⟩] w fun e w' => e = .returned (.string ⟨(ad (a.data.toList ++ b.data.toList) [] false s.data.toList).toArray⟩) ∧ Below w.heap.size w w' := by
  have h := adapt_any s (a ++ b) ⟨#[]⟩ w (by omega) (by rw [ByteArray.size_append]; omega) (by show 0 ≤ 1024; omega)
  rw [ByteArray.data_append, Array.toList_append] at h
  exact h

set_option maxHeartbeats 1000000 in
theorem walk (a0 a1 a2 : ByteArray) (w0 : a0.size ≤ maxLen) (w1 : a1.size ≤ maxLen) (w2 : a2.size ≤ maxLen) (w : World) :
    Calls Try.prog 6 #[.string a0, .string a1, .string a2] w fun e w' => e = .returned (.bool true) ∧ Below w.heap.size w w' := by
  unfold maxLen at w0 w1 w2
  by_cases h0 : 80 < a0.size
  · go_enter Try.func6, Try.ntmps6
    go_wp2_with fail
    refine (awake_any _).mono ?_
    rintro e w1 ⟨rfl, hb1⟩
    go_wp2
    go_ret
    exact ⟨rfl, hb1⟩
  have h0' : decide (80 < (a0.size : Int)) = false := by simp; omega
  by_cases h1 : 20 < a1.size
  · go_enter Try.func6, Try.ntmps6
    go_wp2_with fail
    refine (awake_any _).mono ?_
    rintro e w1 ⟨rfl, hb1⟩
    go_wp2
    go_ret
    exact ⟨rfl, hb1⟩
  have h1' : decide (20 < (a1.size : Int)) = false := by simp; omega
  by_cases h2 : 20 < a2.size
  · go_enter Try.func6, Try.ntmps6
    go_wp2_with fail
    refine (awake_any _).mono ?_
    rintro e w1 ⟨rfl, hb1⟩
    go_wp2
    go_ret
    exact ⟨rfl, hb1⟩
  have h2' : decide (20 < (a2.size : Int)) = false := by simp; omega
  have g0 : a0.size ≤ 80 := by omega
  have g1 : a1.size ≤ 20 := by omega
  have g2 : a2.size ≤ 20 := by omega
  clear w0 w1 w2 h0 h1 h2
  have n1 : a1.data.toList.length = a1.size := by simp
  have n2 : a2.data.toList.length = a2.size := by simp
  go_enter Try.func6, Try.ntmps6
  go_wp2_with fail
  go_loopw [7] (fun i wr => ∃ k : Nat, k ≤ a1.size ∧ i = .int .i64 k ∧ Dry a1 k ∧ wr = w) (fun i _ => a1.size - (intOf i).toNat)
  case atStart => exact ⟨0, Nat.zero_le _, rfl, Dry.start a1, rfl⟩
  case round =>
    obtain ⟨k, hk, rfl, hD, rfl⟩ := hrel
    by_cases hlt : k < a1.size
    · have hcb := (a1[k]).toNat_lt
      have hc10 : a1[k] = 10 ↔ (a1[k]).toNat = 10 := ⟨fun h => by rw [h]; rfl, fun h => UInt8.toNat_inj.1 h⟩
      by_cases h10 : a1[k] = 10
      · have t10 : (((a1[k]).toNat : Int) == 10) = true := by rw [hc10.1 h10]; rfl
        clear hc10
        go_wp2_with fail
        refine (awake_any _).mono ?_
        rintro e w1 ⟨rfl, hb1⟩
        go_wp2
        go_ret
        exact ⟨rfl, hb1⟩
      · have t10 : (((a1[k]).toNat : Int) == 10) = false := by
          simp only [beq_eq_false_iff_ne]; intro h; exact h10 (hc10.2 (by omega))
        have hD' := hD.next hlt h10
        clear hc10
        go_wp2
        go_roundw
        case rel => exact ⟨k + 1, by omega, by go_num, hD', trivial⟩
        case measure => simp [intOf]; omega
    · obtain rfl : a1.size = k := by omega
      have hl1 := ad_le a1.data.toList [] false a0.data.toList 30 (by omega) (by simp)
      have n0 : a0.data.toList.length = a0.size := by simp
      rw [n0] at hl1
      clear n0 n1 n2
      go_wp2_with fail
      go_loopw [8] (fun i ws => ∃ k : Nat, k ≤ a2.size ∧ i = .int .i64 k ∧ Dry a2 k ∧ ws = wr) (fun i _ => a2.size - (intOf i).toNat)
      case atStart => exact ⟨0, Nat.zero_le _, rfl, Dry.start a2, rfl⟩
      case round =>
        obtain ⟨k, hk, rfl, hE, rfl⟩ := hrel
        by_cases hlt : k < a2.size
        · have hcb := (a2[k]).toNat_lt
          have hc10 : a2[k] = 10 ↔ (a2[k]).toNat = 10 := ⟨fun h => by rw [h]; rfl, fun h => UInt8.toNat_inj.1 h⟩
          by_cases h10 : a2[k] = 10
          · have t10 : (((a2[k]).toNat : Int) == 10) = true := by rw [hc10.1 h10]; rfl
            clear hc10
            go_wp2_with fail
            refine (awake_any _).mono ?_
            rintro e w1 ⟨rfl, hb1⟩
            go_wp2
            go_ret
            exact ⟨rfl, hb1⟩
          · have t10 : (((a2[k]).toNat : Int) == 10) = false := by
              simp only [beq_eq_false_iff_ne]; intro h; exact h10 (hc10.2 (by omega))
            have hE' := hE.next hlt h10
            clear hc10
            go_wp2
            go_roundw
            case rel => exact ⟨k + 1, by omega, by go_num, hE', trivial⟩
            case measure => simp [intOf]; omega
        · obtain rfl : a2.size = k := by omega
          go_wp2_with fail
          refine (in_any a0 a2 _ g0 g2).mono ?_
          rintro e w1 ⟨rfl, hb1⟩
          go_wp2_with fail
          refine (out_any a0 a1 a2 _ g0 g1 g2 hE).mono ?_
          rintro e w2 ⟨rfl, hb2⟩
          go_wp2_with fail
          refine (both_any a0 a1 a2 _ g0 g1 g2).mono ?_
          rintro e w3 ⟨rfl, hb3⟩
          go_wp2_with fail
          refine (awake_any _).mono ?_
          rintro e w4 ⟨rfl, hb4⟩
          go_wp2
          go_ret
          exact ⟨rfl, bt (bt (bt hb1 hb2) hb3) hb4⟩
end Go.Proofs.Ytfcnkmpndjmpnaa.leadTwice
