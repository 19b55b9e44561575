/- The walk of PastWalks, where more may be kept than is pushed. -/
import Derived.Test.YtjmammphomijfaaWalksKit
namespace Go.Proofs.Ytjmammphomijfaa.pastWalks
open Go.RowKit

set_option maxRecDepth 100000 in
set_option maxHeartbeats 4000000 in
theorem walk_more (b off L cap0 N : Nat) (ss : List ByteArray) (a1 : Int) (a2 : Int) (w : World) (hM : 1 + low a1 100 = N) (hNL : L < N) (h2 : L + 1 ≤ 120) (hbl : b < w.heap.size) (hlen : ss.length = L + 1) (hcell : ∀ i, i < ss.length → w.cell? ⟨b, off + i, none⟩ = some (.string (sg ss i))) :
    Calls Try.prog 4 #[.slice (some ⟨b, off, none⟩) (L + 1) cap0, .int .i64 a1, .int .i64 a2] w fun e w' => e = .returned (.bool true) ∧ Below w.heap.size w w' := by
  have e0 : (((L : Int) + 1) == 0) = false := by simp only [beq_eq_false_iff_ne]; omega
  have e1 : decide (120 < (L : Int) + 1) = false := by simp; omega
  have hlb := low_bd a1 100 (by omega)
  have hN1 : 1 ≤ N := by omega
  have hN2 : N ≤ 100 := by omega
  have HM := Lib.hid hM
  have HC := Lib.hid hcell
  have HL := Lib.hid hlen
  clear hM hcell hlen
  go_enter Try.func4, Try.ntmps4
  go_wp2_with fail
  refine (low_any _ 100 (by omega) (by omega) _).mono ?_
  rintro e w1 ⟨rfl, rfl⟩
  go_wp2_with fail
  rw [HM.out]
  refine (newS_yes (N : Int) (by omega) (by omega) _).mono ?_
  rintro e w1 ⟨rfl, rfl⟩
  clear hlb
  go_wp2
  go_loopw [10] (fun i wr => ∃ k : Nat, k ≤ L ∧ i = .int .i64 k ∧ Rel1 w N ss k wr) (fun i _ => L - (intOf i).toNat)
  case atStart =>
    refine ⟨0, Nat.zero_le _, rfl, ?_⟩
    have h := Ok.new 51 9 w (N : Int) (by decide)
    unfold Rel1
    rw [kept_none]
    exact h
  case round =>
    obtain ⟨k, hk, rfl, hO⟩ := hrel
    by_cases hlt : k < L
    · have hc : wr.cell? ⟨b, off + k, none⟩ = some (.string (sg ss k)) := (hO.below.cell (p := ⟨b, off + k, none⟩) hbl).trans (HC.out k (by rw [HL.out]; omega))
      have hm := kept_length ss N k (by rw [HL.out]; omega)
      have hm2 : (kept ss N k).length ≤ 120 := by omega
      clear hm
      go_wp2_with fail
      refine (okPushS hO (sg ss k) (by omega) (by omega)).mono ?_
      rw [kept_succ ss N k hN1 (by rw [HL.out]; omega)]
      rintro e w2 ⟨rfl, hO2⟩
      go_wp2
      go_roundw
      case rel => exact ⟨k + 1, by omega, by go_num, hO2⟩
      case measure => simp [intOf]; omega
    · obtain rfl : L = k := by omega
      have hO' : Rel2 w N L ss 0 L wr := ⟨by omega, by rw [back_zero, fore_zero ss L HL.out]; exact hO⟩
      have hcL : wr.cell? ⟨b, off + L, none⟩ = some (.string (sg ss L)) := (hO.below.cell (p := ⟨b, off + L, none⟩) hbl).trans (HC.out L (by rw [HL.out]; omega))
      obtain ⟨K, hK, hKl⟩ := low_ex a2 ((L : Int) + 1) (by omega)
      have HK := Lib.hid hK
      have hKX : K ≤ L := by omega
      clear hK hKl hO
      go_wp2_with fail
      refine (low_any _ _ (by omega) (by omega) _).mono ?_
      rw [HK.out]
      rintro e w2 ⟨rfl, rfl⟩
      go_wp2
      go_loopw [12, 13, 14] (fun at_ now i wr => ∃ j q : Nat, j ≤ K ∧ i = .int .i64 j ∧ at_ = .int .i64 q ∧ now = .string (sg ss q) ∧ Rel2 w N L ss j q wr) (fun _ _ i _ => K - (intOf i).toNat)
      case atStart => exact ⟨0, L, Nat.zero_le _, rfl, rfl, rfl, hO'⟩
      case round =>
        clear hO' hcL
        obtain ⟨j, q, hj, rfl, rfl, rfl, hjq, hO⟩ := hrel
        by_cases hlt : j < K
        · obtain ⟨p, rfl⟩ : ∃ p, q = p + 1 := ⟨q - 1, by omega⟩
          have hb := fun (wx : World) (h : Below w.heap.size w wx) => (h.cell (p := ⟨b, off + p, none⟩) hbl).trans (HC.out p (by rw [HL.out]; omega))
          have l1 := back_length ss N L (j + 1)
          have l2 := fore_length ss L j HL.out
          have hjq' : j + 1 + p ≤ L := by omega
          have HJ := Lib.hid hjq
          rw [back_snoc ss N L j p hjq (by omega) (by rw [HL.out]; omega)] at hO
          clear hjq
          go_wp2_with fail
          refine (okBackS (sg ss p) hO (sg ss (p + 1)) (by omega) (by omega)).mono ?_
          rw [← fore_snoc ss L j (p + 1) HJ.out HL.out]
          rintro e w3 ⟨rfl, hO3⟩
          have hc3 := hb w3 hO3.below
          clear hb l1 l2 hO
          go_wp2
          go_roundw
          case rel => exact ⟨j + 1, p, by omega, by go_num, rfl, rfl, by have := HJ.out; omega, hO3⟩
          case measure => simp [intOf]; omega
        · obtain rfl : K = j := by omega
          go_wp2
          go_loopw [12, 13, 17] (fun at_ now i wr => ∃ j q i' : Nat, i' + j = K ∧ i = .int .i64 i' ∧ at_ = .int .i64 q ∧ now = .string (sg ss q) ∧ Rel2 w N L ss j q wr) (fun _ _ i _ => K - (intOf i).toNat)
          case atStart => exact ⟨K, q, 0, by omega, rfl, rfl, rfl, hjq, hO⟩
          case round =>
            clear hjq hO
            obtain ⟨j, q, i', hij, rfl, rfl, rfl, hjq, hO⟩ := hrel
            by_cases hlt : i' < K
            · obtain ⟨j, rfl⟩ : ∃ j', j = j' + 1 := ⟨j - 1, by omega⟩
              have hb := fun (wx : World) (h : Below w.heap.size w wx) => (h.cell (p := ⟨b, off + (q + 1), none⟩) hbl).trans (HC.out (q + 1) (by rw [HL.out]; omega))
              have l1 := back_length ss N L (j + 1)
              have l2 := fore_length ss L j HL.out
              have hq' : q + 1 ≤ L := by omega
              have HJ := Lib.hid hjq
              have HI := Lib.hid hij
              rw [fore_snoc ss L j (q + 1) (by omega) HL.out] at hO
              have HS := Lib.hid (back_snoc ss N L j q (by omega) (by omega) (by rw [HL.out]; omega))
              clear hjq hij
              go_wp2_with fail
              refine (okForthS (sg ss (q + 1)) hO (sg ss q) (by omega) (by omega)).mono ?_
              rw [← HS.out]
              rintro e w3 ⟨rfl, hO3⟩
              have hc3 := hb w3 hO3.below
              clear hb l1 l2 hO
              go_wp2
              go_roundw
              case rel => exact ⟨j, q + 1, i' + 1, by have := HI.out; omega, by go_num, by go_num, rfl, by have := HJ.out; omega, hO3⟩
              case measure => simp [intOf]; omega
            · obtain rfl : j = 0 := by omega
              obtain rfl : K = i' := by omega
              obtain rfl : L = q := by omega
              have hc4 := fun (wx : World) (h : Below w.heap.size w wx) => (h.cell (p := ⟨b, off + L, none⟩) hbl).trans (HC.out L (by rw [HL.out]; omega))
              have hlk := kept_length ss N L (by rw [HL.out]; omega)
              rw [back_zero, fore_zero ss L HL.out] at hO
              have hlk2 : (kept ss N L).length = L := by omega
              have HLK := Lib.hid hlk2
              clear hlk hlk2 hjq hij
              go_wp2_with fail
              refine (okForthS_none hO _).mono ?_
              rintro e w3 ⟨rfl, hO3⟩
              go_wp2_with fail
              refine (okManyS hO3).mono ?_
              rw [HLK.out]
              rintro e w4 ⟨rfl, hO4⟩
              have hc5 := hc4 w4 hO4.below
              clear hc4
              go_wp2_with fail
              refine (awake_any _).mono ?_
              rintro e w5 ⟨rfl, hb5⟩
              go_wp2
              go_ret
              exact ⟨rfl, bt hO4.below hb5⟩
end Go.Proofs.Ytjmammphomijfaa.pastWalks
