/- The walk of PastPush: whatever the numbers, it answers true; nothing that was there has turned. -/
import Derived.Test.YtjmammphomijfaaRowIs
namespace Go.Proofs.Ytjmammphomijfaa.pastPush
open Go.RowKit

def upto (j : Nat) : List Int := (List.range j).map Int.ofNat
theorem upto_succ (j : Nat) : upto (j + 1) = upto j ++ [(j : Int)] := by simp [upto, List.range_succ]
theorem upto_length (j : Nat) : (upto j).length = j := by simp [upto]
theorem take_cut (ns : List Int) (k : Nat) (h : k < ns.length) : ns.take (k + 1) = ns.take k ++ [ns[k]] := by rw [List.take_succ_eq_append_getElem h]
theorem pushed_few {l : List Int} {x : Int} (h : (l.length : Int) + 1 ≤ 100) : pushed 100 l x = l ++ [x] := if_pos h

/-- What is ahead does not matter but for how much it is. -/
def SomeFs (w wr : World) (ns : List Int) (m : Nat) : Prop := ∃ fs : List Int, fs.length + m ≤ 61 ∧ Ok 47 3 w.heap.size w wr w.heap.size 100 (LI (ns.take m)) (LI fs)

set_option maxHeartbeats 1000000 in
theorem walk (a0 : Option Addr) (len0 cap0 : Nat) (z0 : List Int) (a1 : Int) (a2 : Int) (w : World) (w0 : IsRow .i64 w a0 len0 cap0 z0) (_w1 : (Lit.int .i64 a1).wf = true) (_w2 : (Lit.int .i64 a2).wf = true) :
    Calls Try.prog 5 #[.slice a0 len0 cap0, .int .i64 a1, .int .i64 a2] w fun e w' => e = .returned (.bool true) ∧ Below w.heap.size w w' := by
  clear _w1 _w2
  by_cases h0 : len0 = 0
  · subst h0
    go_enter Try.func5, Try.ntmps5
    go_wp2_with fail
    refine (awake_any _).mono ?_
    rintro e w1 ⟨rfl, hb⟩
    go_wp2
    go_ret
    exact ⟨rfl, hb⟩
  have e0 : ((len0 : Int) == 0) = false := by simp only [beq_eq_false_iff_ne]; omega
  by_cases h1 : 60 < len0
  · clear w0 h0
    go_enter Try.func5, Try.ntmps5
    go_wp2_with fail
    refine (awake_any _).mono ?_
    rintro e w1 ⟨rfl, hb⟩
    go_wp2
    go_ret
    exact ⟨rfl, hb⟩
  have e1 : decide (60 < (len0 : Int)) = false := by simp; omega
  obtain ⟨b, off, rfl, hbl, ns, hlen, hcell⟩ := w0.open_ (by omega)
  obtain ⟨K, hK, hk⟩ : ∃ K : Nat, low a1 ((len0 : Int) + 1) = K ∧ K ≤ len0 := by
    have h := low_bd a1 ((len0 : Int) + 1) (by omega)
    exact ⟨(low a1 ((len0 : Int) + 1)).toNat, by omega, by omega⟩
  have HK := Lib.hid hK
  have HC := Lib.hid hcell
  have HL := Lib.hid hlen
  have hlen2 : len0 ≤ ns.length := by omega
  have hN := Lib.hid (Ok.new 47 3 w 100 (by decide))
  clear hK hcell hlen h0 w0
  go_enter Try.func5, Try.ntmps5
  go_wp2_with fail
  refine (newI_yes 100 (by omega) (by omega) _).mono ?_
  rintro e w1 ⟨rfl, rfl⟩
  go_wp2
  go_loopw [9] (fun i wr => ∃ k : Nat, k ≤ len0 ∧ i = .int .i64 k ∧ Ok 47 3 w.heap.size w wr w.heap.size 100 (LI (ns.take k)) (LI [])) (fun i _ => len0 - (intOf i).toNat)
  case atStart => exact ⟨0, Nat.zero_le _, rfl, by simpa [LI] using hN.out⟩
  case round =>
    obtain ⟨k, hk1, rfl, hO⟩ := hrel
    by_cases hlt : k < len0
    · have hc : wr.cell? ⟨b, off + k, none⟩ = some (.int .i64 (ns[k]'(by omega))) := (hO.below.cell (p := ⟨b, off + k, none⟩) hbl).trans (HC.out k (by omega))
      have hm : (ns.take k).length ≤ k := List.length_take_le _ _
      go_wp2_with fail
      refine (okPushI hO (ns[k]'(by omega)) (by omega) (by omega)).mono ?_
      rintro e w2 ⟨rfl, hO2⟩
      rw [pushed_few (by omega), ← take_cut ns k (by omega)] at hO2
      go_wp2
      go_roundw
      case rel => exact ⟨k + 1, by omega, by go_num, hO2⟩
      case measure => simp [intOf]; omega
    · obtain rfl : len0 = k := by omega
      go_wp2_with fail
      refine (low_any _ _ (by omega) (by omega) _).mono ?_
      rw [HK.out]
      rintro e w2 ⟨rfl, rfl⟩
      go_wp2
      go_loopw [11] (fun i wr => ∃ j : Nat, j ≤ K ∧ i = .int .i64 j ∧ Ok 47 3 w.heap.size w wr w.heap.size 100 (LI (ns.take (len0 - j))) (LI (upto j))) (fun i _ => K - (intOf i).toNat)
      case atStart => exact ⟨0, Nat.zero_le _, rfl, hO⟩
      case round =>
        clear hO
        obtain ⟨j, hj, rfl, hO⟩ := hrel
        by_cases hlt : j < K
        · have et : ns.take (len0 - j) = ns.take (len0 - (j + 1)) ++ [ns[len0 - (j + 1)]'(by omega)] := by
            rw [← take_cut ns (len0 - (j + 1)) (by omega)]
            congr 1
            omega
          rw [et] at hO
          clear et
          have hm : (ns.take (len0 - (j + 1))).length ≤ len0 := by rw [List.length_take]; omega
          have hu : (upto j).length ≤ 60 := by rw [upto_length]; omega
          go_wp2_with fail
          refine (okBackI _ hO (j : Int) (by omega) (by omega)).mono ?_
          rintro e w2 ⟨rfl, hO2⟩
          rw [← upto_succ] at hO2
          go_wp2
          go_roundw
          case rel => exact ⟨j + 1, by omega, by go_num, hO2⟩
          case measure => simp [intOf]; omega
        · obtain rfl : K = j := by omega
          have e3 : (ns.take (len0 - K)).length = len0 - K := by rw [List.length_take]; omega
          have E3 := Lib.hid e3
          clear e3
          go_wp2_with fail
          refine (okManyI hO).mono ?_
          rw [upto_length]
          rintro e w2 ⟨rfl, hO2⟩
          go_wp2_with fail
          refine (okPushI hO2 a2 (by rw [E3.out]; omega) (by omega)).mono ?_
          rintro e w3 ⟨rfl, hO3⟩
          rw [pushed_few (by rw [E3.out]; omega)] at hO3
          go_wp2_with fail
          refine (okForthI_none hO3 7).mono ?_
          rintro e w4 ⟨rfl, hO4⟩
          go_wp2_with fail
          refine (okBackI a2 hO4 8 (by rw [E3.out]; omega) (by simp)).mono ?_
          rintro e w5 ⟨rfl, hO5⟩
          clear hO hO2 hO3 hO4
          go_wp2
          go_loopw [18] (fun i wr => ∃ m : Nat, m ≤ len0 - K ∧ i = .int .i64 ((m : Int) - 1) ∧ SomeFs w wr ns m) (fun i _ => (intOf i + 1).toNat)
          case atStart => exact ⟨len0 - K, Nat.le_refl _, by rw [show ((len0 - K : Nat) : Int) = (len0 : Int) - K by omega], [8], by simp; omega, hO5⟩
          case round =>
            clear hO5
            obtain ⟨m, hm, rfl, fs, hfs, hO⟩ := hrel
            rcases m with _ | m
            · go_wp2_with fail
              refine (okBackI_none hO 0).mono ?_
              rintro e w6 ⟨rfl, hO6⟩
              go_wp2_with fail
              refine (awake_any _).mono ?_
              rintro e w7 ⟨rfl, hb7⟩
              go_wp2
              go_ret
              exact ⟨rfl, bt hO6.below hb7⟩
            · rw [take_cut ns m (by omega)] at hO
              have hc := fun (wx : World) (h : Below w.heap.size w wx) => (h.cell (p := ⟨b, off + m, none⟩) hbl).trans (HC.out m (by omega))
              have hm2 : (ns.take m).length ≤ len0 := by rw [List.length_take]; omega
              have ei : (((m + 1 : Nat) : Int) - 1) = (m : Int) := by omega
              rw [ei]
              clear ei
              go_wp2_with fail
              refine (okBackI _ hO 0 (by omega) (by omega)).mono ?_
              rintro e w6 ⟨rfl, hO6⟩
              have hc6 := hc w6 hO6.below
              clear hc
              go_wp2
              go_roundw
              case rel => exact ⟨m, by omega, rfl, fs ++ [0], by simp; omega, hO6⟩
              case measure => simp [intOf]
end Go.Proofs.Ytjmammphomijfaa.pastPush
