/- The walk of TopLines: whatever the number and the text are, it answers true; nothing that was there has turned. -/
import Derived.Test.YtkeckbmhaplkpaaGreatDoorMEnd
import Derived.WalkKit
import Derived.WalkSpells
import Derived.Lib.Hide
namespace Go.Proofs.YtkeckbmhaplkpaaGreatDoor.Ln
open Go Go.RowKit

def low (x n : Int) : Int := (x % 18446744073709551616) % n
theorem low_bd (x n : Int) (h : 1 ≤ n) : 0 ≤ low x n ∧ low x n < n := by
  unfold low
  exact ⟨Int.emod_nonneg _ (by omega), Int.emod_lt_of_pos _ (by omega)⟩
theorem low_eq (x n : Int) (h1 : 1 ≤ n) (h2 : n ≤ 1048576) : wrap64 ((IntKind.u64.wrap x).tmod n) = low x n := by
  have e : IntKind.u64.wrap x = x % 18446744073709551616 := IntKind.wrap_u64 x
  have h := low_bd x n h1
  unfold low at h ⊢
  rw [e, Int.tmod_eq_emod_of_nonneg (Int.emod_nonneg _ (by omega))]
  generalize x % 18446744073709551616 % n = r at *
  unfold wrap64
  omega
theorem low_any (x n : Int) (h1 : 1 ≤ n) (h2 : n ≤ 1048576) (w : World) :
    Calls Tryz.prog 6 #[.int .i64 x, .int .i64 n] w fun e w' => e = .returned (.int .i64 (low x n)) ∧ w = w' := by
  go_enter Tryz.func6, Tryz.ntmps6
  go_wp2
  go_ret
  exact ⟨congrArg (fun z => Ending.returned (.int .i64 z)) (low_eq x n h1 h2), rfl⟩
theorem byte_bd (s : ByteArray) (k : Nat) (h : k < s.size) : 0 ≤ ((s[k]).toNat : Int) ∧ ((s[k]).toNat : Int) ≤ 255 := by
  have := (s[k]).toNat_lt
  omega
/-- The first k bytes are neither breaks nor blanks nor tabs. -/
def GoodTo (s : ByteArray) (k : Nat) : Prop := ∀ i (h : i < s.size), i < k → s[i] ≠ 9 ∧ s[i] ≠ 10 ∧ s[i] ≠ 32
/-- The runs by the kernel, told of all of them. -/
def Runs : Prop := ∀ many L, many < 12 → L ≤ 10 → RunsTrue (tM many L) (codes L) many ∨ ∀ c, c ≤ 3 → c ≤ L → RunsTrue (tMc L c) (codesT (frs c) L) many
theorem tail_of {many : Nat} {s : ByteArray} (hx : RunsTrue (tM many s.size) (codes s.size) many ∨ ∀ c, c ≤ 3 → c ≤ s.size → RunsTrue (tMc s.size c) (codesT (frs c) s.size) many) (hg : Good s) (c : Code) (hc : c = c4)
    (A : Act) (w : World) (h1 : A.tmps.getD 1 undef = .string s) (h6 : A.tmps.getD 6 undef = .int .i64 ((many + 1 : Nat) : Int)) (hd : A.defers = []) (hz : 121 ≤ A.tmps.size)
    (Q : Exit → Act → World → Prop) (hQ : ∀ A' w', A'.tmps.getD 4 undef = .bool true → A'.defers = [] → Below w.heap.size w w' → Q .ret A' w') : c.wp Tryz.prog Q A w := by
  subst hc
  rcases hx with hx | hx
  · exact tail_c hx (tM_ok many s.size) hg (codes_byte s hg) (Φ := Any) trivial A w h1 h6 hd hz Q hQ
  · obtain ⟨c, h3, hl, hf⟩ := factC_of (symOf s) s.size
    exact tail_c (hx c h3 hl) (tMc_ok s.size c) hg (codesT_byte s hg hf.1) hf A w h1 h6 hd hz Q hQ
set_option maxRecDepth 100000 in
set_option maxHeartbeats 2000000 in
theorem walk_of (hR : Runs) (a0 : Int) (s : ByteArray) (w : World) : Calls Tryz.prog 4 #[.int .i64 a0, .string s] w fun e w' => e = .returned (.bool true) ∧ Below w.heap.size w w' := by
  have HR := Lib.hid hR
  clear hR
  go_enter Tryz.func4, Tryz.ntmps4
  refine wp_seq_k fun K hK => ?_
  have HK := Lib.hid hK
  clear hK
  go_wp2
  refine HK.out _ _ ?_
  clear HK
  refine wp_seq_k fun K hK => ?_
  have HK := Lib.hid hK
  clear hK
  by_cases hs : s.size ≤ 10
  · go_wp2
    refine HK.out _ _ ?_
    clear HK
    refine wp_seq_k fun K hK => ?_
    have HK := Lib.hid hK
    clear hK
    go_wp2
    go_loopw [5] (fun i wr => ∃ k : Nat, k ≤ s.size ∧ i = .int .i64 k ∧ Hid (GoodTo s k) ∧ w = wr) (fun i _ => s.size - (intOf i).toNat)
    case atStart => exact ⟨0, Nat.zero_le _, rfl, Lib.hid fun i h hi => absurd hi (by omega), rfl⟩
    case round =>
      obtain ⟨k, hk, rfl, hG, rfl⟩ := hrel
      by_cases hlt : k < s.size
      · have hbt := byte_bd s k hlt
        cases h1 : (((s[k]).toNat : Int) == 10)
        · cases h2 : (((s[k]).toNat : Int) == 9)
          · cases h3 : (((s[k]).toNat : Int) == 32)
            · have N := Lib.hid (show GoodTo s (k + 1) from fun i h hi => by
                by_cases hik : i < k
                · exact hG.out i h hik
                · obtain rfl : i = k := by omega
                  have a1 : ¬ ((s[i].toNat : Int) = 10) := by simpa using h1
                  have a2 : ¬ ((s[i].toNat : Int) = 9) := by simpa using h2
                  have a3 : ¬ ((s[i].toNat : Int) = 32) := by simpa using h3
                  refine ⟨fun e => a2 (by rw [e]; rfl), fun e => a1 (by rw [e]; rfl), fun e => a3 (by rw [e]; rfl)⟩)
              go_wp2
              go_roundw
              case rel => exact ⟨k + 1, by omega, by go_num, N, trivial⟩
              case measure => simp [intOf]; omega
            · go_wp2_with fail
              refine (awake_c _).mono ?_
              rintro e w1 ⟨rfl, hb⟩
              go_wp2
              go_ret
              exact ⟨rfl, hb⟩
          · go_wp2_with fail
            refine (awake_c _).mono ?_
            rintro e w1 ⟨rfl, hb⟩
            go_wp2
            go_ret
            exact ⟨rfl, hb⟩
        · go_wp2_with fail
          refine (awake_c _).mono ?_
          rintro e w1 ⟨rfl, hb⟩
          go_wp2
          go_ret
          exact ⟨rfl, hb⟩
      · obtain rfl : k = s.size := by omega
        go_wp2
        refine HK.out _ _ ?_
        clear HK
        refine wp_seq_k fun K hK => ?_
        have HK := Lib.hid hK
        clear hK
        have lb := low_bd a0 12 (by omega)
        go_wp2_with fail
        refine (low_any _ _ (by omega) (by omega) _).mono ?_
        rintro e w1 ⟨rfl, rfl⟩
        obtain ⟨m, hm⟩ : ∃ m : Nat, low a0 12 = m := ⟨(low a0 12).toNat, by omega⟩
        rw [hm] at lb ⊢
        clear hm
        go_wp2
        refine HK.out _ _ ?_
        clear HK
        have good : Good s := fun c hc => by
          obtain ⟨i, hi, rfl⟩ := List.getElem_of_mem hc
          have hi' : i < s.size := by simpa using hi
          obtain ⟨g1, g2, g3⟩ := hG.out i hi' hi'
          have e : s.data.toList[i] = s[i] := rfl
          rw [e]
          exact ⟨g1, g2, g3⟩
        have w1 : wrap64 (1 + (m : Int)) = ((m + 1 : Nat) : Int) := by unfold wrap64; omega
        refine tail_of (HR.out m s.size (by omega) hs) good _ (by kernel_rfl) _ _ rfl ?_ rfl (by simp) _ fun A' w' h4 hd hb => ?_
        · refine congrArg (Value.int .i64) ?_
          first
            | exact w1
            | omega
        · refine bodyPost_ret (results_tmp rfl _ _ _) hd ⟨?_, hb⟩
          rw [h4]
  · go_wp2_with fail
    refine (awake_c _).mono ?_
    rintro e w1 ⟨rfl, hb⟩
    go_wp2
    go_ret
    exact ⟨rfl, hb⟩
end Go.Proofs.YtkeckbmhaplkpaaGreatDoor.Ln
