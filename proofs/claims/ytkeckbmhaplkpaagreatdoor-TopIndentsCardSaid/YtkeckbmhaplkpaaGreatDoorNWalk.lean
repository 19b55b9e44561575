/- The walk of TopIndents: whatever the numbers and the texts are, it answers true; nothing that was there has turned. -/
import Derived.Test.YtkeckbmhaplkpaaGreatDoorNEnd
import Derived.WalkKit
import Derived.WalkSpells
import Derived.OpenShut
import Derived.Lib.Hide
namespace Go.Proofs.YtkeckbmhaplkpaaGreatDoor.Ln
open Go Go.RowKit

def low (x n : Int) : Int := (x % 18446744073709551616) % n
theorem low_bd (x n : Int) (h : 1 ≤ n) : 0 ≤ low x n ∧ low x n < n := by
  unfold low
  exact ⟨Int.emod_nonneg _ (by omega), Int.emod_lt_of_pos _ (by omega)⟩
theorem low_eq (x n : Int) (h1 : 1 ≤ n) (h2 : n ≤ 1048576) : wrap64 ((IntKind.u64.wrap x).tmod n) = low x n := by
  have e : IntKind.u64.wrap x = x % 18446744073709551616 := IntKind.wrap_u64 x
  have h := low_bd x n h1
  unfold low at h ⊢
  rw [e, Int.tmod_eq_emod_of_nonneg (Int.emod_nonneg _ (by omega))]
  generalize x % 18446744073709551616 % n = r at *
  unfold wrap64
  omega
theorem low_any (x n : Int) (h1 : 1 ≤ n) (h2 : n ≤ 1048576) (w : World) :
    Calls Tryz.prog 6 #[.int .i64 x, .int .i64 n] w fun e w' => e = .returned (.int .i64 (low x n)) ∧ w = w' := by
  go_enter Tryz.func6, Tryz.ntmps6
  go_wp2
  go_ret
  exact ⟨congrArg (fun z => Ending.returned (.int .i64 z)) (low_eq x n h1 h2), rfl⟩
/-- The slice is nil; or it leads to a row of 'cap' cells, the numbers 'zs' (the first 'len' are its elements, the rest its spare room), each fitting its kind. -/
def IsRow (k : IntKind) (w : World) (a : Option Addr) (len cap : Nat) (zs : List Int) : Prop :=
  (a = none ∧ len = 0 ∧ cap = 0 ∧ zs = []) ∨
  ∃ x, a = some x ∧ len ≤ cap ∧ cap ≤ maxLen ∧ zs.length = cap ∧ (∀ i, i < zs.length → w.cell? (x.add i) = some (.int k (zs.getD i 0))) ∧ ∀ n ∈ zs, (Lit.int k n).wf = true
/-- Where there is an element: the address written out, the elements' cells. -/
theorem IsRow.open_ {k : IntKind} {w : World} {a : Option Addr} {len cap : Nat} {zs : List Int} (h : IsRow k w a len cap zs) (hl : 0 < len) :
    ∃ b off, a = some ⟨b, off, none⟩ ∧ b < w.heap.size ∧ ∃ ns : List Int, ns.length = len ∧ ∀ i (hi : i < ns.length), w.cell? ⟨b, off + i, none⟩ = some (.int k ns[i]) := by
  rcases h with ⟨_, h0, _⟩ | ⟨x, rfl, h1, h2, h3, h4, h5⟩
  · omega
  · obtain ⟨b, off, spot⟩ := x
    have hc := h4 0 (by omega)
    have hspot : spot = none := by simpa [Addr.add] using World.cell?_spot hc
    subst hspot
    refine ⟨b, off, rfl, World.block_lt_of_cell? w _ hc, zs.take len, by simp; omega, fun i hi => ?_⟩
    have h6 := h4 i (by simp at hi; omega)
    rw [Addr.add_lit] at h6
    rw [h6]
    simp at hi
    simp [List.getD_eq_getElem?_getD, List.getElem?_eq_getElem (show i < zs.length by omega)]
/-- k blanks and tabs. -/
def InTo (k : Nat) (v : Value) : Prop := ∃ bs : List UInt8, bs.length = k ∧ Bl bs ∧ v = .string ⟨bs.toArray⟩
theorem InTo.next {k : Nat} {bs : List UInt8} (h1 : bs.length = k) (h2 : Bl bs) {c : UInt8} (hc : c = 9 ∨ c = 32) : InTo (k + 1) (.string ⟨(bs ++ [c]).toArray⟩) :=
  ⟨bs ++ [c], by simp [h1], fun x hx => by
    rw [List.mem_append] at hx
    rcases hx with hx | hx
    · exact h2 x hx
    · simp at hx; rw [hx]; exact hc, rfl⟩
theorem app_one (bs : List UInt8) (c : UInt8) : (⟨bs.toArray⟩ ++ ⟨#[c]⟩ : ByteArray) = ⟨(bs ++ [c]).toArray⟩ := by
  apply ByteArray.ext
  simp
theorem app32 (bs : List UInt8) : (⟨bs.toArray⟩ ++ ((⟨#[32, 9]⟩ : ByteArray).extract 0 2).extract 0 1 : ByteArray) = ⟨(bs ++ [32]).toArray⟩ := app_one bs 32
theorem app9 (bs : List UInt8) : (⟨bs.toArray⟩ ++ ((⟨#[32, 9]⟩ : ByteArray).extract 1 2).extract 0 1 : ByteArray) = ⟨(bs ++ [9]).toArray⟩ := app_one bs 9
set_option maxRecDepth 100000 in
set_option maxHeartbeats 2000000 in
theorem walk_some (hR : Runs) (b off len cap : Nat) (ns : List Int) (hn : ns.length = len) (u s : ByteArray) (w : World) (hc : ∀ i (hi : i < ns.length), w.cell? ⟨b, off + i, none⟩ = some (.int .i64 ns[i])) (hl : len ≤ 10) (hu : u.size ≤ 10) (hs : s.size ≤ 60) :
    Calls Tryz.prog 5 #[.slice (some ⟨b, off, none⟩) len cap, .string u, .string s] w fun e w' => e = .returned (.bool true) ∧ Below w.heap.size w w' := by
  have HR := Lib.hid hR
  have HC := Lib.hid hc
  have g1 : decide ((10 : Int) < (len : Int)) = false := by simp; omega
  have g2 : decide ((10 : Int) < (u.size : Int)) = false := by simp; omega
  have g3 : decide ((60 : Int) < (s.size : Int)) = false := by simp; omega
  clear hR hc
  go_enter Tryz.func5, Tryz.ntmps5
  refine wp_seq_k fun K hK => ?_
  have HK := Lib.hid hK
  clear hK
  go_wp2
  refine HK.out _ _ ?_
  clear HK
  refine wp_seq_k fun K hK => ?_
  have HK := Lib.hid hK
  clear hK
  go_wp2
  refine HK.out _ _ ?_
  clear HK
  refine wp_seq_k fun K hK => ?_
  have HK := Lib.hid hK
  clear hK
  go_wp2
  refine HK.out _ _ ?_
  clear HK
  refine wp_seq_k fun K hK => ?_
  have HK := Lib.hid hK
  clear hK
  go_wp2
  clear g1 g2 g3
  go_loopw [7, 8] (fun v i wr => ∃ k : Nat, k ≤ len ∧ i = .int .i64 k ∧ Hid (InTo k v) ∧ wr = w) (fun _ i _ => len - (intOf i).toNat)
  case atStart => exact ⟨0, Nat.zero_le _, rfl, Lib.hid ⟨[], rfl, (fun c hc => by cases hc), rfl⟩, rfl⟩
  case round =>
    obtain ⟨k, hk, rfl, hI, rfl⟩ := hrel
    by_cases hlt : k < len
    · obtain ⟨bs, b1, b2, rfl⟩ := hI.out
      have c0 := HC.out k (by omega)
      obtain ⟨z, hz⟩ : ∃ z, ns[k]'(by omega) = z := ⟨_, rfl⟩
      rw [hz] at c0
      have lb := low_bd z 2 (by omega)
      clear hI hz
      go_wp2_with fail
      refine (low_any z 2 (by omega) (by omega) _).mono ?_
      rintro e w1 ⟨rfl, rfl⟩
      obtain ⟨m, hm⟩ : ∃ m : Nat, low z 2 = m := ⟨(low z 2).toNat, by omega⟩
      rw [hm] at lb ⊢
      clear hm
      obtain rfl | rfl : m = 0 ∨ m = 1 := by omega
      · go_wp2
        go_roundw
        case rel => exact ⟨k + 1, by omega, by go_num, Lib.hid (by rw [app32]; exact InTo.next b1 b2 (.inr rfl)), trivial⟩
        case measure => simp [intOf]; omega
      · go_wp2
        go_roundw
        case rel => exact ⟨k + 1, by omega, by go_num, Lib.hid (by rw [app9]; exact InTo.next b1 b2 (.inl rfl)), trivial⟩
        case measure => simp [intOf]; omega
    · obtain rfl : k = len := by omega
      obtain ⟨bs, b1, b2, rfl⟩ := hI.out
      go_wp2
      refine HK.out _ _ ?_
      clear HK
      refine tail_of HR.out b2 (by omega) u s hu hs _ (by kernel_rfl) _ _ rfl rfl rfl rfl (by simp) _ fun A' w' h6 hd hb => ?_
      refine bodyPost_ret (results_tmp rfl _ _ _) hd ⟨?_, hb⟩
      rw [h6]
set_option maxRecDepth 100000 in
set_option maxHeartbeats 2000000 in
theorem walk_none (hR : Runs) (a : Option Addr) (cap : Nat) (u s : ByteArray) (w : World) (hu : u.size ≤ 10) (hs : s.size ≤ 60) :
    Calls Tryz.prog 5 #[.slice a 0 cap, .string u, .string s] w fun e w' => e = .returned (.bool true) ∧ Below w.heap.size w w' := by
  have HR := Lib.hid hR
  have g2 : decide ((10 : Int) < (u.size : Int)) = false := by simp; omega
  have g3 : decide ((60 : Int) < (s.size : Int)) = false := by simp; omega
  clear hR
  go_enter Tryz.func5, Tryz.ntmps5
  refine wp_seq_k fun K hK => ?_
  have HK := Lib.hid hK
  clear hK
  go_wp2
  refine HK.out _ _ ?_
  clear HK
  refine wp_seq_k fun K hK => ?_
  have HK := Lib.hid hK
  clear hK
  go_wp2
  refine HK.out _ _ ?_
  clear HK
  refine wp_seq_k fun K hK => ?_
  have HK := Lib.hid hK
  clear hK
  go_wp2
  refine HK.out _ _ ?_
  clear HK
  refine wp_seq_k fun K hK => ?_
  have HK := Lib.hid hK
  clear hK
  go_wp2
  clear g2 g3
  go_loopw [7, 8] (fun v i wr => i = .int .i64 0 ∧ v = .string ⟨#[]⟩ ∧ wr = w) (fun _ _ _ => 0)
  case atStart => exact ⟨rfl, rfl, rfl⟩
  case round =>
    obtain ⟨rfl, rfl, rfl⟩ := hrel
    go_wp2
    refine HK.out _ _ ?_
    clear HK
    refine tail_of (bs := []) HR.out (fun c hc => by cases hc) (by simp) u s hu hs _ (by kernel_rfl) _ _ rfl rfl rfl rfl (by simp) _ fun A' w' h6 hd hb => ?_
    refine bodyPost_ret (results_tmp rfl _ _ _) hd ⟨?_, hb⟩
    rw [h6]
set_option maxRecDepth 100000 in
set_option maxHeartbeats 2000000 in
theorem walk_long (a : Option Addr) (len cap : Nat) (u s : ByteArray) (w : World) (h : ¬ (len ≤ 10 ∧ u.size ≤ 10 ∧ s.size ≤ 60)) :
    Calls Tryz.prog 5 #[.slice a len cap, .string u, .string s] w fun e w' => e = .returned (.bool true) ∧ Below w.heap.size w w' := by
  by_cases h1 : len ≤ 10
  · have g1 : decide ((10 : Int) < (len : Int)) = false := by simp; omega
    by_cases h2 : u.size ≤ 10
    · have g2 : decide ((10 : Int) < (u.size : Int)) = false := by simp; omega
      have g3 : decide ((60 : Int) < (s.size : Int)) = true := by simp; omega
      clear h h1 h2
      go_enter Tryz.func5, Tryz.ntmps5
      go_wp2_with fail
      refine (awake_c _).mono ?_
      rintro e w1 ⟨rfl, hb⟩
      go_wp2
      go_ret
      exact ⟨rfl, hb⟩
    · have g2 : decide ((10 : Int) < (u.size : Int)) = true := by simp; omega
      clear h h1 h2
      go_enter Tryz.func5, Tryz.ntmps5
      go_wp2_with fail
      refine (awake_c _).mono ?_
      rintro e w1 ⟨rfl, hb⟩
      go_wp2
      go_ret
      exact ⟨rfl, hb⟩
  · have g1 : decide ((10 : Int) < (len : Int)) = true := by simp; omega
    clear h h1
    go_enter Tryz.func5, Tryz.ntmps5
    go_wp2_with fail
    refine (awake_c _).mono ?_
    rintro e w1 ⟨rfl, hb⟩
    go_wp2
    go_ret
    exact ⟨rfl, hb⟩
theorem walk_of (hR : Runs) (a : Option Addr) (len cap : Nat) (zs : List Int) (u s : ByteArray) (w : World) (hr : IsRow .i64 w a len cap zs) :
    Calls Tryz.prog 5 #[.slice a len cap, .string u, .string s] w fun e w' => e = .returned (.bool true) ∧ Below w.heap.size w w' := by
  by_cases h : len ≤ 10 ∧ u.size ≤ 10 ∧ s.size ≤ 60
  · by_cases hl : 0 < len
    · obtain ⟨b, off, rfl, _, ns, hn, hc⟩ := hr.open_ hl
      exact walk_some hR b off len cap ns hn u s w hc h.1 h.2.1 h.2.2
    · obtain rfl : len = 0 := by omega
      exact walk_none hR a cap u s w h.2.1 h.2.2
  · exact walk_long a len cap u s w h
end Go.Proofs.YtkeckbmhaplkpaaGreatDoor.Ln
