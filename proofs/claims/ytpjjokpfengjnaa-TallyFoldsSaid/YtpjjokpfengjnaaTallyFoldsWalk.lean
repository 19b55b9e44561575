/- The walk of TallyFolds: whatever the texts, it answers true; nothing that was there has turned. -/
import Derived.Test.YtpjjokpfengjnaaFold
namespace Go.Proofs.Ytpjjokpfengjnaa.tallyFolds
open Go.RowKit Go.Sort
open M

abbrev Ls (L : List ByteArray) : List (List UInt8) := L.map (fun l => l.data.toList)
/-- The slice is empty; or it leads to texts. -/
def IsTexts (w : World) (a : Option Addr) (len : Nat) (L : List ByteArray) : Prop :=
  L.length = len ∧ len ≤ maxLen ∧ (len = 0 ∨ ∃ b off : Nat, a = some ⟨b, off, none⟩ ∧ b < w.heap.size ∧ ∀ i (h : i < L.length), w.cell? ⟨b, off + i, none⟩ = some (.string L[i]))
theorem sz (s : ByteArray) : s.data.toList.length = s.size := by simp
theorem take_next (L : List ByteArray) (k : Nat) (h : k < L.length) : Ls (L.take (k + 1)) = Ls (L.take k) ++ [L[k].data.toList] := by
  rw [Ls, List.take_succ_eq_append_getElem h, List.map_append]; rfl
theorem flat_next (L : List ByteArray) (k : Nat) (h : k < L.length) : (Ls (L.take (k + 1))).flatten = (Ls (L.take k)).flatten ++ L[k].data.toList := by
  rw [take_next L k h, List.flatten_append]; simp
theorem flat_part (L : List ByteArray) (k : Nat) : (Ls (L.take k)).flatten.length ≤ (Ls L).flatten.length := by
  conv => rhs; rw [← List.take_append_drop k L, Ls, List.map_append, List.flatten_append, List.length_append]
  exact Nat.le_add_right _ _
set_option maxHeartbeats 1000000 in
theorem long_some (b off cap n : Nat) (L : List ByteArray) (w : World) (hL : L.length = n) (hn : n ≤ 30) (hR : ∀ i (h : i < L.length), w.cell? ⟨b, off + i, none⟩ = some (.string L[i])) :
    Calls Try.prog 20 #[.int .i64 300, .slice (some ⟨b, off, none⟩) n cap] w fun e w' => (∃ y : Bool, e = .returned (.bool y) ∧ (y = false → (Ls L).flatten.length ≤ 300)) ∧ w = w' := by
  have HL := Lib.hid hL
  clear hL
  go_enter Try.func20, Try.ntmps20
  go_wp2
  go_loopw [0, 5] (fun m i wr => ∃ (k : Nat) (x : Int), k ≤ n ∧ i = .int .i64 k ∧ m = .int .i64 x ∧ 0 ≤ x ∧ x ≤ 300 ∧ x + ((Ls (L.take k)).flatten.length : Int) ≤ 300 ∧ wr = w) (fun _ i _ => n - (intOf i).toNat)
  case atStart => exact ⟨0, 300, Nat.zero_le _, rfl, rfl, by omega, by omega, by simp, rfl⟩
  case round =>
    obtain ⟨k, x, hk, rfl, rfl, hx0, hx1, hx2, rfl⟩ := hrel
    by_cases hlt : k < n
    · have hkl : k < L.length := by rw [HL.out]; exact hlt
      have c0 := hR k hkl
      have nx := congrArg List.length (flat_next L k hkl)
      rw [List.length_append, sz] at nx
      generalize hs : L[k] = s at *
      generalize (Ls (L.take k)).flatten.length = F at *
      have NX := Lib.hid nx
      clear hs nx hR
      by_cases hb : x ≤ (s.size : Int)
      · go_wp2
        go_ret
        exact ⟨⟨true, rfl, fun h => by cases h⟩, rfl⟩
      · have hb' : decide (x ≤ (s.size : Int)) = false := by simp; omega
        go_wp2
        go_roundw
        case rel => exact ⟨k + 1, x - s.size - 1, by omega, by go_num, rfl, by omega, by omega, by rw [NX.out]; omega, trivial⟩
        case measure => simp [intOf]; omega
    · obtain rfl : n = k := by omega
      rw [List.take_of_length_le (by rw [HL.out]; exact Nat.le_refl _)] at hx2
      have HX := Lib.hid hx2
      clear hx2
      go_wp2
      go_ret
      exact ⟨⟨false, rfl, fun _ => by have := HX.out; omega⟩, rfl⟩
theorem long_none (a : Option Addr) (cap : Nat) (w : World) :
    Calls Try.prog 20 #[.int .i64 300, .slice a 0 cap] w fun e w' => (∃ y : Bool, e = .returned (.bool y) ∧ (y = false → (Ls []).flatten.length ≤ 300)) ∧ w = w' := by
  go_enter Try.func20, Try.ntmps20
  go_wp2
  go_loopw [5] (fun i wr => i = .int .i64 0 ∧ wr = w) (fun _ _ => 0)
  case atStart => exact ⟨rfl, rfl⟩
  case round =>
    obtain ⟨rfl, rfl⟩ := hrel
    go_wp2
    go_ret
    exact ⟨⟨false, rfl, fun _ => Nat.zero_le _⟩, rfl⟩
theorem long_any (a : Option Addr) (cap n : Nat) (L : List ByteArray) (w : World) (h : IsTexts w a n L) (hn : n ≤ 30) :
    Calls Try.prog 20 #[.int .i64 300, .slice a n cap] w fun e w' => (∃ y : Bool, e = .returned (.bool y) ∧ (y = false → (Ls L).flatten.length ≤ 300)) ∧ w = w' := by
  obtain ⟨hL, _, rfl | ⟨b, off, rfl, _, hR⟩⟩ := h
  · obtain rfl := List.length_eq_zero_iff.1 hL
    exact long_none a cap w
  · exact long_some b off cap n L w hL hn hR
theorem Try.info24 : (Try.prog.info? 24).map (fun i => (i.zero, i.size, i.bytes)) = some (some (.agg #[.int .i64 0, .int .i64 0, .int .i64 0, .int .i64 0]), 4, 32) := by kernel_rfl
theorem of_all (A : ByteArray) (Q : List (List UInt8)) (w : World) (h : A.data.toList = Q.flatten) (hQ : Q.flatten.length ≤ 1048576) :
    Calls Try.prog 12 #[.string A] w fun e w' =>
      e = .returned (.agg #[.int .i64 (tot one Q.flatten), .int .i64 (tot wK Q.flatten), .int .i64 (tot wR Q.flatten), .int .i64 (tot wU Q.flatten)]) ∧ Below w.heap.size w w' := by
  have h2 := of_any A w (by rw [← sz, h]; exact hQ)
  rwa [h] at h2
theorem own_below {w w' : World} {base e size n : Nat} {v : Value} {xs : List Value} (h : w.ownsRow base e size v n xs) (hb : Below w.heap.size w w') : w'.ownsRow base e size v n xs := by
  refine h.kept (row := some w.heap.size) ⟨hb.os, hb.tape, hb.output, hb.size, fun q hq _ => hb.block q hq⟩ ?_
  cases hv : v.ownBlock with
  | none => exact .inl rfl
  | some q =>
    right
    intro e
    have := (h.lt q hv).2
    injection e with e
    omega
/-- What k rounds have laid: the texts one behind the other; the tallies' row. -/
def Rf (W : World) (L : List ByteArray) (k : Nat) (A : ByteArray) (v : Value) (wr : World) : Prop :=
  A.data.toList = (Ls (L.take k)).flatten ∧ wr.ownsRow W.heap.size 24 4 v k (T4 (Ls (L.take k))) ∧ Below W.heap.size W wr

set_option maxHeartbeats 4000000 in
theorem walk (a0 : Option Addr) (n0 c0 : Nat) (L : List ByteArray) (w : World) (hT : IsTexts w a0 n0 L) :
    Calls Try.prog 9 #[.slice a0 n0 c0] w fun e w' => e = .returned (.bool true) ∧ Below w.heap.size w w' := by
  have hmax := hT.2.1
  unfold maxLen at hmax
  by_cases hn : 30 < n0
  · clear hT
    go_enter Try.func9, Try.ntmps9
    go_wp2_with fail
    refine (awake_any _).mono ?_
    rintro e w1 ⟨rfl, hb1⟩
    go_wp2
    go_ret
    exact ⟨rfl, hb1⟩
  have hn' : decide (30 < (n0 : Int)) = false := by simp; omega
  have hlong := Lib.hid (long_any a0 c0 n0 L w hT (by omega))
  obtain ⟨i0, hi, hz0, hz1, hz2⟩ := info_parts Try.info24
  have hst : Rf w L 0 ⟨#[]⟩ (.slice none 0 0) w := ⟨by simp, World.ownsRow_nil _ _ _ _, Below.refl _ _⟩
  have HS := Lib.hid hst
  have HT := Lib.hid hT
  clear hst hT
  go_enter Try.func9, Try.ntmps9
  go_wp2_with fail
  refine hlong.out.mono ?_
  rintro e w1 ⟨⟨y, rfl, hy⟩, rfl⟩
  cases y
  · have hF := hy rfl
    clear hy
    go_wp2
    go_loopw [3, 4, 5] (fun s v i wr => ∃ (k : Nat) (A : ByteArray), k ≤ n0 ∧ i = .int .i64 k ∧ s = .string A ∧ Rf w L k A v wr) (fun _ _ i _ => n0 - (intOf i).toNat)
    case atStart => exact ⟨0, _, Nat.zero_le _, rfl, rfl, HS.out⟩
    case round =>
      obtain ⟨k, A, hk, rfl, rfl, hA, ho, hb⟩ := hrel
      have hfp := flat_part L k
      have hAs : A.size ≤ 300 := by rw [← sz, hA]; omega
      by_cases hlt : k < n0
      · have hkl : k < L.length := by rw [HT.out.1]; exact hlt
        obtain ⟨b, off, rfl, hbl, hR⟩ : ∃ b off : Nat, a0 = some ⟨b, off, none⟩ ∧ b < w.heap.size ∧ ∀ i (h : i < L.length), w.cell? ⟨b, off + i, none⟩ = some (.string L[i]) := by
          rcases HT.out.2.2 with h | h
          · omega
          · exact h
        have e0 := (hb.cell (p := ⟨b, off + k, none⟩) hbl).trans (hR k hkl)
        have hfn := flat_next L k hkl
        have htn := take_next L k hkl
        have hfp1 := flat_part L (k + 1)
        have hls := congrArg List.length hfn
        rw [List.length_append, sz] at hls
        have hts : (L[k]).size ≤ 300 := by omega
        generalize hx : L[k] = t at *
        have HFN := Lib.hid hfn
        have HTN := Lib.hid htn
        have HA := Lib.hid hA
        have hsz := hb.size
        clear hfn htn hA hR hls hfp hfp1 hx hkl
        go_wp2_with fail
        refine (of_any t _ (by omega)).mono ?_
        rintro e w2 ⟨rfl, hb2⟩
        have ho2 := own_below ho hb2
        have hb2' := bt hb hb2
        have hsz2 := hb2'.size
        clear ho hb
        go_wp2_with (at_builtin; refine wpList_append_own _ rfl _ _ 39 rfl w.heap.size 24 i0 _ 4 32 Try.underlying39 hi hz0 hz1 hz2 rfl (by decide) _ _ _ rfl (ho2.alloc _) ⟨w2.heap.size, 0, none⟩ 1 1 [.int .i64 (tot one t.data.toList), .int .i64 (tot wK t.data.toList), .int .i64 (tot wR t.data.toList), .int .i64 (tot wU t.data.toList)] rfl rfl ?c1 ?c2 ?c3 ?c4 ?c5 ?_)
        case c1 =>
          intro j u hj
          match j, hj with
          | 0, hj => simp at hj; subst hj; simp [Addr.add]
          | 1, hj => simp at hj; subst hj; simp [Addr.add]
          | 2, hj => simp at hj; subst hj; simp [Addr.add]
          | 3, hj => simp at hj; subst hj; simp [Addr.add]
        case c2 => intro u hu; simp at hu; rcases hu with rfl | rfl | rfl | rfl <;> rfl
        case c3 => unfold maxLen; omega
        case c4 => omega
        case c5 => simp; omega
        intro v' w3 hown' hgrow _
        have hb3 : Below w.heap.size w w3 := (hb2'.alloc hsz2 _).grown hgrow (by simp; omega) (fun q hq => (ho2.lt q hq).1)
        have hR3 : Rf w L (k + 1) (A ++ t) v' w3 := ⟨by rw [ByteArray.data_append, Array.toList_append, HFN.out, HA.out], by rw [HTN.out, T4_snoc, Ls, List.map_take]; exact hown', hb3⟩
        clear hown' hgrow ho2 hb3 hb2'
        go_wp2
        go_roundw
        case rel => exact ⟨k + 1, _, by omega, by go_num, rfl, hR3⟩
        case measure => simp [intOf]; omega
      · obtain rfl : n0 = k := by omega
        have e1 : L.take n0 = L := List.take_of_length_le (by rw [HT.out.1]; exact Nat.le_refl _)
        rw [e1] at hA ho
        have hlen : (Ls L).length = n0 := by rw [List.length_map]; exact HT.out.1
        have HA := Lib.hid hA
        have hQ : (Ls L).flatten.length ≤ 1048576 := by omega
        have hfo := fold_own (Ls L) _ w.heap.size wr (by rw [hlen]; exact ho) hQ (by omega)
        have HFO := Lib.hid hfo
        clear hA ho hfo hlen hfp e1
        generalize hq : Ls L = Q at *
        have HQ2 := Lib.hid hQ
        clear hq hF hQ
        go_wp2_with fail
        refine HFO.out.mono ?_
        rintro e w2 ⟨rfl, hb2⟩
        go_wp2_with fail
        refine (of_all A Q _ HA.out HQ2.out).mono ?_
        rintro e w3 ⟨rfl, hb3⟩
        go_wp2_with fail
        refine (fold_nil _).mono ?_
        rintro e w4 ⟨rfl, hb4⟩
        go_wp2_with fail
        refine (awake_any _).mono ?_
        rintro e w5 ⟨rfl, hb5⟩
        go_wp2
        go_ret
        exact ⟨rfl, bt (bt (bt (bt hb hb2) hb3) hb4) hb5⟩
  · clear hy
    go_wp2_with fail
    refine (awake_any _).mono ?_
    rintro e w2 ⟨rfl, hb2⟩
    go_wp2
    go_ret
    exact ⟨rfl, hb2⟩
end Go.Proofs.Ytpjjokpfengjnaa.tallyFolds
