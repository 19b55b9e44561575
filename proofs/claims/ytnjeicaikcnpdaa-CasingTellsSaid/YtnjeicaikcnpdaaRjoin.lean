/- The reference's Turn at Camel and Pascal: the words' heads turned, one behind the other. -/
import Derived.Test.YtnjeicaikcnpdaaRturn
namespace Go.Proofs.Ytnjeicaikcnpdaa
open Go.RowKit
open M

/-- What is written behind i words. -/
def O (small : Bool) (L : List ByteArray) (i : Nat) : ByteArray := ⟨(hds small true (Ls (L.take i))).toArray⟩
/-- A word, its head turned. -/
def T1 (f : UInt8 → UInt8) (m : ByteArray) : ByteArray := ⟨(hd1 f m.data.toList).toArray⟩
theorem O_zero (small : Bool) (L : List ByteArray) : O small L 0 = ⟨#[]⟩ := by simp [O, Ls, hds]
theorem O_next (small : Bool) (L : List ByteArray) (i : Nat) (h : i < L.length) : O small L (i + 1) = O small L i ++ T1 (how (small && decide (i = 0))) L[i] := by
  unfold O T1
  apply ByteArray.ext
  rw [ByteArray.data_append]
  show (hds small true (Ls (L.take (i + 1)))).toArray = (hds small true (Ls (L.take i))).toArray ++ (hd1 _ L[i].data.toList).toArray
  rw [List.take_succ_eq_append_getElem h, show Ls (L.take i ++ [L[i]]) = Ls (L.take i) ++ [L[i].data.toList] from List.map_append, hds_snoc]
  have e : (Ls (L.take i)).isEmpty = decide (i = 0) := by
    cases i with
    | zero => simp [Ls]
    | succ j =>
      cases L with
      | nil => simp at h
      | cons a r => simp [Ls]
  rw [e, Bool.true_and]
  simp
theorem O_size (small : Bool) (L : List ByteArray) (i : Nat) : (O small L i).size ≤ (Ls L).flatten.length := by
  show (hds small true (Ls (L.take i))).toArray.size ≤ _
  rw [List.size_toArray, hds_len]
  conv => rhs; rw [← List.take_append_drop i L, Ls, List.map_append, List.flatten_append, List.length_append]
  exact Nat.le_add_right _ _
theorem O_done (small : Bool) (s : ByteArray) (L : List ByteArray) (h : Wk s s.size L) : O small L L.length = ⟨(jn small false true s.data.toList).toArray⟩ := by
  unfold O
  rw [List.take_of_length_le (Nat.le_refl _), h.done, hds_words]
theorem T1_size (f : UInt8 → UInt8) (m : ByteArray) : (T1 f m).size = m.size := by
  show (hd1 f m.data.toList).toArray.size = m.data.size
  rw [List.size_toArray, hd1_len]; simp
theorem word_size (s : ByteArray) (L : List ByteArray) (h : Wk s s.size L) (i : Nat) (hi : i < L.length) : L[i].size ≤ s.size ∧ ∃ c r, L[i].data.toList = c :: r := by
  constructor
  · have h1 := h.sz
    have h2 : L[i].data.toList ∈ Ls L := List.mem_map.2 ⟨_, List.getElem_mem hi, rfl⟩
    have h3 := (List.sublist_flatten_of_mem h2).length_le
    have h4 : L[i].data.toList.length = L[i].size := by simp
    omega
  · have h1 := h.ne L[i].data.toList (List.mem_map.2 ⟨_, List.getElem_mem hi, rfl⟩)
    cases hl : L[i].data.toList with
    | nil => exact absurd hl h1
    | cons c r => exact ⟨c, r, rfl⟩

theorem str_eq {a b : ByteArray} (h : a = b) : Value.string a = Value.string b := by rw [h]
theorem ret_ok {a b : ByteArray} (h : a = b) : Ending.returned (.tuple #[.string a, .int .i64 0]) = Ending.returned (.tuple #[.string b, .int .i64 0]) := by rw [h]
set_option maxRecDepth 100000 in
set_option maxHeartbeats 4000000 in
theorem rturn_words (s : ByteArray) (small : Bool) (w : World) (hs : s.size ≤ 1048576) :
    Calls Try.prog 10 #[.string s, .int .i64 (if small then 4 else 5)] w fun e w' => e = .returned (.tuple #[.string ⟨(jn small false true s.data.toList).toArray⟩, .int .i64 0]) ∧ Below w.heap.size w w' := by
  have hconv := conv_to s w
  have hB := cw_below s w
  cases small
  · go_enter Try.func10, Try.ntmps10
    go_wp2_with fail
    clear hconv
    generalize cw w s = W1 at *
    generalize cap5 w s = cp at *
    refine (words_any s _ hs).mono ?_
    rintro e w1 ⟨v, rfl, L, hW, ho, hb⟩
    have hB1 := bt hB hb
    have hfin := Lib.hid (O_done false s L hW)
    have hwz := Lib.hid (word_size s L hW)
    have hle := hW.le
    have hOs := fun i => Nat.le_trans (O_size false L i) hW.sz
    rcases ho.2 with ⟨rfl, h0⟩ | ⟨g, cap, cur, rfl, hg0, hg1, _⟩
    · have hE : O false L 0 = ⟨#[]⟩ := O_zero _ _
      rw [h0] at hfin
      have HE := Lib.hid hE
      clear ho hW hE hOs hle hb hB hwz h0
      go_wp2
      go_loopw [10, 11] (fun o i wr => o = .string ⟨#[]⟩ ∧ i = .int .i64 0 ∧ wr = w1) (fun _ _ _ => 0)
      case atStart => exact ⟨rfl, rfl, rfl⟩
      case round =>
        obtain ⟨rfl, rfl, rfl⟩ := hrel
        go_wp2
        go_ret2
        exact ⟨ret_ok (HE.out.symm.trans hfin.out), hB1⟩
    · have hrow := fun i (hi : i < L.length) => (ho.cellAt i (by omega)).trans (show (SV L)[i]? = some (.string L[i]) by simp [SV, hi])
      have hg1' : g < w1.heap.size := (ho.lt g rfl).2
      have hlen2 : L.length ≤ 1048576 := by omega
      have HR := Lib.hid hrow
      have HO := Lib.hid hOs
      have hst : O false L 0 = ⟨#[]⟩ := O_zero _ _
      have HS := Lib.hid hst
      clear ho hW hg1 hrow hOs hst hb hB
      go_wp2
      go_loopw [10, 11] (fun o i wr => ∃ k : Nat, k ≤ L.length ∧ i = .int .i64 k ∧ o = .string (O false L k) ∧ Below w1.heap.size w1 wr) (fun _ i _ => L.length - (intOf i).toNat)
      case atStart => exact ⟨0, Nat.zero_le _, rfl, by rw [HS.out], Below.refl _ _⟩
      case round =>
        obtain ⟨k, hk, rfl, rfl, hb⟩ := hrel
        by_cases hlt : k < L.length
        · have nx := O_next false L k hlt
          have c0 := (hb.cell (p := ⟨g, k, none⟩) hg1').trans (HR.out k (by omega))
          obtain ⟨hms, c, r, hcr⟩ := hwz.out k hlt
          have hos := HO.out k
          generalize L[k] = m at *
          generalize O false L k = o at *
          have hconv := conv_to m wr
          have hB2 := cw_below m wr
          have hR := cw_bts m wr
          have hcp := cap5_ge m wr
          rw [hcr] at hR
          have hm1 : (0 : Int) < (m.size : Int) := by
            have : m.data.toList.length = m.size := by simp
            rw [hcr] at this; simp at this; omega
          have hcc := hR.2.1 0 (by simp)
          simp only [List.getElem_cons_zero] at hcc
          have hf := hR.2.2 0 (by simp)
          by_cases h0 : k = 0
          · subst h0
            have hF : (how (false && decide (0 = 0))) = up := rfl
            rw [hF] at nx
            have hn := hR.set 0 (up c) (by simp)
            rw [List.set_cons_zero] at hn
            have hbk := hn.back m.size (cap5 wr m) (by have : m.data.toList.length = m.size := by simp
                                                       rw [hcr] at this; simpa using this)
            rw [show (⟨(up c :: r).toArray⟩ : ByteArray) = T1 up m by unfold T1; rw [hcr]; rfl] at hbk
            have hTs : (T1 up m).size ≤ 1048576 := by rw [T1_size]; omega
            have NX := Lib.hid nx
            clear nx hn hR hF hcr
            go_wp2_with fail
            refine (rup_any c _).mono ?_
            rintro e wa ⟨rfl, rfl⟩
            go_wp2
            go_roundw
            case rel => exact ⟨0 + 1, by omega, by go_num, str_eq NX.out.symm, (bt hb hB2).setCell (p := ⟨wr.heap.size, 0, none⟩) hb.size _⟩
            case measure => simp [intOf]; omega
          · have h0' : ((k : Int) == 0) = false := by simp only [beq_eq_false_iff_ne]; omega
            have hF : (how (false && decide (k = 0))) = up := rfl
            rw [hF] at nx
            have hn := hR.set 0 (up c) (by simp)
            rw [List.set_cons_zero] at hn
            have hbk := hn.back m.size (cap5 wr m) (by have : m.data.toList.length = m.size := by simp
                                                       rw [hcr] at this; simpa using this)
            rw [show (⟨(up c :: r).toArray⟩ : ByteArray) = T1 up m by unfold T1; rw [hcr]; rfl] at hbk
            have hTs : (T1 up m).size ≤ 1048576 := by rw [T1_size]; omega
            have NX := Lib.hid nx
            clear nx hn hR hF hcr
            go_wp2_with fail
            refine (rup_any c _).mono ?_
            rintro e wa ⟨rfl, rfl⟩
            go_wp2
            go_roundw
            case rel => exact ⟨k + 1, by omega, by go_num, str_eq NX.out.symm, (bt hb hB2).setCell (p := ⟨wr.heap.size, 0, none⟩) hb.size _⟩
            case measure => simp [intOf]; omega
        · obtain rfl : L.length = k := by omega
          go_wp2
          go_ret2
          exact ⟨ret_ok hfin.out, hB1.trans (hb.mono hB1.size)⟩
  · go_enter Try.func10, Try.ntmps10
    go_wp2_with fail
    clear hconv
    generalize cw w s = W1 at *
    generalize cap5 w s = cp at *
    refine (words_any s _ hs).mono ?_
    rintro e w1 ⟨v, rfl, L, hW, ho, hb⟩
    have hB1 := bt hB hb
    have hfin := Lib.hid (O_done true s L hW)
    have hwz := Lib.hid (word_size s L hW)
    have hle := hW.le
    have hOs := fun i => Nat.le_trans (O_size true L i) hW.sz
    rcases ho.2 with ⟨rfl, h0⟩ | ⟨g, cap, cur, rfl, hg0, hg1, _⟩
    · have hE : O true L 0 = ⟨#[]⟩ := O_zero _ _
      rw [h0] at hfin
      have HE := Lib.hid hE
      clear ho hW hE hOs hle hb hB hwz h0
      go_wp2
      go_loopw [10, 11] (fun o i wr => o = .string ⟨#[]⟩ ∧ i = .int .i64 0 ∧ wr = w1) (fun _ _ _ => 0)
      case atStart => exact ⟨rfl, rfl, rfl⟩
      case round =>
        obtain ⟨rfl, rfl, rfl⟩ := hrel
        go_wp2
        go_ret2
        exact ⟨ret_ok (HE.out.symm.trans hfin.out), hB1⟩
    · have hrow := fun i (hi : i < L.length) => (ho.cellAt i (by omega)).trans (show (SV L)[i]? = some (.string L[i]) by simp [SV, hi])
      have hg1' : g < w1.heap.size := (ho.lt g rfl).2
      have hlen2 : L.length ≤ 1048576 := by omega
      have HR := Lib.hid hrow
      have HO := Lib.hid hOs
      have hst : O true L 0 = ⟨#[]⟩ := O_zero _ _
      have HS := Lib.hid hst
      clear ho hW hg1 hrow hOs hst hb hB
      go_wp2
      go_loopw [10, 11] (fun o i wr => ∃ k : Nat, k ≤ L.length ∧ i = .int .i64 k ∧ o = .string (O true L k) ∧ Below w1.heap.size w1 wr) (fun _ i _ => L.length - (intOf i).toNat)
      case atStart => exact ⟨0, Nat.zero_le _, rfl, by rw [HS.out], Below.refl _ _⟩
      case round =>
        obtain ⟨k, hk, rfl, rfl, hb⟩ := hrel
        by_cases hlt : k < L.length
        · have nx := O_next true L k hlt
          have c0 := (hb.cell (p := ⟨g, k, none⟩) hg1').trans (HR.out k (by omega))
          obtain ⟨hms, c, r, hcr⟩ := hwz.out k hlt
          have hos := HO.out k
          generalize L[k] = m at *
          generalize O true L k = o at *
          have hconv := conv_to m wr
          have hB2 := cw_below m wr
          have hR := cw_bts m wr
          have hcp := cap5_ge m wr
          rw [hcr] at hR
          have hm1 : (0 : Int) < (m.size : Int) := by
            have : m.data.toList.length = m.size := by simp
            rw [hcr] at this; simp at this; omega
          have hcc := hR.2.1 0 (by simp)
          simp only [List.getElem_cons_zero] at hcc
          have hf := hR.2.2 0 (by simp)
          by_cases h0 : k = 0
          · subst h0
            have hF : (how (true && decide (0 = 0))) = dn := rfl
            rw [hF] at nx
            have hn := hR.set 0 (dn c) (by simp)
            rw [List.set_cons_zero] at hn
            have hbk := hn.back m.size (cap5 wr m) (by have : m.data.toList.length = m.size := by simp
                                                       rw [hcr] at this; simpa using this)
            rw [show (⟨(dn c :: r).toArray⟩ : ByteArray) = T1 dn m by unfold T1; rw [hcr]; rfl] at hbk
            have hTs : (T1 dn m).size ≤ 1048576 := by rw [T1_size]; omega
            have NX := Lib.hid nx
            clear nx hn hR hF hcr
            go_wp2_with fail
            refine (rdown_any c _).mono ?_
            rintro e wa ⟨rfl, rfl⟩
            go_wp2
            go_roundw
            case rel => exact ⟨0 + 1, by omega, by go_num, str_eq NX.out.symm, (bt hb hB2).setCell (p := ⟨wr.heap.size, 0, none⟩) hb.size _⟩
            case measure => simp [intOf]; omega
          · have h0' : ((k : Int) == 0) = false := by simp only [beq_eq_false_iff_ne]; omega
            have hF : (how (true && decide (k = 0))) = up := by rw [decide_eq_false h0]; rfl
            rw [hF] at nx
            have hn := hR.set 0 (up c) (by simp)
            rw [List.set_cons_zero] at hn
            have hbk := hn.back m.size (cap5 wr m) (by have : m.data.toList.length = m.size := by simp
                                                       rw [hcr] at this; simpa using this)
            rw [show (⟨(up c :: r).toArray⟩ : ByteArray) = T1 up m by unfold T1; rw [hcr]; rfl] at hbk
            have hTs : (T1 up m).size ≤ 1048576 := by rw [T1_size]; omega
            have NX := Lib.hid nx
            clear nx hn hR hF hcr
            go_wp2_with fail
            refine (rup_any c _).mono ?_
            rintro e wa ⟨rfl, rfl⟩
            go_wp2
            go_roundw
            case rel => exact ⟨k + 1, by omega, by go_num, str_eq NX.out.symm, (bt hb hB2).setCell (p := ⟨wr.heap.size, 0, none⟩) hb.size _⟩
            case measure => simp [intOf]; omega
        · obtain rfl : L.length = k := by omega
          go_wp2
          go_ret2
          exact ⟨ret_ok hfin.out, hB1.trans (hb.mono hB1.size)⟩
/-- Turn, whatever the way. -/
theorem rturn_any (s : ByteArray) (way : Int) (w : World) (hs : s.size ≤ 1048576) :
    Calls Try.prog 10 #[.string s, .int .i64 way] w fun e w' => e = .returned (.tuple #[.string ⟨(turn s.data.toList way).toArray⟩, .int .i64 (code way)]) ∧ Below w.heap.size w w' := by
  by_cases h : way < 1 ∨ 5 < way
  · refine (rturn_no s way w h).mono fun e w' ⟨he, hb⟩ => ⟨?_, hb⟩
    rw [he]
    exact ret2 (l := []) (by unfold turn; rw [if_neg (by omega), if_neg (by omega), if_neg (by omega), if_neg (by omega), if_neg (by omega)]) (by unfold code; rw [if_neg (by omega)])
  · have h5 : way = 1 ∨ way = 2 ∨ way = 3 ∨ way = 4 ∨ way = 5 := by omega
    rcases h5 with rfl | rfl | rfl | rfl | rfl
    · exact rturn_up s w hs
    · exact rturn_down s w hs
    · exact rturn_cap s w hs
    · exact rturn_words s true w hs
    · exact rturn_words s false w hs
end Go.Proofs.Ytnjeicaikcnpdaa
