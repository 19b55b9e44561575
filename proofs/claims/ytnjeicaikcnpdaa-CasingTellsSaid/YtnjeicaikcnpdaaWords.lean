/- What the reference's Words hands back: the text's words. -/
import Derived.Test.YtnjeicaikcnpdaaRin
import Derived.Test.YtnjeicaikcnpdaaWordsMath
import Derived.Laws.OwnMore
import Derived.Deep.AppendLies
namespace Go.Proofs.Ytnjeicaikcnpdaa
open Go.RowKit
open M

theorem Try.info9 : (Try.prog.info? 9).map (fun i => (i.zero, i.size, i.bytes)) = some (some (.string ⟨#[]⟩), 1, 16) := by kernel_rfl
abbrev Ls (L : List ByteArray) : List (List UInt8) := L.map (fun l => l.data.toList)
abbrev SV (L : List ByteArray) : List Value := L.map Value.string
/-- k bytes seen: L are the words so far. -/
structure Wk (s : ByteArray) (k : Nat) (L : List ByteArray) : Prop where
  le : L.length ≤ k
  sz : (Ls L).flatten.length ≤ k
  ne : ∀ m ∈ Ls L, m ≠ []
  lv : pv s.data.toList k = true → L ≠ []
  ws : words s.data.toList = wsr (Ls L) (pv s.data.toList k) (s.data.toList.drop k)
theorem Wk.start (s : ByteArray) : Wk s 0 [] := ⟨Nat.le_refl _, by simp, by simp, fun h => by simp [pv] at h, rfl⟩
/-- The last word with a byte more. -/
def longer (L : List ByteArray) (m : Nat) (x : ByteArray) : List ByteArray := L.set m (L.getD m ⟨#[]⟩ ++ x)
theorem longer_snoc (L : List ByteArray) (a x : ByteArray) : longer (L ++ [a]) L.length x = L ++ [a ++ x] := by
  unfold longer
  rw [List.getD_eq_getElem?_getD, List.getElem?_append_right (Nat.le_refl _), List.set_append_right _ _ (Nat.le_refl _)]
  simp
theorem bytes1 (s : ByteArray) (k : Nat) (h : k < s.size) : (s.extract k (k + 1)).data.toList = [s.data.toList[k]'(by simpa using h)] := by
  rw [ByteArray.data_extract, Array.toList_extract, List.extract_eq_take_drop, List.drop_eq_getElem_cons (by simpa using h)]
  simp
theorem Wk.skip {s : ByteArray} {k : Nat} {L : List ByteArray} (h : Wk s k L) (hk : k < s.size) (hw : wd s[k] = false) : Wk s (k + 1) L where
  le := by have := h.le; omega
  sz := by have := h.sz; omega
  ne := h.ne
  lv := fun he => by rw [pv_byte s k hk, hw] at he; cases he
  ws := by rw [h.ws, wsr_drop _ _ _ (by simpa using hk), if_neg (by rw [show s.data.toList[k]'(by simpa using hk) = s[k] from rfl, hw]; decide)]
/-- Behind a byte that is put to the word a: those ahead of it are M. -/
theorem Wk.put {s : ByteArray} {k : Nat} {L M : List ByteArray} {a : ByteArray} (h : Wk s k L) (hk : k < s.size) (hw : wd s[k] = true)
    (hM : if pv s.data.toList k then L = M ++ [a] else L = M ∧ a = ⟨#[]⟩) : Wk s (k + 1) (M ++ [a ++ s.extract k (k + 1)]) := by
  have hx := bytes1 s k hk
  have hk' : k < s.data.toList.length := by simpa using hk
  have hLs : Ls (M ++ [a ++ s.extract k (k + 1)]) = Ls M ++ [a.data.toList ++ [s.data.toList[k]]] := by
    simp only [Ls, List.map_append, List.map_cons, List.map_nil]
    rw [ByteArray.data_append, Array.toList_append, hx]
  have hbase : Ls (M ++ [a ++ s.extract k (k + 1)]) = addLast (if pv s.data.toList k then Ls L else Ls L ++ [[]]) s.data.toList[k] ∧ M.length ≤ k ∧ (Ls M).flatten.length + a.data.toList.length ≤ k ∧ ∀ m ∈ Ls M, m ≠ [] := by
    have hle := h.le
    have hsz := h.sz
    have hne := h.ne
    rw [hLs]
    split at hM
    · subst hM
      rename_i hp
      rw [if_pos hp, show Ls (M ++ [a]) = Ls M ++ [a.data.toList] by simp [Ls], addLast_snoc]
      refine ⟨rfl, by simp at hle; omega, ?_, fun m hm => hne m (by simp at hm ⊢; exact .inl hm)⟩
      simp [Ls] at hsz ⊢
      omega
    · obtain ⟨rfl, rfl⟩ := hM
      rename_i hp
      rw [if_neg hp, addLast_snoc]
      exact ⟨rfl, hle, by simpa using hsz, hne⟩
  obtain ⟨b1, b2, b3, b4⟩ := hbase
  refine ⟨by simp; omega, ?_, ?_, fun _ => by simp, ?_⟩
  · rw [hLs]; simp [List.flatten_append] at b3 ⊢; omega
  · intro m hm
    rw [hLs] at hm
    simp only [List.mem_append, List.mem_singleton] at hm
    rcases hm with hm | rfl
    · exact b4 m hm
    · simp
  · rw [h.ws, wsr_drop _ _ _ hk', if_pos (show wd (s.data.toList[k]) = true from hw), b1]
theorem Wk.done {s : ByteArray} {L : List ByteArray} (h : Wk s s.size L) : Ls L = words s.data.toList := by
  rw [h.ws, List.drop_of_length_le (by simp)]; rfl

/-- The words so far lie in a row of the call's own. -/
def Wr (W : World) (s : ByteArray) (k : Nat) (v : Value) (wr : World) : Prop :=
  ∃ L : List ByteArray, Wk s k L ∧ wr.ownsRow W.heap.size 9 1 v L.length (SV L) ∧ Below W.heap.size W wr
theorem SV_get (L : List ByteArray) (a : ByteArray) (i : Nat) (h : i = L.length) : (SV (L ++ [a]))[i]? = some (.string a) := by
  subst h; simp [SV]
/-- The last word's cell, written. -/
theorem Wr.put {W wr : World} {s : ByteArray} {k g cap : Nat} {M : List ByteArray} {a : ByteArray} (hw : Wk s (k + 1) (M ++ [a ++ s.extract k (k + 1)]))
    (ho : wr.ownsRow W.heap.size 9 1 (.slice (some ⟨g, 0, none⟩) (M.length + 1) cap) (M.length + 1) (SV (M ++ [a]))) (hb : Below W.heap.size W wr) :
    Wr W s (k + 1) (.slice (some ⟨g, 0, none⟩) (M.length + 1) cap) (wr.drew.setCell ⟨g, M.length, none⟩ (.string (a ++ s.extract k (k + 1)))) := by
  have hs := (ho.drew.stored M.length (.string (a ++ s.extract k (k + 1)))).1
  refine ⟨_, hw, ?_, hb.drew.setCell (p := ⟨g, M.length, none⟩) (ho.lt g rfl).1 _⟩
  have e : (SV (M ++ [a])).set M.length (.string (a ++ s.extract k (k + 1))) = SV (M ++ [a ++ s.extract k (k + 1)]) := by
    simp only [SV, List.map_append, List.map_cons, List.map_nil]
    rw [List.set_append_right _ _ (by simp)]
    simp
  rw [e] at hs
  simpa using hs

set_option maxHeartbeats 4000000 in
theorem words_any (s : ByteArray) (w : World) (hs : s.size ≤ 1048576) :
    Calls Try.prog 21 #[.string s] w fun e w' => ∃ v, e = .returned v ∧ Wr w s s.size v w' := by
  obtain ⟨i0, hi, hz0, hz1, hz2⟩ := info_parts Try.info9
  have hst : Wr w s 0 (.slice none 0 0) w := ⟨[], Wk.start s, World.ownsRow_nil _ _ _ _, Below.refl _ _⟩
  have HS := Lib.hid hst
  clear hst
  go_enter Try.func21, Try.ntmps21
  go_wp2
  go_loopw [3, 4] (fun v i wr => ∃ k : Nat, k ≤ s.size ∧ i = .int .i64 k ∧ Wr w s k v wr) (fun _ i _ => s.size - (intOf i).toNat)
  case atStart => exact ⟨0, Nat.zero_le _, rfl, HS.out⟩
  case round =>
    obtain ⟨k, hk, rfl, L, hW, ho, hb⟩ := hrel
    by_cases hlt : k < s.size
    · have hsz := hb.size
      by_cases hw : wd s[k] = true
      · -- A WORD'S BYTE
        have HW := Lib.hid hw
        have hle := hW.le
        rcases k with _ | k
        · have nx := Lib.hid (hW.put (M := L) (a := ⟨#[]⟩) hlt hw (by simp [pv]))
          clear hw hW
          go_wp2_with fail
          refine (rin_any _ _).mono ?_
          rw [HW.out]
          rintro e w1 ⟨rfl, rfl⟩
          go_wp2_with (at_builtin; refine wpList_append_own _ rfl _ _ 36 rfl w.heap.size 9 i0 (.string ⟨#[]⟩) 1 16 Try.underlying36 hi hz0 hz1 hz2 rfl (by decide) _ _ _ rfl (ho.alloc _) ⟨wr.heap.size, 0, none⟩ 1 1 [.string ⟨#[]⟩] rfl rfl ?c1 ?c2 ?c3 ?c4 ?c5 ?_)
          case c1 =>
            intro j u hj
            match j, hj with
            | 0, hj => simp at hj; subst hj; simp [Addr.add]
          case c2 => intro u hu; simp at hu; subst hu; rfl
          case c3 => unfold maxLen; omega
          case c4 => omega
          case c5 => simp; omega
          intro v' w2 hown' hgrow _
          obtain ⟨g, cap, rfl, _, _⟩ := hown'.form (by omega)
          have hb2 : Below w.heap.size w w2 := (hb.alloc hsz _).grown hgrow (by simp; omega) (fun q hq => (ho.lt q hq).1)
          have ho2 : w2.ownsRow w.heap.size 9 1 (.slice (some ⟨g, 0, none⟩) (L.length + 1) cap) (L.length + 1) (SV (L ++ [⟨#[]⟩])) := by simpa [SV] using hown'
          clear hown' hgrow ho hb
          have hfin := fun (g cap : Nat) (wx : World) (ho : wx.ownsRow w.heap.size 9 1 (.slice (some ⟨g, 0, none⟩) (L.length + 1) cap) (L.length + 1) (SV (L ++ [⟨#[]⟩]))) (hb : Below w.heap.size w wx) => Wr.put nx.out ho hb
          have HF := Lib.hid (hfin g cap w2 ho2 hb2)
          have c0 := ho2.cellAt L.length (by omega)
          rw [SV_get L ⟨#[]⟩ L.length rfl] at c0
          have f0 := ho2.frozenAt L.length
          clear ho2 hfin
          go_wp2
          go_region
          all_goals go_wp2
          all_goals go_roundw
          case rel => exact ⟨0 + 1, by omega, by go_num, HF.out⟩
          case measure => simp [intOf]; omega
        · cases hp : pv s.data.toList (k + 1)
          · have nx := Lib.hid (hW.put (M := L) (a := ⟨#[]⟩) hlt hw (by rw [hp]; simp))
            have HP := Lib.hid hp
            clear hw hW hp
            go_wp2_with fail
            refine (rin_any _ _).mono ?_
            rw [HW.out]
            rintro e w1 ⟨rfl, rfl⟩
            go_wp2_with fail
            refine (rin_any _ _).mono ?_
            rw [show wd s[k] = false from (pv_byte s k (by omega)).symm.trans HP.out]
            rintro e w1 ⟨rfl, rfl⟩
            go_wp2_with (at_builtin; refine wpList_append_own _ rfl _ _ 36 rfl w.heap.size 9 i0 (.string ⟨#[]⟩) 1 16 Try.underlying36 hi hz0 hz1 hz2 rfl (by decide) _ _ _ rfl (ho.alloc _) ⟨wr.heap.size, 0, none⟩ 1 1 [.string ⟨#[]⟩] rfl rfl ?c1 ?c2 ?c3 ?c4 ?c5 ?_)
            case c1 =>
              intro j u hj
              match j, hj with
              | 0, hj => simp at hj; subst hj; simp [Addr.add]
            case c2 => intro u hu; simp at hu; subst hu; rfl
            case c3 => unfold maxLen; omega
            case c4 => omega
            case c5 => simp; omega
            intro v' w2 hown' hgrow _
            obtain ⟨g, cap, rfl, _, _⟩ := hown'.form (by omega)
            have hb2 : Below w.heap.size w w2 := (hb.alloc hsz _).grown hgrow (by simp; omega) (fun q hq => (ho.lt q hq).1)
            have ho2 : w2.ownsRow w.heap.size 9 1 (.slice (some ⟨g, 0, none⟩) (L.length + 1) cap) (L.length + 1) (SV (L ++ [⟨#[]⟩])) := by simpa [SV] using hown'
            clear hown' hgrow ho hb
            have hfin := fun (g cap : Nat) (wx : World) (ho : wx.ownsRow w.heap.size 9 1 (.slice (some ⟨g, 0, none⟩) (L.length + 1) cap) (L.length + 1) (SV (L ++ [⟨#[]⟩]))) (hb : Below w.heap.size w wx) => Wr.put nx.out ho hb
            have HF := Lib.hid (hfin g cap w2 ho2 hb2)
            have c0 := ho2.cellAt L.length (by omega)
            rw [SV_get L ⟨#[]⟩ L.length rfl] at c0
            have f0 := ho2.frozenAt L.length
            clear ho2 hfin
            go_wp2
            go_region
            all_goals go_wp2
            all_goals go_roundw
            case rel => exact ⟨k + 1 + 1, by omega, by go_num, HF.out⟩
            case measure => simp [intOf]; omega
          · obtain ⟨M, a, rfl⟩ : ∃ M a, L = M ++ [a] := ⟨_, _, (List.dropLast_concat_getLast (hW.lv hp)).symm⟩
            have nx := Lib.hid (hW.put (M := M) (a := a) hlt hw (by rw [hp]; simp))
            have HP := Lib.hid hp
            have has : a.size ≤ k + 1 := by
              have h1 := hW.sz
              simp [Ls, List.flatten_append] at h1
              omega
            clear hw hW hp
            rw [show (M ++ [a]).length = M.length + 1 by simp] at ho hle
            obtain ⟨g, cap, rfl, _, _⟩ := ho.form (by omega)
            have ho2 := ho
            have hb2 := hb
            clear ho hb
            generalize hwr : wr = w2 at *
            clear hwr
            go_wp2_with fail
            refine (rin_any _ _).mono ?_
            rw [HW.out]
            rintro e w1 ⟨rfl, rfl⟩
            go_wp2_with fail
            refine (rin_any _ _).mono ?_
            rw [show wd s[k] = true from (pv_byte s k (by omega)).symm.trans HP.out]
            rintro e w1 ⟨rfl, rfl⟩
            have hfin := fun (g cap : Nat) (wx : World) (ho : wx.ownsRow w.heap.size 9 1 (.slice (some ⟨g, 0, none⟩) (M.length + 1) cap) (M.length + 1) (SV (M ++ [a]))) (hb : Below w.heap.size w wx) => Wr.put nx.out ho hb
            have HF := Lib.hid (hfin g cap w2 ho2 hb2)
            have c0 := ho2.cellAt M.length (by omega)
            rw [SV_get M a M.length rfl] at c0
            have f0 := ho2.frozenAt M.length
            clear ho2 hfin
            go_wp2
            go_region
            all_goals go_wp2
            all_goals go_roundw
            case rel => exact ⟨k + 1 + 1, by omega, by go_num, HF.out⟩
            case measure => simp [intOf]; omega
      · have hw' : wd s[k] = false := by simpa using hw
        have nx := Lib.hid (hW.skip hlt hw')
        have HW := Lib.hid hw'
        clear hw hw' hW
        go_wp2_with fail
        refine (rin_any _ _).mono ?_
        rw [HW.out]
        rintro e w1 ⟨rfl, rfl⟩
        go_wp2
        go_roundw
        case rel => exact ⟨k + 1, by omega, by go_num, L, nx.out, ho, hb⟩
        case measure => simp [intOf]; omega
    · obtain rfl : s.size = k := by omega
      go_wp2
      go_ret
      exact ⟨_, rfl, L, hW, ho, hb⟩
end Go.Proofs.Ytnjeicaikcnpdaa
