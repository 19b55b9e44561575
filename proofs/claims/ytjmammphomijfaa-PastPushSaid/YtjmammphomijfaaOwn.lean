/- Words for memory: a slice of one-cell elements that the call itself owns, wherever in its row it begins; what an append, a tail, a pop, a store make of it. No program in sight. -/
import Derived.WalkKit
import Derived.Lib.Hide
namespace Go.Proofs.Ytjmammphomijfaa
open Go.RowKit

/-- The slice v holds the cells xs: it is nil, or it begins at some place of a row among the blocks from base on, none of whose cells is frozen. -/
def Own (w : World) (base : Nat) (e : TypeId) (v : Value) (xs : List Value) : Prop :=
  (v = .slice none 0 0 ∧ xs = []) ∨
  ∃ g off cap cur, v = .slice (some ⟨g, off, none⟩) xs.length cap ∧ base ≤ g ∧ w.heap[g]? = some (.cells cur e (0, 0)) ∧ xs.length ≤ cap ∧ cap ≤ maxLen ∧ off + cap ≤ cur.size ∧ (cur.toList.drop off).take xs.length = xs

section
variable {w w' : World} {base : Nat} {e : TypeId} {v : Value} {xs : List Value}

theorem Own.none_ (w : World) (base : Nat) (e : TypeId) : Own w base e (.slice none 0 0) [] := .inl ⟨rfl, rfl⟩
theorem Own.lt (h : Own w base e v xs) : ∀ q, v.ownBlock = some q → base ≤ q ∧ q < w.heap.size := by
  intro q hq
  rcases h with ⟨rfl, _⟩ | ⟨g, off, cap, cur, rfl, hb, hg, _⟩
  · simp [Value.ownBlock] at hq
  · simp [Value.ownBlock] at hq
    subst hq
    exact ⟨hb, (Array.getElem?_eq_some_iff.1 hg).1⟩
theorem Own.type (h : Own w base e v xs) : ∀ q, v.ownBlock = some q → ∃ cur, w.heap[q]? = some (.cells cur e (0, 0)) := by
  intro q hq
  rcases h with ⟨rfl, _⟩ | ⟨g, off, cap, cur, rfl, hb, hg, _⟩
  · simp [Value.ownBlock] at hq
  · simp [Value.ownBlock] at hq
    subst hq
    exact ⟨cur, hg⟩
theorem Own.keep (h : Own w base e v xs) (hk : ∀ q, v.ownBlock = some q → w'.heap[q]? = w.heap[q]?) : Own w' base e v xs := by
  rcases h with h | ⟨g, off, cap, cur, rfl, hb, hg, rest⟩
  · exact .inl h
  · exact .inr ⟨g, off, cap, cur, rfl, hb, (hk g (by simp [Value.ownBlock])).trans hg, rest⟩
theorem Own.of_row {n : Nat} (h : w.ownsRow base e 1 v n xs) : Own w base e v xs := by
  obtain ⟨hl, h⟩ := h
  have hl' : xs.length = n := by simpa using hl
  rcases h with ⟨h1, h2⟩ | ⟨g, cap, cur, hv, hb, hg, hn, hm, hs, ht⟩
  · exact .inl ⟨h1, List.eq_nil_of_length_eq_zero (by omega)⟩
  · refine .inr ⟨g, 0, cap, cur, by rw [hl']; exact hv, hb, hg, by omega, hm, by omega, ?_⟩
    rw [hl', List.drop_zero]
    simpa using ht
theorem Own.mono {base' : Nat} (h : Own w base e v xs) (hB : base' ≤ base) : Own w base' e v xs := by
  rcases h with h | ⟨g, off, cap, cur, hv, hb, rest⟩
  · exact .inl h
  · exact .inr ⟨g, off, cap, cur, hv, Nat.le_trans hB hb, rest⟩
theorem Own.alloc (h : Own w base e v xs) (o : Obj) : Own (w.alloc o) base e v xs := h.keep fun q hq => heap_alloc_old w o (h.lt q hq).2
theorem Own.far (h : Own w base e v xs) {p : Addr} (hp : v.ownBlock ≠ some p.block) (u : Value) : Own (w.setCell p u) base e v xs :=
  h.keep fun q hq => Below.heap_setCell w p u q (fun e => hp (by rw [hq, e]))
theorem Own.drew (h : Own w base e v xs) : Own w.drew base e v xs := h

theorem cur_get {cur : Array Value} {off n k : Nat} {xs : List Value} (h : (cur.toList.drop off).take n = xs) (hk : k < xs.length) : cur[off + k]? = some xs[k] := by
  have h1 : ((cur.toList.drop off).take n)[k]? = some xs[k] := by rw [h]; exact List.getElem?_eq_getElem hk
  rw [List.getElem?_take] at h1
  split at h1
  · simpa using h1
  · cases h1

/-- Where there is an element, the value is written out. -/
theorem Own.form (h : Own w base e v xs) (hn : 0 < xs.length) : ∃ g off cap cur, v = .slice (some ⟨g, off, none⟩) xs.length cap ∧ base ≤ g ∧ w.heap[g]? = some (.cells cur e (0, 0)) ∧ xs.length ≤ cap ∧ cap ≤ maxLen ∧ off + cap ≤ cur.size ∧ (cur.toList.drop off).take xs.length = xs := by
  rcases h with ⟨_, rfl⟩ | h
  · simp at hn
  · exact h
theorem Own.cell {g off n cap k : Nat} (h : Own w base e (.slice (some ⟨g, off, none⟩) n cap) xs) (hk : k < xs.length) : w.cell? ⟨g, off + k, none⟩ = some xs[k] := by
  rcases h with ⟨h, _⟩ | ⟨g', off', cap', cur, hv, _, hg, _, _, _, ht⟩
  · cases h
  · cases hv
    rw [cell_of_row w g (off + k) cur e (0, 0) hg]
    exact cur_get ht hk
theorem Own.frozen {g off n cap : Nat} (h : Own w base e (.slice (some ⟨g, off, none⟩) n cap) xs) (k : Nat) : w.frozen? ⟨g, k, none⟩ = false := by
  rcases h with ⟨h, _⟩ | ⟨g', off', cap', cur, hv, _, hg, _⟩
  · cases h
  · cases hv
    simp [World.frozen?, hg]
/-- The last element struck: the slice is cut by one; its cell may have been written ahead. -/
theorem Own.pop {g off n cap : Nat} {x : Value} {u : Value} (h : Own w base e (.slice (some ⟨g, off, none⟩) n cap) (xs ++ [x])) :
    Own (w.setCell ⟨g, off + xs.length, none⟩ u) base e (.slice (some ⟨g, off, none⟩) xs.length cap) xs := by
  rcases h with ⟨h, _⟩ | ⟨g', off', cap', cur, hv, hb, hg, hn, hm, hs, ht⟩
  · cases h
  · cases hv
    simp only [List.length_append, List.length_cons, List.length_nil, Nat.zero_add] at hn hs ht
    refine .inr ⟨g, off, cap, cur.setIfInBounds (off + xs.length) u, rfl, hb, ?_, by omega, hm, by simpa using hs, ?_⟩
    · simp [World.setCell, Array.getElem?_modify, hg]
    · have h1 : (cur.toList.drop off).take xs.length = xs := by
        have h2 := congrArg (List.take xs.length) ht
        rw [List.take_take, Nat.min_eq_left (by omega)] at h2
        rw [h2]; simp
      rw [Array.toList_setIfInBounds]
      apply List.ext_getElem?
      intro k
      rw [List.getElem?_take]
      split
      · rename_i hk
        rw [List.getElem?_drop, List.getElem?_set_ne (by omega), ← List.getElem?_drop]
        have h3 := congrArg (fun l => l[k]?) h1
        simp only [List.getElem?_take, hk, if_true] at h3
        exact h3
      · rename_i hk
        rw [List.getElem?_eq_none (by omega)]
/-- The first element struck. -/
theorem Own.tail {g off n cap : Nat} {x : Value} (h : Own w base e (.slice (some ⟨g, off, none⟩) n cap) (x :: xs)) : Own w base e (.slice (some ⟨g, off + 1, none⟩) xs.length (cap - 1)) xs := by
  rcases h with ⟨h, _⟩ | ⟨g', off', cap', cur, hv, hb, hg, hn, hm, hs, ht⟩
  · cases h
  · cases hv
    simp only [List.length_cons] at hn ht
    refine .inr ⟨g, off + 1, cap - 1, cur, rfl, hb, hg, by omega, by omega, by omega, ?_⟩
    have h1 := congrArg (List.drop 1) ht
    rw [List.drop_take, List.drop_drop, List.drop_succ_cons, List.drop_zero, Nat.add_sub_cancel] at h1
    exact h1
end

section
variable {P : Program} (w : World)

theorem setCells_one (g o : Nat) (u : Value) : w.setCells g o [u] = w.setCell ⟨g, o, none⟩ u := rfl

/-- append of one element onto a row of the call's own, wherever it begins. -/
theorem run_append_one (t ty e : TypeId) (i : TypeInfo) (z : Value) (bytes : Nat) (ht : P.underlying t = some (.slice e)) (hi : P.info? e = some i) (hz : i.zero = some z)
    (hsize : i.size = 1) (hby : i.bytes = bytes) (hzs : z.cells.size = 1)
    (base : Nat) (v : Value) (xs : List Value) (hown : Own w base e v xs)
    (ad : Addr) (c : Nat) (x : Value) (hx : w.cell? ad = some x) (h1 : x.oneCell' = true)
    (h63 : xs.length + 1 ≤ maxLen) (hbytes : (xs.length + 1) * bytes ≤ 140737488355328) (hbase : base ≤ w.heap.size) :
    ∃ v' w', (Builtin.append_ #[t, t] ty #[v, .slice (some ad) 1 c]).run P w = .ok v' w' ∧ Own w' base e v' (xs ++ [x]) ∧ w.grownBy w' v.ownBlock ∧
      (v'.ownBlock = v.ownBlock ∨ ∃ q, v'.ownBlock = some q ∧ w.heap.size ≤ q) := by
  have hnews : ∀ j u, ([x] : List Value)[j]? = some u → w.cell? (ad.add j) = some u := by
    intro j u hj
    match j, hj with
    | 0, hj => simp at hj; subst hj; simpa [Addr.add] using hx
  have hone : ∀ u ∈ ([x] : List Value), u.oneCell' = true := by
    intro u hu; simp at hu; subst hu; exact h1
  have grows : ∀ (b : Addr) (cap : Nat), (∀ j u, xs[j]? = some u → w.cell? (b.add j) = some u) → cap < xs.length + 1 →
      ∃ v' w', (Builtin.append_ #[t, t] ty #[.slice (some b) xs.length cap, .slice (some ad) 1 c]).run P w = .ok v' w' ∧ Own w' base e v' (xs ++ [x]) ∧ w.grownBy w' none ∧ ∃ q, v'.ownBlock = some q ∧ w.heap.size ≤ q := by
    intro b cap hcs hcap
    obtain ⟨v', w', hr, hown', hgr⟩ := run_append_arg_grows (P := P) w t ty e i z 1 bytes ht hi hz hsize hby hzs (by decide) b xs.length cap xs (by simp) hcs ad 1 c [x] rfl hnews hcap h63 hbytes
    have h2 := Own.of_row hown'
    obtain ⟨g, off, cap', cur, hv, hb, rest⟩ := h2.form (by simp)
    exact ⟨v', w', hr, .inr ⟨g, off, cap', cur, hv, Nat.le_trans hbase hb, rest⟩, hgr, g, by rw [hv]; simp [Value.ownBlock], hb⟩
  rcases hown with ⟨rfl, rfl⟩ | ⟨g, off, cap, cur, rfl, hb, hg, hn, hm, hs, htk⟩
  · obtain ⟨v', w', hr, hown', hgr, _⟩ := run_append_own (P := P) w w.heap.size t ty e i z 1 bytes ht hi hz hsize hby hzs (by decide) (.slice none 0 0) 0 [] (World.ownsRow_nil w _ e 1) ad 1 c [x] rfl hnews hone (by simpa using h63) (by simpa using hbytes) (Nat.le_refl _)
    have h2 := Own.of_row hown'
    obtain ⟨g, off, cap', cur, hv, hb, rest⟩ := h2.form (by simp)
    exact ⟨v', w', hr, .inr ⟨g, off, cap', cur, hv, Nat.le_trans hbase hb, rest⟩, hgr, .inr ⟨g, by rw [hv]; simp [Value.ownBlock], hb⟩⟩
  · by_cases hroom : xs.length + 1 ≤ cap
    · have hlt : off + xs.length < cur.size := by omega
      have hr := run_append_room_cells (P := P) w t ty e i ht hi g off xs.length cap ad 1 c [x] (by rw [hsize]; rfl) hnews hone hroom
        (by intro j hj; simp at hj; subst hj; rw [hsize, cell_of_row w g _ cur e (0, 0) hg]; simp [hlt])
        (by intro j hj; simp [World.frozen?, hg])
      rw [hsize, Nat.mul_one, setCells_one] at hr
      refine ⟨_, _, hr, .inr ⟨g, off, cap, cur.setIfInBounds (off + xs.length) x, by simp, hb, ?_, by simpa using hroom, hm, by simpa using hs, ?_⟩, ?_, .inl rfl⟩
      · simp [World.setCell, Array.getElem?_modify, hg]
      · rw [Array.toList_setIfInBounds]
        apply List.ext_getElem?
        intro k
        rw [List.getElem?_take]
        simp only [List.length_append, List.length_cons, List.length_nil, Nat.zero_add]
        split
        · rename_i hk
          rw [List.getElem?_drop]
          by_cases hk2 : k = xs.length
          · subst hk2
            rw [List.getElem?_set_self (by simpa using hlt)]
            simp
          · rw [List.getElem?_set_ne (by omega), List.getElem?_append_left (by omega)]
            have h3 := cur_get htk (k := k) (by omega)
            rw [Array.getElem?_toList, h3]
            exact (List.getElem?_eq_getElem _).symm
        · rename_i hk
          rw [List.getElem?_eq_none (by simp; omega)]
      · exact ⟨rfl, rfl, rfl, by simp [World.setCell], fun k _ hk => Below.heap_setCell w _ _ k (fun e => hk (by simp [Value.ownBlock, e]))⟩
    · obtain ⟨v', w', hr, ho, hgr, q, hq, hq2⟩ := grows ⟨g, off, none⟩ cap (by
        intro j u hj
        rw [Addr.add_lit, cell_of_row w g _ cur e (0, 0) hg]
        obtain ⟨hj1, hj2⟩ := List.getElem?_eq_some_iff.1 hj
        rw [← hj2]
        exact cur_get htk hj1) (by omega)
      exact ⟨v', w', hr, ho, ⟨hgr.os, hgr.tape, hgr.output, hgr.size, fun k hk _ => hgr.block k hk (by simp)⟩, .inr ⟨q, hq, hq2⟩⟩
end

theorem wpList_append_one {P : Program} (w : World) {ops : Array Oper} {rest : List Oper} {o : Oper} {a : Act} {Q : Exit → Act → World → Prop} (hgd : o.guard = none) (s x : Operand) (t : TypeId)
    (ho : o.op = .call { callee := .builtin .append, args := #[s, x], argTypes := #[t, t] })
    (e : TypeId) (i : TypeInfo) (z : Value) (bytes : Nat) (ht : P.underlying t = some (.slice e)) (hi : P.info? e = some i) (hz : i.zero = some z)
    (hsize : i.size = 1) (hby : i.bytes = bytes) (hzs : z.cells.size = 1)
    (base : Nat) (v : Value) (xs : List Value) (hs : a.eval s = v) (hown : Own w base e v xs)
    (ad : Addr) (c : Nat) (y : Value) (hx : a.eval x = .slice (some ad) 1 c) (hc : w.cell? ad = some y) (h1 : y.oneCell' = true)
    (h63 : xs.length + 1 ≤ maxLen) (hbytes : (xs.length + 1) * bytes ≤ 140737488355328) (hbase : base ≤ w.heap.size)
    (h : ∀ v' w', Own w' base e v' (xs ++ [y]) → w.grownBy w' v.ownBlock → (v'.ownBlock = v.ownBlock ∨ ∃ q, v'.ownBlock = some q ∧ w.heap.size ≤ q) → wpList P ops Q rest (a.put o.dst v') w') : wpList P ops Q (o :: rest) a w := by
  refine wpList_plain hgd fun K hK' => ?_
  obtain ⟨v', w', hrun, r1, r2, r3⟩ := run_append_one (P := P) w t o.type e i z bytes ht hi hz hsize hby hzs base v xs hown ad c y hc h1 h63 hbytes hbase
  unfold Oper.wp
  simp [execOp, ho, resolve, invoke, builtin, hs, hx, hrun, Result.andThen]
  exact hK' _ _ (h v' w' r1 r2 r3)
end Go.Proofs.Ytjmammphomijfaa
