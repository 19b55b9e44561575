/- A heap's turnings, one by one: a new name, a row written, a map put anew. -/
import Derived.Test.YtkeckbmhaplkpaaGreatDoorNEvA
import Derived.Deep.Upon
import Derived.Deep.MidRow
import Derived.Deep.AppendSrc
import Derived.Room.Entries
import Derived.Tactics
import Derived.Deep.LoopGhost
namespace Go.Proofs.YtkeckbmhaplkpaaGreatDoor.Ln
open Go
variable {P : Program} {T : Types}

def Env.upd (θ : Env) (n b o c : Nat) : Env := { θ with blk := fun y => if y = n then b else θ.blk y, off := fun y => if y = n then o else θ.off y, cap := fun y => if y = n then c else θ.cap y }
theorem upd_same {D : Nat → Prop} {θ : Env} {n b o c : Nat} (hn : ∀ y, D y → y < n) : Env.same D θ (θ.upd n b o c) := by
  refine ⟨fun y hy => ?_, rfl, rfl⟩
  have : y ≠ n := by have := hn y hy; omega
  simp [Env.upd, this]
theorem upd_self (θ : Env) (n b o c : Nat) : (θ.upd n b o c).blk n = b ∧ (θ.upd n b o c).off n = o ∧ (θ.upd n b o c).cap n = c := by simp [Env.upd]
theorem HasRoom.move {θ θ' : Env} {b o n : Nat} {r : Option (Nat × Nat)} {w w' : World} (hc : ∀ x, r = some x → θ'.cap x.1 = θ.cap x.1) (hb : w'.heap[b]? = w.heap[b]?) (h : HasRoom θ b o n r w) : HasRoom θ' b o n r w' := by
  cases r with
  | none => trivial
  | some x =>
    intro j hj
    rw [hc x rfl] at hj
    obtain ⟨⟨v, hv⟩, hf⟩ := h j hj
    exact ⟨⟨v, (World.cell?_of_block hb).trans hv⟩, (World.frozen?_of_block hb).trans hf⟩
theorem Entry.real_same {D : Nat → Prop} {θ θ' : Env} (h : Env.same D θ θ') {e : Entry} (h1 : e.key.ok D) (h2 : e.val.ok D) : e.real θ' = e.real θ := by
  simp only [Entry.real, MV.real_same h h1, MV.real_same h h2]
/-- An object is where it was, whatever else has turned. -/
theorem ObjIs.move {D : Nat → Prop} {θ θ' : Env} {y : Nat} {o : MObj} {w w' : World} (hs : Env.same D θ θ') (hy : D y) (ho : o.ok D) (hb : w'.heap[θ.blk y]? = w.heap[θ.blk y]?) (h : ObjIs θ y w o) : ObjIs θ' y w' o := by
  obtain ⟨e1, e2, e3⟩ := hs y hy
  cases o with
  | cells l r =>
    simp only [ObjIs, MObj.ok] at h ho ⊢
    rw [e1, e2]
    refine ⟨fun j hj => ?_, HasRoom.move (fun x hx => (hs _ (ho.2 x hx)).2.2) hb h.2⟩
    rw [World.cell?_of_block hb, World.frozen?_of_block hb, MV.real_same hs (ho.1 _ (List.getElem_mem hj)).1]
    exact h.1 j hj
  | map es c =>
    simp only [ObjIs, MObj.ok] at h ho ⊢
    rw [e1, hb, h]
    congr 3
    exact List.map_congr_left fun e he => (Entry.real_same hs (ho e he).1.1 (ho e he).2).symm
  | trow t =>
    simp only [ObjIs] at h ⊢
    rw [e1, e2, hs.bytes]
    refine ⟨fun j v hv => ?_, HasRoom.move (fun x hx => by obtain rfl := Option.some.inj hx; exact e3) hb h.2⟩
    rw [World.cell?_of_block hb, World.frozen?_of_block hb]
    exact h.1 j v hv
  | dead => trivial
theorem up_mono {D : Nat → Prop} {n n' : Nat} (y : Nat) (h : D y) : Up D n n' y := .inl h
theorem MObj.ok_mono {D D' : Nat → Prop} (h : ∀ y, D y → D' y) {o : MObj} (ho : o.ok D) : o.ok D' := by
  cases o with
  | cells l r => simp only [MObj.ok] at ho ⊢; exact ⟨fun v hv => ⟨MV.ok_mono h (ho.1 v hv).1, (ho.1 v hv).2⟩, fun x hx => h _ (ho.2 x hx)⟩
  | map es c => simp only [MObj.ok] at ho ⊢; exact fun e he => ⟨⟨MV.ok_mono h (ho e he).1.1, (ho e he).1.2⟩, MV.ok_mono h (ho e he).2⟩
  | trow t => simp only [MObj.ok] at ho ⊢; exact ho
  | dead => trivial
section
variable {D : Nat → Prop} {n : Nat} {θ : Env} {h : Heap} {w : World}
/-- A new name for a new block. -/
theorem lead_new (hn : ∀ y, D y → y < n) (hr : Rel θ h w) (ho : okH D h) {ob : Obj} {mo : MObj} (c : Nat) (hobj : ObjIs (θ.upd n w.heap.size 0 c) n { w with heap := w.heap.push ob } mo) (hok : mo.ok (Up D n (n + 1))) :
    Leads D n θ h w (n + 1) (θ.upd n w.heap.size 0 c) (h.set n mo) { w with heap := w.heap.push ob } := by
  have hs := upd_same (θ := θ) (b := w.heap.size) (o := 0) (c := c) hn
  have old : ∀ b, b < w.heap.size → (w.heap.push ob)[b]? = w.heap[b]? := fun b hb => by rw [Array.getElem?_push_lt hb, Array.getElem?_eq_getElem hb]
  have live : ∀ y, Live (h.set n mo) y → y = n ∨ (y ≠ n ∧ Live h y) := by
    rintro y ⟨o, ho', hd⟩
    rcases PT.get_set ho' with ⟨rfl, _⟩ | ⟨hne, h2⟩
    · exact .inl rfl
    · exact .inr ⟨hne, o, h2, hd⟩
  have blk : ∀ y, Live h y → (θ.upd n w.heap.size 0 c).blk y = θ.blk y := fun y ⟨o, h1, _⟩ => (hs y (ho y o h1).1).1
  exact {
    le := Nat.le_succ n
    same := upd_same fun _ hy => hy
    rel := {
      obj := fun y o hy => by
        rcases PT.get_set hy with ⟨rfl, rfl⟩ | ⟨hne, h2⟩
        · exact hobj
        · cases o with
          | dead => trivial
          | cells l r => exact ObjIs.move hs (ho y _ h2).1 (ho y _ h2).2 (old _ (hr.lt y ⟨_, h2, by simp⟩)) (hr.obj y _ h2)
          | trow t => exact ObjIs.move hs (ho y _ h2).1 (ho y _ h2).2 (old _ (hr.lt y ⟨_, h2, by simp⟩)) (hr.obj y _ h2)
          | map es cl => exact ObjIs.move hs (ho y _ h2).1 (ho y _ h2).2 (old _ (hr.lt y ⟨_, h2, by simp⟩)) (hr.obj y _ h2)
      sep := fun y z hy hz e => by
        rcases live y hy with rfl | ⟨hyn, hy'⟩ <;> rcases live z hz with rfl | ⟨hzn, hz'⟩
        · rfl
        · rw [blk z hz', (upd_self θ _ _ _ _).1] at e
          have := hr.lt z hz'; omega
        · rw [blk y hy', (upd_self θ _ _ _ _).1] at e
          have := hr.lt y hy'; omega
        · rw [blk y hy', blk z hz'] at e
          exact hr.sep y z hy' hz' e
      lt := fun y hy => by
        rcases live y hy with rfl | ⟨_, hy'⟩
        · rw [(upd_self θ _ _ _ _).1]; simp
        · rw [blk y hy']; have := hr.lt y hy'; simp; omega }
    ok := fun y o hy => by
      rcases PT.get_set hy with ⟨rfl, rfl⟩ | ⟨hne, h2⟩
      · exact ⟨.inr ⟨Nat.le_refl _, by omega⟩, hok⟩
      · exact ⟨.inl (ho y o h2).1, MObj.ok_mono up_mono (ho y o h2).2⟩
    os := rfl
    tape := rfl
    output := rfl
    size := by simp
    kept := fun b hb _ => old b hb
    born := fun y hy => by
      rcases live y hy with rfl | ⟨_, hy'⟩
      · exact .inr (by rw [(upd_self θ _ _ _ _).1]; exact Nat.le_refl _)
      · exact .inl ⟨y, hy', (blk y hy').symm⟩ }
/-- An object put in the place of another one, in its own block. -/
theorem lead_put (_hn : ∀ y, D y → y < n) (hr : Rel θ h w) (ho : okH D h) {w' : World} {y : Nat} {mo : MObj} (hy : Live h y) (hobj : ObjIs θ y w' mo) (hok : mo.ok D)
    (os : w'.os = w.os) (tape : w'.tape = w.tape) (output : w'.output = w.output) (size : w'.heap.size = w.heap.size) (kept : ∀ b, b ≠ θ.blk y → w'.heap[b]? = w.heap[b]?) :
    Leads D n θ h w n θ (h.set y mo) w' := by
  have hs : Env.same D θ θ := Env.same.refl _ _
  have live : ∀ z, Live (h.set y mo) z → Live h z := by
    rintro z ⟨o, ho', hd⟩
    rcases PT.get_set ho' with ⟨rfl, _⟩ | ⟨hne, h2⟩
    · exact hy
    · exact ⟨o, h2, hd⟩
  have hD : D y := by obtain ⟨o, h1, _⟩ := hy; exact (ho y o h1).1
  exact {
    le := Nat.le_refl n
    same := Env.same.refl _ _
    rel := {
      obj := fun z o hz => by
        rcases PT.get_set hz with ⟨rfl, rfl⟩ | ⟨hne, h2⟩
        · exact hobj
        · by_cases hd : o = .dead
          · subst hd; trivial
          · exact ObjIs.move hs (ho z _ h2).1 (ho z _ h2).2 (kept _ fun e => hne (hr.sep z y ⟨o, h2, hd⟩ hy e)) (hr.obj z _ h2)
      sep := fun a b ha hb e => hr.sep a b (live a ha) (live b hb) e
      lt := fun a ha => by rw [size]; exact hr.lt a (live a ha) }
    ok := okH_iff (fun y => (up_self y).symm) fun z o hz => by
      rcases PT.get_set hz with ⟨rfl, rfl⟩ | ⟨hne, h2⟩
      · exact ⟨hD, hok⟩
      · exact ho z o h2
    os := os
    tape := tape
    output := output
    size := by omega
    kept := fun b _ hne => kept b fun e => hne y hy e.symm
    born := fun z hz => .inl ⟨z, live z hz, rfl⟩ }
end
end Go.Proofs.YtkeckbmhaplkpaaGreatDoor.Ln
/- Operations that make new memory. -/
namespace Go.Proofs.YtkeckbmhaplkpaaGreatDoor.Ln
open Go
variable {P : Program} {T : Types}

abbrev pushed (w : World) (ob : Obj) : World := { w with heap := w.heap.push ob }
theorem cell_push (w : World) (cs : Array Value) (t : TypeId) (j : Nat) : (pushed w (.cells cs t)).cell? ⟨w.heap.size, j, none⟩ = cs[j]? := by simp [World.cell?]
theorem frozen_push (w : World) (cs : Array Value) (t : TypeId) (j : Nat) : (pushed w (.cells cs t)).frozen? ⟨w.heap.size, j, none⟩ = false := by simp [World.frozen?]
/-- What an operation that turns the heap yields. -/
def Yields (P : Program) (D : Nat → Prop) (n : Nat) (θ : Env) (h : Heap) (w : World) (s : Sem Next) (r : R) : Prop :=
  ∃ θ' w' x, s.run P w = .ok x w' ∧ (x = .value (r.v.real θ') ∨ (x = .skip ∧ r.v = .undef)) ∧ Leads D n θ h w r.n θ' r.h w' ∧ r.v.ok (Up D n r.n)
theorem put1_some {h : Heap} {y n : Nat} {o : MObj} {v : MV} {r : R} (e : put1 h y o v n = some r) : r = ⟨v, h.set y o, n⟩ := by
  unfold put1 at e
  rw [PT.setK_eq, fnat_eq] at e
  exact (Option.some.inj e).symm
section
variable {D : Nat → Prop} {n : Nat} {θ : Env} {h : Heap} {w : World}
/-- A row of cells in a new block; behind it c places more of 'size' cells each. -/
theorem lead_row (hn : ∀ y, D y → y < n) (hr : Rel θ h w) (ho : okH D h) {l : List MV} {cs : Array Value} {t : TypeId} {room : Option (Nat × Nat)} (c : Nat) (hl : ∀ v ∈ l, v.ok D ∧ v.one)
    (hcs : ∀ j (hj : j < l.length), cs[j]? = some (l[j].real θ)) (hroom : ∀ x, room = some x → x.1 = n ∧ ∀ j, j < x.2 * c → l.length + j < cs.size) :
    Leads D n θ h w (n + 1) (θ.upd n w.heap.size 0 c) (h.set n (.cells l room)) (pushed w (.cells cs t)) := by
  have hs := upd_same (θ := θ) (b := w.heap.size) (o := 0) (c := c) hn
  refine lead_new hn hr ho c ?_ ?_
  · simp only [ObjIs]
    rw [(upd_self θ _ _ _ _).1, (upd_self θ _ _ _ _).2.1]
    refine ⟨fun j hj => ?_, ?_⟩
    · rw [Nat.zero_add, cell_push, frozen_push, hcs j hj, MV.real_same hs (hl _ (List.getElem_mem hj)).1]
      exact ⟨rfl, rfl⟩
    · cases room with
      | none => trivial
      | some x =>
        obtain ⟨e, hx⟩ := hroom x rfl
        intro j hj
        rw [e, (upd_self θ _ _ _ _).2.2] at hj
        have := hx j hj
        refine ⟨⟨cs[l.length + j], ?_⟩, ?_⟩
        · rw [Nat.zero_add, cell_push]; exact Array.getElem?_eq_getElem this
        · rw [Nat.zero_add, frozen_push]
  · simp only [MObj.ok]
    refine ⟨fun v hv => ⟨MV.ok_mono up_mono (hl v hv).1, (hl v hv).2⟩, fun x hx => ?_⟩
    rw [(hroom x hx).1]
    exact .inr ⟨Nat.le_refl _, by omega⟩
theorem cells_yield (hn : ∀ y, D y → y < n) (hr : Rel θ h w) (ho : okH D h) {s : Sem Next} {l : List MV} {t : TypeId} {v : MV} {x : Go.Next} (hl : ∀ v ∈ l, v.ok D ∧ v.one)
    (hs : s.run P w = .ok x (pushed w (.cells (reals θ l).toArray t))) (hx : ∀ θ', (θ'.blk n = w.heap.size ∧ θ'.off n = 0) → x = .value (v.real θ')) (hv : v.ok (Up D n (n + 1))) {r : R} (e : newCells h n l v = some r) :
    Yields P D n θ h w s r := by
  obtain rfl := put1_some e
  refine ⟨_, _, _, hs, .inl (hx (θ.upd n w.heap.size 0 0) ⟨(upd_self θ _ _ _ _).1, (upd_self θ _ _ _ _).2.1⟩), ?_, hv⟩
  exact lead_row hn hr ho 0 hl (fun j hj => by rw [List.getElem?_toArray, reals_get, List.getElem?_eq_getElem hj]; rfl) (fun x hx => by cases hx)
theorem ptr_ok  : (MV.ptr n 0).ok (Up D n (n + 1)) := by simp only [MV.ok]; exact .inr ⟨Nat.le_refl _, by omega⟩
theorem alloc_yield (hn : ∀ y, D y → y < n) (hr : Rel θ h w) (ho : okH D h) (hT : TyOk P T) {t : Nat} {r : R} (e : eAlloc h n (T.get t) = some r) : Yields P D n θ h w (do pure (.value (← Instr.alloc t true (.tuple #[])))) r := by
  unfold eAlloc at e
  split at e
  · cases e
  rename_i ti ht
  have hok := hT t ti ht
  obtain ⟨i, hi, _, _, z, hz, hzi⟩ := hok.info
  have hzr : (zeroValue t).run P w = .ok z w := by simp [zeroValue, typeInfo, program, hi, hz, bind, Sem.bind, Sem.run, pure]
  have hzc : z.cells = (reals θ ti.zero).toArray := by
    unfold ZeroIs at hzi
    split at hzi
    · rw [hzi, zero_same θ hok.zero]; rfl
    · obtain ⟨v, h1, rfl⟩ := hzi
      have := zero_same θ hok.zero
      rw [h1] at this ⊢
      simp only [reals, List.cons.injEq, and_true] at this
      rw [this]
      have h2 := (hok.zero v (by rw [h1]; simp)).1
      cases v <;> simp [MV.one] at h2 <;> simp [MV.real, Value.cells, reals]
  refine cells_yield hn hr ho (l := ti.zero) (t := t) (x := .value (.pointer (some ⟨w.heap.size, 0, none⟩))) (fun v hv => ⟨MV.ok_mono (fun _ h => h.elim) (hok.zero v hv).2.1, (hok.zero v hv).1⟩) ?_ ?_ ptr_ok e
  · rw [Sem.run_bind]
    have : (Instr.alloc t true (.tuple #[])).run P w = .ok (.pointer (some ⟨w.heap.size, 0, none⟩)) (pushed w (.cells (reals θ ti.zero).toArray t)) := by
      unfold Instr.alloc
      refine (run_seq hzr).trans ?_
      simp [newVar, newRow, newObj, hzc, Sem.run, bind, Sem.bind, pure]
    rw [this]; rfl
  · intro θ' hθ
    simp [MV.real, hθ.1, hθ.2]
theorem box_yield (hn : ∀ y, D y → y < n) (hr : Rel θ h w) (ho : okH D h) {v : MV} {t : Nat} (hv : v.ok D) {r : R} (e : eBox h n (some v) = some r) : Yields P D n θ h w (do pure (.value (← Instr.box t (v.real θ)))) r := by
  unfold eBox at e
  simp only at e
  split at e
  · cases e
  rename_i vs hvs
  obtain ⟨c1, c2, c3⟩ := cells_some hvs θ hv
  refine cells_yield hn hr ho (l := vs) (t := t) (x := .value (.pointer (some ⟨w.heap.size, 0, none⟩))) (fun v hv => ⟨(oks_iff D _).1 c2 v hv, c3 v hv⟩) ?_ ?_ ptr_ok e
  · simp [Instr.box, newVar, newRow, newObj, c1, Sem.run, bind, Sem.bind, pure]
  · intro θ' hθ
    simp [MV.real, hθ.1, hθ.2]
end
theorem repK_some {β : Type} {z : List MV} {n : Nat} {k : List MV → Option β} {y : β} (h : repK z n k = some y) : k (List.replicate n z).flatten = some y := by
  induction n generalizing k with
  | zero => exact h
  | succ n ih =>
    change repK z n (fun r => lappK z r k) = some y at h
    have := ih h
    rw [lappK_eq] at this
    rw [List.replicate_succ, List.flatten_cons]
    exact this

theorem flat_len {α : Type} (z : List α) (n : Nat) : (List.replicate n z).flatten.length = n * z.length := by
  induction n with
  | zero => simp
  | succ n ih => rw [List.replicate_succ, List.flatten_cons, List.length_append, ih, Nat.succ_mul, Nat.add_comm]
theorem flat_get {α : Type} (z : List α) (n j : Nat) (hj : j < n * z.length) : (List.replicate n z).flatten[j]? = z[j % z.length]? := by
  induction n generalizing j with
  | zero => simp at hj
  | succ n ih =>
    rw [List.replicate_succ, List.flatten_cons, List.getElem?_append]
    split
    · rename_i h; rw [Nat.mod_eq_of_lt h]
    · rename_i h
      rw [Nat.succ_mul] at hj
      rw [ih (j - z.length) (by omega)]
      congr 1
      rw [← Nat.mod_eq_sub_mod (by omega)]
theorem range_cells (z : List Value) (n : Nat) : (Array.range (n * z.length)).map (fun i => z.toArray[i % z.toArray.size]!) = (List.replicate n z).flatten.toArray := by
  apply Array.ext'
  apply List.ext_getElem?
  intro j
  by_cases hj : j < n * z.length
  · rw [List.toList_toArray, flat_get z n j hj]
    have h0 : z.length ≠ 0 := by intro h; rw [h] at hj; simp at hj
    have hm : j % z.length < z.length := Nat.mod_lt _ (by omega)
    simp [hj, hm]
  · rw [List.getElem?_eq_none (by simp; omega), List.toList_toArray, List.getElem?_eq_none (by rw [flat_len]; omega)]
theorem reals_flat (θ : Env) (z : List MV) (n : Nat) : reals θ (List.replicate n z).flatten = (List.replicate n (reals θ z)).flatten := by
  rw [reals_map, List.map_flatten, List.map_replicate, reals_map]
theorem mem_flat {α : Type} {z : List α} {n : Nat} {v : α} (h : v ∈ (List.replicate n z).flatten) : v ∈ z := by
  obtain ⟨l, hl, hv⟩ := List.mem_flatten.1 h
  rw [List.eq_of_mem_replicate hl] at hv
  exact hv
theorem rowTI_ok (hT : TyOk P T) {t : Nat} {te : TI} (h : rowTI T t = some te) : ∃ e, P.underlying t = some (.slice e) ∧ T.get e = some te ∧ elemTI T t = some te ∧ fieldOf T t = fun _ => none := by
  unfold rowTI at h
  split at h
  · rename_i hs
    obtain ⟨e, hu⟩ := isSliceT_ok hT hs
    obtain ⟨e', he', hor⟩ := elemTI_ok hT h
    have : e' = e := by
      rcases hor with h1 | ⟨m, h1⟩ <;> rw [hu] at h1 <;> simp at h1
      exact h1.symm
    subst this
    refine ⟨e', hu, he', h, ?_⟩
    funext i
    unfold isSliceT at hs
    unfold fieldOf
    split at hs
    · cases hs
    rename_i ti ht
    split at hs
    · rename_i hd; rw [hd]
    · cases hs
  · cases h
/-- A type's zero value, in cells. -/
theorem zero_cells (hT : TyOk P T) {e : Nat} {te : TI} (he : T.get e = some te) (θ : Env) (w : World) : ∃ z, (zeroValue e).run P w = .ok z w ∧ z.cells = (reals θ te.zero).toArray := by
  have hok := hT e te he
  obtain ⟨i, hi, _, _, z, hz, hzi⟩ := hok.info
  refine ⟨z, by simp [zeroValue, typeInfo, program, hi, hz, bind, Sem.bind, Sem.run, pure], ?_⟩
  unfold ZeroIs at hzi
  split at hzi
  · rw [hzi, zero_same θ hok.zero]; rfl
  · obtain ⟨v, h1, rfl⟩ := hzi
    have := zero_same θ hok.zero
    rw [h1] at this ⊢
    simp only [reals, List.cons.injEq, and_true] at this
    rw [this]
    have h2 := (hok.zero v (by rw [h1]; simp)).1
    cases v <;> simp [MV.one] at h2 <;> simp [MV.real, Value.cells, reals]
section
variable {D : Nat → Prop} {n : Nat} {θ : Env} {h : Heap} {w : World}
theorem row_yield (hn : ∀ y, D y → y < n) (hr : Rel θ h w) (ho : okH D h) (hT : TyOk P T) {a : Fr} {A : Act} (ha : okF D a) (fa : RelF θ a A) {t len : Nat} {ps : Array (Nat × Operand)} {r : R} (e : eRow T a h n t len ps.toList (rowTI T t) = some r) :
    Yields P D n θ h w (do pure (.value (← Instr.buildSlice t len (ps.map fun (i, x) => (i, A.eval x))))) r := by
  unfold eRow at e
  split at e
  · cases e
  rename_i te hte
  obtain ⟨el, hu, hel, helt, hfd⟩ := rowTI_ok hT hte
  split at e
  · cases e
  rename_i hle
  have hle' : len * te.size ≤ 16777216 := by rw [natBle, decide_eq_true_eq] at hle; exact hle
  have e2 := repK_some e
  have hok := hT el te hel
  have hpl : ∀ i off tj, placeOf T t i = some (off, tj) → (fun i => some (i * te.size, te.size) : Nat → Option (Nat × Nat)) i = some (off, tj.size) := by
    intro i off tj hp
    unfold placeOf at hp
    rw [hfd, helt] at hp
    unfold elemPl at hp
    simp only [Option.some.injEq, Prod.mk.injEq] at hp
    obtain ⟨rfl, rfl⟩ := hp
    rfl
  have z1 : oks D (List.replicate len te.zero).flatten := (oks_iff D _).2 fun v hv => MV.ok_mono (fun _ h => h.elim) (hok.zero v (mem_flat hv)).2.1
  obtain ⟨cs, q1, q2, q3, q4, q5⟩ := parts_ok ha fa _ hpl e2 z1 (fun v hv => (hok.zero v (mem_flat hv)).1)
  obtain ⟨z, hz1, hz2⟩ := zero_cells hT hel θ w
  have rs := run_size hT hel w
  have hlen : (reals θ te.zero).length = te.size := by rw [reals_len, hok.len]
  have hps : (ps.map fun (i, x) => (i, A.eval x)).toList = ps.toList.map fun (i, x) => (i, A.eval x) := by simp
  have hrun : (Instr.buildSlice t len (ps.map fun (i, x) => (i, A.eval x))).run P w = .ok (.slice (some ⟨w.heap.size, 0, none⟩) len len) (pushed w (.cells (reals θ cs).toArray el)) := by
    unfold Instr.buildSlice
    refine (run_und hu w _).trans ?_
    simp only
    refine (run_seq rs).trans ?_
    rw [if_neg (by omega)]
    have hps' : (ps.map fun x => (x.fst, A.eval x.snd)).toList = ps.toList.map fun (i, x) => (i, A.eval x) := hps
    by_cases h0 : len * te.size = 0
    · rw [if_pos h0]
      refine (run_seq (a := #[]) (w' := w) rfl).trans ?_
      have hz : ((Array.range (len * te.size)).map ((#[] : Array Value)[· % (#[] : Array Value).size]!)) = (reals θ (List.replicate len te.zero).flatten).toArray := by
        rw [reals_flat]
        have : (List.replicate len (reals θ te.zero)).flatten = [] := List.length_eq_zero_iff.1 (by rw [flat_len, hlen]; exact h0)
        rw [this, h0]; simp
      rw [hz, hps', q5]
      rfl
    · rw [if_neg h0]
      refine (run_seq hz1).trans ?_
      rw [hz2]
      refine (run_seq (a := (reals θ te.zero).toArray) (w' := w) rfl).trans ?_
      have hz : ((Array.range (len * te.size)).map ((reals θ te.zero).toArray[· % (reals θ te.zero).toArray.size]!)) = (reals θ (List.replicate len te.zero).flatten).toArray := by
        rw [reals_flat]
        have := range_cells (reals θ te.zero) len
        rw [hlen] at this
        exact this
      rw [hz, hps', q5]
      rfl
  refine cells_yield hn hr ho (l := cs) (t := el) (x := .value (.slice (some ⟨w.heap.size, 0, none⟩) len len)) (fun v hv => ⟨(oks_iff D _).1 q3 v hv, q4 v hv⟩) ?_ ?_ ?_ q1
  · rw [run_seq hrun]; rfl
  · intro θ' hθ
    simp [MV.real, hθ.1, hθ.2, Cap.real]
  · simp only [MV.ok, Cap.ok, and_true]
    exact .inr ⟨Nat.le_refl _, by omega⟩
end
end Go.Proofs.YtkeckbmhaplkpaaGreatDoor.Ln
/- Writing into memory. -/
namespace Go.Proofs.YtkeckbmhaplkpaaGreatDoor.Ln
open Go
variable {P : Program} {T : Types}

theorem one_cell {v : MV} (θ : Env) (h : v.one) : (v.real θ).oneCell' = true := by
  cases v with
  | agg => exact h.elim
  | tuple => exact h.elim
  | _ => rfl
theorem cell_of_heap {w w' : World} (e : w'.heap = w.heap) (a : Addr) : w'.cell? a = w.cell? a := World.cell?_of_block (by rw [e])
theorem frozen_of_heap {w w' : World} (e : w'.heap = w.heap) (a : Addr) : w'.frozen? a = w.frozen? a := World.frozen?_of_block (by rw [e])
theorem ObjIs.heap {θ : Env} {y : Nat} {o : MObj} {w w' : World} (e : w'.heap = w.heap) (h : ObjIs θ y w o) : ObjIs θ y w' o := by
  cases o with
  | cells l r =>
    simp only [ObjIs] at h ⊢
    refine ⟨fun j hj => by rw [cell_of_heap e, frozen_of_heap e]; exact h.1 j hj, HasRoom.move (fun _ _ => rfl) (by rw [e]) h.2⟩
  | map es c => simp only [ObjIs] at h ⊢; rw [e]; exact h
  | trow t =>
    simp only [ObjIs] at h ⊢
    refine ⟨fun j v hv => by rw [cell_of_heap e, frozen_of_heap e]; exact h.1 j v hv, HasRoom.move (fun _ _ => rfl) (by rw [e]) h.2⟩
  | dead => trivial
theorem Rel.heap {θ : Env} {h : Heap} {w w' : World} (e : w'.heap = w.heap) (hr : Rel θ h w) : Rel θ h w' :=
  ⟨fun y o hy => ObjIs.heap e (hr.obj y o hy), hr.sep, fun y hy => by rw [e]; exact hr.lt y hy⟩
theorem Leads.heap {D : Nat → Prop} {n n' : Nat} {θ θ' : Env} {h h' : Heap} {w w' w'' : World} (a : Leads D n θ h w n' θ' h' w') (e : w''.heap = w'.heap) (os : w''.os = w'.os) (tape : w''.tape = w'.tape) (output : w''.output = w'.output) : Leads D n θ h w n' θ' h' w'' where
  le := a.le
  same := a.same
  rel := Rel.heap e a.rel
  ok := a.ok
  os := os.trans a.os
  tape := tape.trans a.tape
  output := output.trans a.output
  size := by rw [e]; exact a.size
  kept := by rw [e]; exact a.kept
  born := a.born
theorem size_setCells (b : Nat) : ∀ (vs : List Value) (o : Nat) (w : World), (w.setCells b o vs).heap.size = w.heap.size
  | [], _, _ => rfl
  | v :: r, o, w => by
    rw [World.setCells, size_setCells b r]
    simp [World.setCell]
theorem tape_setCells (b : Nat) : ∀ (vs : List Value) (o : Nat) (w : World), (w.setCells b o vs).tape = w.tape
  | [], _, _ => rfl
  | v :: r, o, w => by rw [World.setCells, tape_setCells b r]; rfl
section
variable {D : Nat → Prop} {n : Nat} {θ : Env} {h : Heap} {w : World}
/-- Cells written into a row. -/
theorem lead_writes (hn : ∀ y, D y → y < n) (hr : Rel θ h w) (ho : okH D h) {y o : Nat} {l vs : List MV} {r : Option (Nat × Nat)} (hy : h.get y = some (.cells l r)) (hv : ∀ v ∈ vs, v.ok D ∧ v.one) (hl : vs ≠ [] → o + vs.length ≤ l.length) :
    Leads D n θ h w n θ (h.set y (.cells (writes l o vs) r)) (w.setCells (θ.blk y) (θ.off y + o) (reals θ vs)) := by
  have hobj := hr.obj y _ hy
  simp only [ObjIs] at hobj
  have hok := (ho y _ hy).2
  simp only [MObj.ok] at hok
  refine lead_put hn hr ho ⟨_, hy, by simp⟩ ?_ ?_ (World.os_setCells _ _ _ _) (tape_setCells _ _ _ _) (World.output_setCells _ _ _ _) (size_setCells _ _ _ _) ?_
  · simp only [ObjIs]
    refine ⟨fun j hj => ?_, ?_⟩
    · rw [writes_len] at hj
      rw [World.frozen?_setCells]
      refine ⟨?_, (hobj.1 j hj).2⟩
      by_cases h0 : vs = []
      · subst h0
        simp only [reals, World.setCells, writes]
        exact (hobj.1 j hj).1
      have hb := hl h0
      have hw := writes_get l o vs j hb
      rw [List.getElem?_eq_getElem (by rw [writes_len]; exact hj)] at hw
      by_cases hin : o ≤ j ∧ j < o + vs.length
      · rw [if_pos hin, List.getElem?_eq_getElem (by omega)] at hw
        have := World.cell?_setCells_in (θ.blk y) (reals θ vs) (θ.off y + o) w (fun i hi => by
          rw [reals_len] at hi
          rw [Nat.add_assoc, (hobj.1 (o + i) (by omega)).1]; rfl) (j - o) (by rw [reals_len]; omega)
        rw [show θ.off y + o + (j - o) = θ.off y + j by omega] at this
        rw [this]
        rw [Option.some.inj hw]
        have := reals_get θ vs (j - o)
        rw [List.getElem?_eq_getElem (by rw [reals_len]; omega), List.getElem?_eq_getElem (by omega)] at this
        exact this
      · rw [if_neg hin, List.getElem?_eq_getElem hj] at hw
        rw [World.cell?_setCells_out, Option.some.inj hw]
        · exact (hobj.1 j hj).1
        · intro _ _
          simp only [reals_len]
          omega
    · cases r with
      | none => exact hobj.2
      | some x =>
        intro j hj
        rw [writes_len]
        obtain ⟨⟨v, hv⟩, hf⟩ := hobj.2 j hj
        refine ⟨Option.isSome_iff_exists.1 (World.isSome_setCells _ _ _ _ _ (by rw [hv]; rfl)), ?_⟩
        rw [World.frozen?_setCells]; exact hf
  · simp only [MObj.ok]
    refine ⟨fun v hv' => ?_, hok.2⟩
    rcases mem_writes hv' with h1 | h1
    · exact hok.1 v h1
    · exact hv v h1
  · intro b hb
    by_cases hlt : b < w.heap.size
    · exact World.heap_setCells_other w _ _ _ hlt hb
    · rw [Array.getElem?_eq_none (by rw [size_setCells]; omega), Array.getElem?_eq_none (by omega)]
theorem run_writes (hr : Rel θ h w) {y o : Nat} {l vs : List MV} {r : Option (Nat × Nat)} (hy : h.get y = some (.cells l r)) (hv : ∀ v ∈ vs, v.one) (hl : vs ≠ [] → o + vs.length ≤ l.length) :
    (Go.storeCells ⟨θ.blk y, θ.off y + o, none⟩ (reals θ vs)).run P w = .ok () (w.setCells (θ.blk y) (θ.off y + o) (reals θ vs)) := by
  have hobj := hr.obj y _ hy
  simp only [ObjIs] at hobj
  have key : ∀ j, j < (reals θ vs).length → o + j < l.length := by
    intro j hj
    rw [reals_len] at hj
    have := hl (by intro e; rw [e] at hj; simp at hj)
    omega
  have := run_storeCells_cells (P := P) (θ.blk y) (θ.off y + o) (reals θ vs) 0 w (fun j hj => by
      rw [Nat.add_zero, Nat.add_assoc, (hobj.1 (o + j) (key j hj)).1]; rfl)
    (fun j hj => by rw [Nat.add_zero, Nat.add_assoc]; exact (hobj.1 (o + j) (key j hj)).2)
    (fun v hv' => by
      rw [reals_map] at hv'
      obtain ⟨u, hu, rfl⟩ := List.mem_map.1 hv'
      exact one_cell θ (hv u hu))
  exact this
theorem storeCells_some (_hn : ∀ y, D y → y < n) (_hr : Rel θ h w) (_ho : okH D h) {y o : Nat} {vs : List MV} {v : MV} {ob : Option MObj} {r : R} (e : storeCells h n y o vs v ob = some r) :
    ∃ l q, ob = some (.cells l q) ∧ (vs ≠ [] → o + vs.length ≤ l.length) ∧ r = ⟨v, h.set y (.cells (writes l o vs) q), n⟩ := by
  unfold storeCells at e
  split at e
  · obtain ⟨h1, h2⟩ := fillK_some e
    exact ⟨_, _, rfl, h1, put1_some h2⟩
  · cases e
theorem store_yield (hn : ∀ y, D y → y < n) (hr : Rel θ h w) (ho : okH D h) (hT : TyOk P T) {t : Nat} {p x : MV} (hx : x.ok D) {r : R} (e : eStore h n (T.get t) (some p) (some x) = some r) :
    Yields P D n θ h w (do Instr.storeAt t (p.real θ) (x.real θ); pure .skip) r := by
  unfold eStore at e
  split at e
  · cases e
  rename_i ti ht
  simp only at e
  unfold storeV at e
  split at e
  · rename_i y o
    unfold storeVs at e
    split at e
    · cases e
    rename_i vs hvs
    split at e
    · rename_i hs
      rw [natBeq, llen_eq, decide_eq_true_eq] at hs
      obtain ⟨l, q, h1, h2, rfl⟩ := storeCells_some hn hr ho e
      obtain ⟨c1, c2, c3⟩ := cells_some hvs θ hx
      have hv : ∀ v ∈ vs, v.ok D ∧ v.one := fun v hv => ⟨(oks_iff D _).1 c2 v hv, c3 v hv⟩
      refine ⟨θ, _, .skip, ?_, .inr ⟨rfl, rfl⟩, lead_writes hn hr ho h1 hv h2, by simp [MV.ok, oks]⟩
      have hrun : (Instr.storeAt t ((MV.ptr y o).real θ) (x.real θ)).run P w = .ok () (w.setCells (θ.blk y) (θ.off y + o) (reals θ vs)) := by
        unfold Instr.storeAt
        simp only [MV.real]
        have hsa : (Instr.sureAddr (.pointer (some ⟨θ.blk y, θ.off y + o, none⟩))).run P w = .ok ⟨θ.blk y, θ.off y + o, none⟩ w := rfl
        refine (run_seq hsa).trans ?_
        unfold storeVar
        refine (run_seq (run_size hT ht w)).trans ?_
        rw [c1]
        have : ¬ ((reals θ vs).toArray.size ≠ ti.size) := by simp [reals_len, hs]
        rw [if_neg this]
        exact run_writes hr h1 c3 h2
      exact run_seq hrun
    · cases e
  · cases e
end
end Go.Proofs.YtkeckbmhaplkpaaGreatDoor.Ln
/- append and copy. -/
namespace Go.Proofs.YtkeckbmhaplkpaaGreatDoor.Ln
open Go
variable {P : Program} {T : Types}

section
variable {D : Nat → Prop} {n : Nat} {θ : Env} {h : Heap} {w : World}
theorem lead_kill (hn : ∀ y, D y → y < n) (hr : Rel θ h w) (ho : okH D h) {y : Nat} (hy : Live h y) : Leads D n θ h w n θ (h.set y .dead) w :=
  lead_put hn hr ho hy trivial trivial rfl rfl rfl rfl fun _ _ => rfl
/-- A name's block under a new name; the old one is no more. -/
theorem lead_move (hn : ∀ y, D y → y < n) (hr : Rel θ h w) (ho : okH D h) {w' : World} {y o c : Nat} {mo : MObj} (hy : Live h y) (hobj : ObjIs (θ.upd n (θ.blk y) o c) n w' mo) (hok : mo.ok (Up D n (n + 1)))
    (os : w'.os = w.os) (tape : w'.tape = w.tape) (output : w'.output = w.output) (size : w'.heap.size = w.heap.size) (kept : ∀ b, b ≠ θ.blk y → w'.heap[b]? = w.heap[b]?) :
    Leads D n θ h w (n + 1) (θ.upd n (θ.blk y) o c) ((h.set y .dead).set n mo) w' := by
  have hs := upd_same (θ := θ) (b := θ.blk y) (o := o) (c := c) hn
  have live : ∀ z, Live ((h.set y .dead).set n mo) z → z = n ∨ (z ≠ n ∧ z ≠ y ∧ Live h z) := by
    rintro z ⟨o, ho', hd⟩
    rcases PT.get_set ho' with ⟨rfl, _⟩ | ⟨hne, h2⟩
    · exact .inl rfl
    · rcases PT.get_set h2 with ⟨rfl, e⟩ | ⟨hne', h3⟩
      · exact absurd e hd
      · exact .inr ⟨hne, hne', o, h3, hd⟩
  have blk : ∀ z, Live h z → (θ.upd n (θ.blk y) o c).blk z = θ.blk z := fun z ⟨o, h1, _⟩ => (hs z (ho z o h1).1).1
  exact {
    le := Nat.le_succ n
    same := upd_same fun _ hy => hy
    rel := {
      obj := fun z ob hz => by
        rcases PT.get_set hz with ⟨rfl, rfl⟩ | ⟨hne, h2⟩
        · exact hobj
        · rcases PT.get_set h2 with ⟨rfl, rfl⟩ | ⟨hne', h3⟩
          · trivial
          · by_cases hd : ob = .dead
            · subst hd; trivial
            · exact ObjIs.move hs (ho z _ h3).1 (ho z _ h3).2 (kept _ fun e => hne' (hr.sep z y ⟨ob, h3, hd⟩ hy e)) (hr.obj z _ h3)
      sep := fun a b ha hb e => by
        rcases live a ha with rfl | ⟨hyn, hyy, ha'⟩ <;> rcases live b hb with rfl | ⟨hzn, hzy, hb'⟩
        · rfl
        · rw [blk b hb', (upd_self θ _ _ _ _).1] at e
          exact absurd (hr.sep y b hy hb' e).symm hzy
        · rw [blk a ha', (upd_self θ _ _ _ _).1] at e
          exact absurd (hr.sep a y ha' hy e) hyy
        · rw [blk a ha', blk b hb'] at e
          exact hr.sep a b ha' hb' e
      lt := fun a ha => by
        rw [size]
        rcases live a ha with rfl | ⟨_, _, ha'⟩
        · rw [(upd_self θ _ _ _ _).1]; exact hr.lt y hy
        · rw [blk a ha']; exact hr.lt a ha' }
    ok := fun z ob hz => by
      rcases PT.get_set hz with ⟨rfl, rfl⟩ | ⟨hne, h2⟩
      · exact ⟨.inr ⟨Nat.le_refl _, by omega⟩, hok⟩
      · rcases PT.get_set h2 with ⟨rfl, rfl⟩ | ⟨hne', h3⟩
        · obtain ⟨ob, h1, _⟩ := hy
          exact ⟨.inl (ho z ob h1).1, trivial⟩
        · exact ⟨.inl (ho z ob h3).1, MObj.ok_mono up_mono (ho z ob h3).2⟩
    os := os
    tape := tape
    output := output
    size := by omega
    kept := fun b _ hne => kept b fun e => hne y hy e.symm
    born := fun z hz => by
      rcases live z hz with rfl | ⟨_, _, hz'⟩
      · exact .inl ⟨y, hy, by rw [(upd_self θ _ _ _ _).1]⟩
      · exact .inl ⟨z, hz', (blk z hz').symm⟩ }
end
/-- What an append takes its second argument for. -/
def SrcT (P : Program) (tx : TypeId) : Prop := (∃ e', P.underlying tx = some (.slice e')) ∨ P.underlying tx = some .string
theorem strCellsK_eq {β : Type} (s : List Nat) (k : List MV → β) : strCellsK s k = k (s.map byteV) := by
  induction s generalizing k with
  | nil => rfl
  | cons b r ih => exact ih _
theorem str_cells (θ : Env) (s : List Nat) : byteCells ⟨(s.map θ.byte).toArray⟩ = reals θ (s.map byteV) := by
  unfold byteCells
  rw [reals_map, List.map_map]
  simp only [List.map_map]
  refine List.map_congr_left fun b hb => ?_
  simp only [Function.comp, byteV_real]
  rfl
theorem ba_size (θ : Env) (s : List Nat) : (ByteArray.mk (s.map θ.byte).toArray).size = s.length := by
  change ((s.map θ.byte).toArray).size = _
  simp
/-- Cells of a row, as the world has them. -/
theorem row_cells {θ : Env} {h : Heap} {w : World} (hr : Rel θ h w) {y o k : Nat} {l : List MV} (hy : cellsAt h y = some l) : ∀ j v, (reals θ ((l.drop o).take k))[j]? = some v → w.cell? ((⟨θ.blk y, θ.off y + o, none⟩ : Addr).add j) = some v := by
  intro j v hv
  obtain ⟨r, hg⟩ := cellsOf_some hy
  have hobj := hr.obj y _ hg
  simp only [ObjIs] at hobj
  rw [reals_get, Option.map_eq_some_iff] at hv
  obtain ⟨m, hm, rfl⟩ := hv
  rw [List.getElem?_take] at hm
  split at hm
  · rw [List.getElem?_drop] at hm
    obtain ⟨hlt, rfl⟩ := List.getElem?_eq_some_iff.1 hm
    rw [addr_add, Nat.add_assoc]
    exact (hobj.1 _ hlt).1
  · cases hm
theorem newsK_some {β : Type} {D : Nat → Prop} {θ : Env} {h : Heap} {w : World} (hr : Rel θ h w) (ho : okH D h) {size : Nat} {x : MV} {k : Nat → List MV → Option β} {b : β} (hx : x.ok D) (e : newsK h size x k = some b) :
    ∃ m news, k m news = some b ∧ (∀ v ∈ news, v.ok D ∧ v.one) ∧ news.length = m * size ∧ ∀ tx, SrcT P tx → Src P size tx (x.real θ) m (reals θ news) w := by
  unfold newsK at e
  split at e
  · exact ⟨0, [], e, (fun v hv => by cases hv), by simp, fun tx hk => ⟨hk, fun _ => rfl, run_firstCells_none w size 0 0 0, run_firstCells_none w.drew size 0 0 0, by simp [reals], fun _ h => by cases h⟩⟩
  · rename_i y o m c
    unfold newsRow at e
    split at e
    · cases e
    rename_i l hl
    rw [ldrop_eq] at e
    obtain ⟨h1, h2⟩ := ltakeK_some e
    obtain ⟨q, hg⟩ := cellsOf_some hl
    have hok := (ho y _ hg).2
    simp only [MObj.ok] at hok
    have hv : ∀ v ∈ (l.drop o).take (m * size), v.ok D ∧ v.one := fun v hv => hok.1 v (List.mem_of_mem_drop (List.mem_of_mem_take hv))
    have hlen : ((l.drop o).take (m * size)).length = m * size := by
      have h1' : m * size ≤ (l.drop o).length := h1
      rw [List.length_take]; omega
    refine ⟨m, _, h2, hv, hlen, fun tx hk => ?_⟩
    have hlr : (reals θ ((l.drop o).take (m * size))).length = m * size := by rw [reals_len, hlen]
    simp only [MV.real]
    refine ⟨hk, fun _ => rfl, run_firstCells_some w size m _ _ _ _ hlr (row_cells hr hl), run_firstCells_some w.drew size m _ _ _ _ hlr (by simpa using row_cells hr hl), hlr, fun u hu => ?_⟩
    rw [reals_map] at hu
    obtain ⟨v, hv', rfl⟩ := List.mem_map.1 hu
    exact one_cell θ (hv v hv').2
  · rename_i s
    split at e
    · rename_i hs
      rw [natBeq, decide_eq_true_eq] at hs
      subst hs
      rw [strCellsK_eq, llen_eq] at e
      refine ⟨_, _, e, ?_, by simp, fun tx hk => ?_⟩
      · intro v hv
        obtain ⟨b, _, rfl⟩ := List.mem_map.1 hv
        exact ⟨byteV_ok b D, byteV_one b⟩
      · have := str_cells θ s
        simp only [MV.real]
        have hsz := ba_size θ s
        refine ⟨hk, fun w' => by simp [Builtin.lenOf, hsz], ?_, ?_, by rw [reals_len]; simp, ?_⟩
        · rw [← this, ← hsz]; exact firstCells_string _ _
        · rw [← this, ← hsz]; exact firstCells_string _ _
        · intro u hu
          rw [reals_map] at hu
          obtain ⟨v, hv', rfl⟩ := List.mem_map.1 hu
          obtain ⟨b, _, rfl⟩ := List.mem_map.1 hv'
          rw [byteV_real]
          rfl
    · cases e
  · cases e
end Go.Proofs.YtkeckbmhaplkpaaGreatDoor.Ln
/- append of a text of which a part is not known. -/
namespace Go.Proofs.YtkeckbmhaplkpaaGreatDoor.Ln
open Go
variable {P : Program} {T : Types}

/-- What is known of the element type of an append. -/
structure Elt (P : Program) (te : TI) (e : TypeId) (i : TypeInfo) (z : Value) : Prop where
  info : P.info? e = some i
  zero : i.zero = some z
  size : i.size = te.size
  bytes : i.bytes ≤ 4095
  cells : z.cells.size = te.size
theorem elt_of (hT : TyOk P T) {el : Nat} {te : TI} (hel : T.get el = some te) (hb : te.bytes ≤ 4095) : ∃ i z, Elt P te el i z := by
  have hok := hT el te hel
  obtain ⟨i, hi, h1, h2, z, hz, hzi⟩ := hok.info
  refine ⟨i, z, hi, hz, h1, by omega, ?_⟩
  unfold ZeroIs at hzi
  split at hzi
  · rw [hzi]; simp [Value.cells, reals_len, hok.len]
  · obtain ⟨v, h1, rfl⟩ := hzi
    have h2 := (hok.zero v (by rw [h1]; simp)).1
    rw [← hok.len, h1]
    cases v <;> simp [MV.one] at h2 <;> simp [MV.real, Value.cells]
def cellB (b : UInt8) : Value := .int .u8 (Int.ofNat b.toNat)
/-- A row of bytes, with room behind them. -/
structure ByteRow (θ : Env) (y : Nat) (w : World) (vs : List UInt8) (rm : Nat) : Prop where
  there : ∀ j, j < vs.length + rm → There w ⟨θ.blk y, θ.off y + j, none⟩
  val : ∀ j b, vs[j]? = some b → w.cell? ⟨θ.blk y, θ.off y + j, none⟩ = some (cellB b)
theorem src_txt {tx : Nat} (hk : SrcT P tx) (bs : List UInt8) (w : World) : Src P 1 tx (.string ⟨bs.toArray⟩) bs.length (bs.map cellB) w := by
  have hsz : (ByteArray.mk bs.toArray).size = bs.length := by
    show bs.toArray.size = _
    simp
  have hc : byteCells ⟨bs.toArray⟩ = bs.map cellB := by unfold byteCells; rfl
  refine ⟨hk, fun w' => by simp [Builtin.lenOf, hsz], ?_, ?_, by simp, fun u hu => ?_⟩
  · rw [← hc, ← hsz]; exact firstCells_string _ _
  · rw [← hc, ← hsz]; exact firstCells_string _ _
  · obtain ⟨b, _, rfl⟩ := List.mem_map.1 hu
    rfl
theorem newTRow_some {h : Heap} {n : Nat} {t : Txt} {r : R} (e : newTRow h n t = some r) : t.wf = true ∧ r = ⟨.tsl n t, h.set n (.trow t), n + 1⟩ := by
  unfold newTRow at e
  split at e
  · rename_i hw; exact ⟨hw, put1_some e⟩
  · cases e
section
variable {D : Nat → Prop} {n : Nat} {θ : Env} {h : Heap} {w : World}
theorem tsl_ok {j : Txt} (hw : j.wf = true) : (MV.tsl n j).ok (Up D n (n + 1)) := by simp only [MV.ok]; exact ⟨.inr ⟨Nat.le_refl _, by omega⟩, hw⟩
theorem lead_trow (hn : ∀ y, D y → y < n) (hr : Rel θ h w) (ho : okH D h) {j : Txt} (hw : j.wf = true) {cs : Array Value} {t : TypeId} (c : Nat)
    (hcs : ∀ (i : Nat) (b : UInt8), (j.bytes θ)[i]? = some b → (cs[i]? : Option Value) = some (cellB b)) (hroom : (j.bytes θ).length + c ≤ cs.size) :
    Leads D n θ h w (n + 1) (θ.upd n w.heap.size 0 c) (h.set n (.trow j)) (pushed w (.cells cs t)) := by
  have hs := upd_same (θ := θ) (b := w.heap.size) (o := 0) (c := c) hn
  refine lead_new hn hr ho c ?_ hw
  simp only [ObjIs, HasRoom]
  rw [(upd_self θ _ _ _ _).1, (upd_self θ _ _ _ _).2.1, (upd_self θ _ _ _ _).2.2, hs.bytes]
  refine ⟨fun i v hv => ?_, fun i hi => ?_⟩
  · rw [List.getElem?_map, Option.map_eq_some_iff] at hv
    obtain ⟨b, hb, rfl⟩ := hv
    rw [Nat.zero_add, cell_push, frozen_push]
    exact ⟨hcs i b hb, rfl⟩
  · have : (j.bytes θ).length + i < cs.size := by omega
    refine ⟨⟨cs[(j.bytes θ).length + i], ?_⟩, ?_⟩
    · rw [Nat.zero_add, cell_push]; exact Array.getElem?_eq_getElem this
    · rw [Nat.zero_add, frozen_push]
variable {t tx el ty : TypeId} {te : TI} {i : TypeInfo} {z : Value}
/-- A new row. -/
theorem grow_txt (hn : ∀ y, D y → y < n) (hr : Rel θ h w) (ho : okH D h) (hu : P.underlying t = some (.slice el)) (hE : Elt P te el i z) (h1 : te.size = 1) (hk : SrcT P tx) {u j : Txt} (huw : u.wf = true) {base : Option Addr} {cap : Nat} {olds : List UInt8}
    (hold : (Builtin.firstCells 1 olds.length (.slice base olds.length cap)).run P w.drew = .ok (olds.map cellB).toArray w.drew) (hol : olds.length ≤ 200000) (hj : j.bytes θ = olds ++ u.bytes θ) (hg : cap < olds.length + (u.bytes θ).length) {r : R} (e : newTRow h n j = some r) :
    Yields P D n θ h w (do pure (.value (← Builtin.append_ #[t, tx] ty #[.slice base olds.length cap, (MV.txt u).real θ]))) r := by
  obtain ⟨hw, rfl⟩ := newTRow_some e
  have bd := (bytes_bd θ (wf_ok huw)).2.2
  have hs := src_txt (P := P) hk (u.bytes θ) w
  have n1 := nextslicecap_le hg
  have n2 : Builtin.nextslicecap (olds.length + (u.bytes θ).length) cap * i.bytes ≤ 2 * 400000 * 4095 := Nat.mul_le_mul (by omega) hE.bytes
  have hrun := run_append_grow_src w t tx ty el i z hu hE.info hE.zero base olds.length cap (olds.map cellB) (by rw [hE.size, h1]; exact hold) (.string ⟨(u.bytes θ).toArray⟩) (u.bytes θ).length ((u.bytes θ).map cellB) (by rw [hE.size, h1]; exact hs) hg (by omega) (by omega)
  have hge := grownCap_ge w (olds.length + (u.bytes θ).length) cap el
  have hlen : (j.bytes θ).length = olds.length + (u.bytes θ).length := by rw [hj, List.length_append]
  have hs' := upd_same (θ := θ) (b := w.heap.size) (o := 0) (c := grownCap w (olds.length + (u.bytes θ).length) cap el - (olds.length + (u.bytes θ).length)) hn
  refine ⟨θ.upd n w.heap.size 0 (grownCap w (olds.length + (u.bytes θ).length) cap el - (olds.length + (u.bytes θ).length)), _, _, run_seq (by simp only [MV.real]; exact hrun), .inl ?_, ?_, ?_⟩
  · change Next.value _ = _
    simp only [MV.real, (upd_self θ _ _ _ _).1, (upd_self θ _ _ _ _).2.1, (upd_self θ _ _ _ _).2.2, hs'.bytes, hlen]
    congr 2
    omega
  · refine Leads.heap (lead_trow (cs := _) (t := el) hn hr ho hw _ (fun q b hb => ?_) ?_) rfl rfl rfl rfl
    · rw [hj] at hb
      have hq := (List.getElem?_eq_some_iff.1 hb).1
      rw [Array.getElem?_append_left (by simpa using hq), List.getElem?_toArray, ← List.map_append, List.getElem?_map, hb]
      rfl
    · rw [Array.size_append, size_zeroCells, hE.cells, h1, hlen]
      simp
  · exact tsl_ok hw
/-- Behind a row of bytes: in place, or into a new one; the old one is no more. -/
theorem more_txt (hn : ∀ y, D y → y < n) (hr : Rel θ h w) (ho : okH D h) (hu : P.underlying t = some (.slice el)) (hE : Elt P te el i z) (h1 : te.size = 1) (hk : SrcT P tx) {u j : Txt} (huw : u.wf = true) {y rm : Nat} {vs : List UInt8}
    (hy : Live h y) (hrow : ByteRow θ y w vs rm) (hvl : vs.length ≤ 200000) (hj : j.bytes θ = vs ++ u.bytes θ) {r : R} (e : newTRow (h.set y .dead) n j = some r) :
    Yields P D n θ h w (do pure (.value (← Builtin.append_ #[t, tx] ty #[.slice (some ⟨θ.blk y, θ.off y, none⟩) vs.length (vs.length + rm), (MV.txt u).real θ]))) r := by
  have hlen : (j.bytes θ).length = vs.length + (u.bytes θ).length := by rw [hj, List.length_append]
  by_cases hfit : (u.bytes θ).length ≤ rm
  · obtain ⟨hw, rfl⟩ := newTRow_some e
    have hs := src_txt (P := P) hk (u.bytes θ) w
    have hrun := run_append_room_src w t tx ty el i hu hE.info (θ.blk y) (θ.off y) vs.length (vs.length + rm) (.string ⟨(u.bytes θ).toArray⟩) (u.bytes θ).length ((u.bytes θ).map cellB) (by rw [hE.size, h1]; exact hs) (by omega)
      (fun q hq => by
        rw [List.length_map] at hq
        rw [hE.size, h1, Nat.mul_one, Nat.add_assoc]
        obtain ⟨⟨v, hv⟩, _⟩ := hrow.there (vs.length + q) (by omega)
        rw [hv]; rfl)
      (fun q hq => by
        rw [List.length_map] at hq
        rw [hE.size, h1, Nat.mul_one, Nat.add_assoc]
        exact (hrow.there (vs.length + q) (by omega)).2)
    rw [hE.size, h1, Nat.mul_one] at hrun
    have hs' := upd_same (θ := θ) (b := θ.blk y) (o := θ.off y) (c := rm - (u.bytes θ).length) hn
    refine ⟨θ.upd n (θ.blk y) (θ.off y) (rm - (u.bytes θ).length), _, _, run_seq (by simp only [MV.real]; exact hrun), .inl ?_, ?_, tsl_ok hw⟩
    · change Next.value _ = _
      simp only [MV.real, (upd_self θ _ _ _ _).1, (upd_self θ _ _ _ _).2.1, (upd_self θ _ _ _ _).2.2, hs'.bytes, hlen]
      congr 2
      omega
    · refine lead_move hn hr ho hy ?_ hw (World.os_setCells _ _ _ _) (tape_setCells _ _ _ _) (World.output_setCells _ _ _ _) (size_setCells _ _ _ _) ?_
      · simp only [ObjIs, HasRoom, (upd_self θ _ _ _ _).1, (upd_self θ _ _ _ _).2.1, (upd_self θ _ _ _ _).2.2, hs'.bytes]
        refine ⟨fun q v hv => ?_, fun q hq => ?_⟩
        · rw [List.getElem?_map, Option.map_eq_some_iff] at hv
          obtain ⟨b, hb, rfl⟩ := hv
          have hq := (List.getElem?_eq_some_iff.1 hb).1
          rw [hlen] at hq
          rw [World.frozen?_setCells]
          refine ⟨?_, (hrow.there q (by omega)).2⟩
          rw [hj] at hb
          by_cases hlt : q < vs.length
          · rw [World.cell?_setCells_out _ _ _ _ _ (fun _ _ => .inl (by simp only; omega))]
            rw [List.getElem?_append_left hlt] at hb
            exact hrow.val q b hb
          · rw [List.getElem?_append_right (by omega)] at hb
            have := World.cell?_setCells_in (θ.blk y) ((u.bytes θ).map cellB) (θ.off y + vs.length) w (fun q hq => by
              rw [List.length_map] at hq
              rw [Nat.add_assoc]
              obtain ⟨⟨v, hv⟩, _⟩ := hrow.there (vs.length + q) (by omega)
              rw [hv]; rfl) (q - vs.length) (by rw [List.length_map]; omega)
            rw [show θ.off y + vs.length + (q - vs.length) = θ.off y + q by omega] at this
            rw [this]
            obtain ⟨hlt2, rfl⟩ := List.getElem?_eq_some_iff.1 hb
            rw [List.getElem_map]
            rfl
        · rw [hlen]
          obtain ⟨⟨v, hv⟩, hf⟩ := hrow.there (vs.length + (u.bytes θ).length + q) (by omega)
          refine ⟨Option.isSome_iff_exists.1 (World.isSome_setCells _ _ _ _ _ (by rw [hv]; rfl)), ?_⟩
          rw [World.frozen?_setCells]; exact hf
      · intro b hb
        by_cases hlt : b < w.heap.size
        · exact World.heap_setCells_other w _ _ _ hlt hb
        · rw [Array.getElem?_eq_none (by rw [size_setCells]; omega), Array.getElem?_eq_none (by omega)]
  · have hlk := lead_kill hn hr ho hy
    have hok2 : okH D (h.set y .dead) := okH_iff (fun y => up_self y) hlk.ok
    obtain ⟨θ', w', v, g1, g2, g3, g4⟩ := grow_txt (h := h.set y .dead) (ty := ty) (cap := vs.length + rm) (olds := vs) hn hlk.rel hok2 hu hE h1 hk huw (base := some ⟨θ.blk y, θ.off y, none⟩)
      (run_firstCells_some w.drew 1 vs.length _ _ _ _ (by simp) (fun q v hv => by
        rw [List.getElem?_map, Option.map_eq_some_iff] at hv
        obtain ⟨b, hb, rfl⟩ := hv
        rw [addr_add]
        simpa using hrow.val q b hb)) hvl hj (by omega) e
    refine ⟨θ', w', v, g1, g2, ?_, g4⟩
    have : Up D n n = D := funext fun y => propext (up_self y)
    refine Leads.trans hlk ?_
    rw [this]
    exact g3
theorem appendT_yield (hn : ∀ y, D y → y < n) (hr : Rel θ h w) (ho : okH D h) (hu : P.underlying t = some (.slice el)) (hE : Elt P te el i z) (hk : SrcT P tx) {s : MV} {u : Txt} (hs : s.ok D) (huw : u.wf = true) {r : R} (e : appendT te h n s u = some r) :
    Yields P D n θ h w (do pure (.value (← Builtin.append_ #[t, tx] ty #[s.real θ, (MV.txt u).real θ]))) r := by
  have bdu := bytes_bd θ (wf_ok huw)
  unfold appendT at e
  split at e
  · cases e
  rename_i h0
  simp only [Bool.and_eq_true, natBeq, natBle, decide_eq_true_eq] at h0
  split at e
  · obtain ⟨hw, _⟩ := newTRow_some e
    refine grow_txt hn hr ho hu hE h0.1 hk huw (base := none) (cap := 0) (olds := []) (run_firstCells_none _ _ _ _ _) (by simp) (by simp) (by simp only [List.length_nil]; omega) e
  · rename_i y len c x
    split at e
    · rename_i hlc
      have hlc := Nat.eq_of_beq_eq_true hlc
      subst hlc
      unfold growT at e
      split at e
      · rename_i l rr hg
        split at e
        · cases e
        rename_i hroom
        unfold room at hroom
        split at hroom
        · cases hroom
        rename_i rr
        obtain ⟨r1, r2⟩ := rr
        simp only [Bool.and_eq_true, natBeq, llen_eq, decide_eq_true_eq] at hroom
        obtain ⟨rfl, rfl, hll⟩ := hroom
        have hll : l.length = len := by rw [hll]; show 0 + len * 1 = len; omega
        obtain ⟨_, e⟩ := ltakeK_some e
        rw [← hll, List.take_length] at e
        obtain ⟨bs, hbs, e⟩ := bytesOfK_some e
        have e := lappK_some e
        rw [PT.setK_eq] at e
        obtain ⟨hw, _⟩ := newTRow_some e
        have hobj := hr.obj y _ hg
        simp only [ObjIs, HasRoom] at hobj
        have hbl : bs.length = l.length := by rw [hbs, List.length_map]
        have hp := (wf_ok hw).p
        simp only [List.length_append] at hp
        have hrow : ByteRow θ y w (bs.map θ.byte) (θ.cap r1) := by
          refine ⟨fun q hq => ?_, fun q b hb => ?_⟩
          · rw [List.length_map] at hq
            by_cases h5 : q < l.length
            · exact ⟨⟨_, (hobj.1 q h5).1⟩, (hobj.1 q h5).2⟩
            · have := hobj.2 (q - l.length) (by omega)
              rwa [show l.length + (q - l.length) = q by omega] at this
          · rw [List.getElem?_map, Option.map_eq_some_iff] at hb
            obtain ⟨c, hc, rfl⟩ := hb
            have hq := (List.getElem?_eq_some_iff.1 hc).1
            rw [(hobj.1 q (by omega)).1]
            have : l[q]? = some (byteV c) := by rw [hbs, List.getElem?_map, hc]; rfl
            obtain ⟨h6, h7⟩ := List.getElem?_eq_some_iff.1 this
            rw [h7, byteV_real]
            rfl
        have := more_txt (ty := ty) (vs := bs.map θ.byte) hn hr ho hu hE h0.1 hk huw ⟨_, hg, by simp⟩ hrow (by rw [List.length_map]; omega) (j := { u with p := bs ++ u.p }) (by simp only [Txt.bytes, Txt.part, List.map_append, List.append_assoc]) e
        simp only [MV.real, Cap.real, Nat.add_zero]
        rw [List.length_map, hbl, hll] at this
        simpa only [MV.real] using this
      · cases e
    · cases e
  · rename_i y s
    simp only [MV.ok] at hs
    unfold moreT at e
    split at e
    · cases e
    rename_i v hv
    split at e
    · cases e
    rename_i hsv
    have := txtEq_ok hsv
    subst this
    split at e
    · cases e
    rename_i j hj
    rw [PT.setK_eq] at e
    have hg := trowAt_some hv
    obtain ⟨hw, ej⟩ := joinT_ok θ hs.2 huw hj
    have hobj := hr.obj y _ hg
    simp only [ObjIs, HasRoom] at hobj
    have hrow : ByteRow θ y w (s.bytes θ) (θ.cap y) := by
      refine ⟨fun q hq => ?_, fun q b hb => ?_⟩
      · by_cases h5 : q < (s.bytes θ).length
        · have := hobj.1 q (cellB (s.bytes θ)[q]) (by rw [List.getElem?_map, List.getElem?_eq_getElem h5]; rfl)
          exact ⟨⟨_, this.1⟩, this.2⟩
        · have := hobj.2 (q - (s.bytes θ).length) (by omega)
          rwa [show (s.bytes θ).length + (q - (s.bytes θ).length) = q by omega] at this
      · exact (hobj.1 q (cellB b) (by rw [List.getElem?_map, hb]; rfl)).1
    have := more_txt (ty := ty) (vs := s.bytes θ) hn hr ho hu hE h0.1 hk huw ⟨_, hg, by simp⟩ hrow (bytes_bd θ (wf_ok hs.2)).2.2 (j := j) ej e
    simpa only [MV.real] using this
  · cases e
end
end Go.Proofs.YtkeckbmhaplkpaaGreatDoor.Ln
/- append, second half. -/
namespace Go.Proofs.YtkeckbmhaplkpaaGreatDoor.Ln
open Go
variable {P : Program} {T : Types}

section
variable {D : Nat → Prop} {n : Nat} {θ : Env} {h : Heap} {w : World}
theorem lead_grown (hn : ∀ y, D y → y < n) (hr : Rel θ h w) (ho : okH D h) {l : List MV} {cs : Array Value} {t : TypeId} {size : Nat} (c : Nat) (hl : ∀ v ∈ l, v.ok D ∧ v.one)
    (hcs : ∀ j (hj : j < l.length), cs[j]? = some (l[j].real θ)) (hroom : ∀ j, j < size * c → l.length + j < cs.size) :
    Leads D n θ h w (n + 1) (θ.upd n w.heap.size 0 c) (h.set n (.cells l (some (n, size)))) (w.drew.alloc (.cells cs t)) := by
  refine Leads.heap (lead_row (cs := cs) (t := t) (room := some (n, size)) hn hr ho c hl hcs fun x hx => ?_) rfl rfl rfl rfl
  obtain rfl := Option.some.inj hx
  exact ⟨rfl, hroom⟩
end
theorem newRoom_some {h : Heap} {n size : Nat} {l : List MV} {v : MV} {r : R} (e : newRoom h n size l v = some r) : r = ⟨v, h.set n (.cells l (some (n, size))), n + 1⟩ := put1_some e
section
variable {D : Nat → Prop} {n : Nat} {θ : Env} {h : Heap} {w : World} {t tx el ty : TypeId} {te : TI} {i : TypeInfo} {z : Value} {x : MV} {m : Nat} {news : List MV}
/-- A new row: the old cells, the new ones, room. -/
theorem grow_yield (hn : ∀ y, D y → y < n) (hr : Rel θ h w) (ho : okH D h) (hu : P.underlying t = some (.slice el)) (hE : Elt P te el i z) (hv : ∀ v ∈ news, v.ok D ∧ v.one) (_hlen : news.length = m * te.size) (hs : Src P te.size tx (x.real θ) m (reals θ news) w) {base : Option Addr} {len cap : Nat} {olds : List MV} (hold : (Builtin.firstCells te.size len (.slice base len cap)).run P w.drew = .ok (reals θ olds).toArray w.drew)
    (hov : ∀ v ∈ olds, v.ok D ∧ v.one) (_hol : olds.length = len * te.size) (hg : cap < len + m) (hle : len + m ≤ 1048576) {r : R}
    (e : newRoom h n te.size (olds ++ news) (.slice n 0 (len + m) (.more (len + m) n)) = some r) :
    Yields P D n θ h w (do pure (.value (← Builtin.append_ #[t, tx] ty #[.slice base len cap, x.real θ]))) r := by
  obtain rfl := newRoom_some e
  have h1 := nextslicecap_le hg
  have h2 : Builtin.nextslicecap (len + m) cap * i.bytes ≤ 2 * 1048576 * 4095 := Nat.mul_le_mul (by omega) hE.bytes
  have hrun := run_append_grow_src w t tx ty el i z hu hE.info hE.zero base len cap (reals θ olds) (by rw [hE.size]; exact hold) (x.real θ) m (reals θ news) (by rw [hE.size]; exact hs) hg (by omega) (by omega)
  have hge := grownCap_ge w (len + m) cap el
  refine ⟨θ.upd n w.heap.size 0 (grownCap w (len + m) cap el - (len + m)), _, _, run_seq hrun, .inl ?_, ?_, ?_⟩
  · change Next.value _ = _
    simp only [MV.real, (upd_self θ _ _ _ _).1, (upd_self θ _ _ _ _).2.1, Cap.real, (upd_self θ _ _ _ _).2.2]
    congr 2
    omega
  · refine lead_grown hn hr ho _ ?_ ?_ ?_
    · intro v hv'
      rcases List.mem_append.1 hv' with h3 | h3
      · exact hov v h3
      · exact hv v h3
    · intro j hj
      have e1 : (reals θ olds ++ reals θ news) = reals θ (olds ++ news) := by simp [reals_map]
      rw [e1, Array.getElem?_append_left (by simp [reals_len] at hj ⊢; omega), List.getElem?_toArray, reals_get, List.getElem?_eq_getElem hj]
      rfl
    · intro j hj
      rw [Array.size_append, size_zeroCells, hE.cells]
      have : ((reals θ olds ++ reals θ news).toArray).size = (olds ++ news).length := by simp [reals_len]
      rw [this]
      rw [Nat.mul_comm]
      exact Nat.add_lt_add_left hj _
  · simp only [MV.ok, Cap.ok]
    exact ⟨.inr ⟨Nat.le_refl _, by omega⟩, .inr ⟨Nat.le_refl _, by omega⟩⟩
/-- The old row, in place, under its own name. -/
theorem here_yield (hn : ∀ y, D y → y < n) (hr : Rel θ h w) (ho : okH D h) (hu : P.underlying t = some (.slice el)) (hE : Elt P te el i z) (hv : ∀ v ∈ news, v.ok D ∧ v.one) (hlen : news.length = m * te.size) (hs : Src P te.size tx (x.real θ) m (reals θ news) w) {y o len : Nat} {c : Cap} {r : R} (hc : c.ok D) (hy : D y) (hle : len + m ≤ c.least)
    (e : storeCells h n y (o + len * te.size) news (.slice y o (len + m) c) (h.get y) = some r) :
    Yields P D n θ h w (do pure (.value (← Builtin.append_ #[t, tx] ty #[(MV.slice y o len c).real θ, x.real θ]))) r := by
  obtain ⟨l, q, h1, h2, rfl⟩ := storeCells_some hn hr ho e
  have hobj := hr.obj y _ h1
  simp only [ObjIs] at hobj
  have key : ∀ j, j < (reals θ news).length → o + len * te.size + j < l.length := by
    intro j hj
    rw [reals_len] at hj
    have := h2 (by intro e; rw [e] at hj; simp at hj)
    omega
  have hreal : len + m ≤ c.real θ := by
    cases c with
    | just k => exact hle
    | more k x => simp only [Cap.least, Cap.real] at hle ⊢; omega
  have hrun := run_append_room_src w t tx ty el i hu hE.info (θ.blk y) (θ.off y + o) len (c.real θ) (x.real θ) m (reals θ news) (by rw [hE.size]; exact hs) hreal
    (fun j hj => by rw [hE.size, Nat.add_assoc (θ.off y), Nat.add_assoc (θ.off y), (hobj.1 _ (key j hj)).1]; rfl)
    (fun j hj => by rw [hE.size, Nat.add_assoc (θ.off y), Nat.add_assoc (θ.off y)]; exact (hobj.1 _ (key j hj)).2)
  rw [hE.size, Nat.add_assoc] at hrun
  refine ⟨θ, _, _, run_seq hrun, .inl ?_, lead_writes hn hr ho h1 hv h2, ?_⟩
  · simp only [MV.real]
  · simp only [MV.ok]
    exact ⟨.inl hy, Cap.ok_mono up_mono hc⟩
/-- The old row, in place, where room for it is not known by number: under a new name. -/
theorem room_yield (hn : ∀ y, D y → y < n) (hr : Rel θ h w) (ho : okH D h) (hu : P.underlying t = some (.slice el)) (hE : Elt P te el i z) (hv : ∀ v ∈ news, v.ok D ∧ v.one) (hlen : news.length = m * te.size) (hs : Src P te.size tx (x.real θ) m (reals θ news) w) {y o len c q : Nat} {l : List MV} {r : R} (hy : h.get y = some (.cells l (some (q, te.size)))) (hl : l.length = o + c * te.size) (hlo : len * te.size ≤ (l.drop o).length)
    (_hc : c < len + m) (hfit : len + m ≤ c + θ.cap q) (e : newRoom (h.set y .dead) n te.size ((l.drop o).take (len * te.size) ++ news) (.slice n 0 (len + m) (.more (len + m) n)) = some r) :
    Yields P D n θ h w (do pure (.value (← Builtin.append_ #[t, tx] ty #[(MV.slice y o len (.more c q)).real θ, x.real θ]))) r := by
  obtain rfl := newRoom_some e
  have hobj := hr.obj y _ hy
  simp only [ObjIs, HasRoom] at hobj
  have hok := (ho y _ hy).2
  simp only [MObj.ok] at hok
  have there : ∀ p, p < l.length + te.size * θ.cap q → There w ⟨θ.blk y, θ.off y + p, none⟩ := by
    intro p hp
    by_cases h1 : p < l.length
    · exact ⟨⟨_, (hobj.1 p h1).1⟩, (hobj.1 p h1).2⟩
    · have := hobj.2 (p - l.length) (by omega)
      rwa [show l.length + (p - l.length) = p by omega] at this
  have tot : l.length + te.size * θ.cap q = o + (c + θ.cap q) * te.size := by rw [hl, Nat.add_mul, Nat.mul_comm te.size]; omega
  have m1 : (len + m) * te.size ≤ (c + θ.cap q) * te.size := Nat.mul_le_mul_right _ hfit
  rw [Nat.add_mul] at m1
  rw [List.length_drop] at hlo
  have hnl : (reals θ news).length = m * te.size := by rw [reals_len, hlen]
  have hrun := run_append_room_src w t tx ty el i hu hE.info (θ.blk y) (θ.off y + o) len (c + θ.cap q) (x.real θ) m (reals θ news) (by rw [hE.size]; exact hs) hfit
    (fun j hj => by
      rw [hE.size, Nat.add_assoc (θ.off y), Nat.add_assoc (θ.off y)]
      obtain ⟨⟨v, hv⟩, _⟩ := there (o + len * te.size + j) (by omega)
      rw [hv]; rfl)
    (fun j hj => by
      rw [hE.size, Nat.add_assoc (θ.off y), Nat.add_assoc (θ.off y)]
      exact (there (o + len * te.size + j) (by omega)).2)
  rw [hE.size] at hrun
  have hs' := upd_same (θ := θ) (b := θ.blk y) (o := θ.off y + o) (c := c + θ.cap q - (len + m)) hn
  have hall : ∀ v ∈ (l.drop o).take (len * te.size) ++ news, v.ok D ∧ v.one := by
    intro v hv'
    rcases List.mem_append.1 hv' with h3 | h3
    · exact hok.1 v (List.mem_of_mem_drop (List.mem_of_mem_take h3))
    · exact hv v h3
  have halen : ((l.drop o).take (len * te.size) ++ news).length = (len + m) * te.size := by
    rw [List.length_append, List.length_take, List.length_drop, hlen, Nat.add_mul]; omega
  refine ⟨θ.upd n (θ.blk y) (θ.off y + o) (c + θ.cap q - (len + m)), _, _, run_seq hrun, .inl ?_, ?_, ?_⟩
  · change Next.value _ = _
    simp only [MV.real, (upd_self θ _ _ _ _).1, (upd_self θ _ _ _ _).2.1, Cap.real, (upd_self θ _ _ _ _).2.2, Nat.add_zero]
    congr 2
    omega
  · refine lead_move hn hr ho ⟨_, hy, by simp⟩ ?_ ?_ (World.os_setCells _ _ _ _) (tape_setCells _ _ _ _) (World.output_setCells _ _ _ _) (size_setCells _ _ _ _) ?_
    · simp only [ObjIs, (upd_self θ _ _ _ _).1, (upd_self θ _ _ _ _).2.1, HasRoom, (upd_self θ _ _ _ _).2.2]
      refine ⟨fun j hj => ?_, fun j hj => ?_⟩
      · rw [halen] at hj
        rw [World.frozen?_setCells]
        rw [Nat.add_mul] at hj
        refine ⟨?_, by rw [Nat.add_assoc]; exact (there (o + j) (by omega)).2⟩
        rw [MV.real_same hs' (hall _ (List.getElem_mem _)).1]
        by_cases h1 : j < len * te.size
        · rw [World.cell?_setCells_out _ _ _ _ _ (fun _ _ => .inl (by simp only; omega)), Nat.add_assoc, (hobj.1 (o + j) (by omega)).1]
          rw [List.getElem_append_left (by rw [List.length_take, List.length_drop]; omega), List.getElem_take, List.getElem_drop]
        · have := World.cell?_setCells_in (θ.blk y) (reals θ news) (θ.off y + o + len * te.size) w (fun i hi => by
            obtain ⟨⟨v, hv⟩, _⟩ := there (o + len * te.size + i) (by omega)
            rw [Nat.add_assoc (θ.off y), Nat.add_assoc (θ.off y), hv]; rfl) (j - len * te.size) (by omega)
          rw [show θ.off y + o + len * te.size + (j - len * te.size) = θ.off y + o + j by omega] at this
          rw [this]
          have hlt : (List.take (len * te.size) (List.drop o l)).length = len * te.size := by rw [List.length_take, List.length_drop]; omega
          rw [List.getElem_append_right (by omega)]
          have h5 := reals_get θ news (j - len * te.size)
          rw [List.getElem?_eq_getElem (by omega), List.getElem?_eq_getElem (by omega)] at h5
          simp only [hlt]
          exact h5
      · rw [halen]
        have m2 : te.size * (c + θ.cap q - (len + m)) = (c + θ.cap q) * te.size - (len + m) * te.size := by rw [Nat.mul_sub, Nat.mul_comm, Nat.mul_comm te.size (len + m)]
        rw [m2] at hj
        obtain ⟨⟨v, hv⟩, hf⟩ := there (o + ((len + m) * te.size + j)) (by omega)
        rw [← Nat.add_assoc] at hv hf
        refine ⟨Option.isSome_iff_exists.1 (World.isSome_setCells _ _ _ _ _ (by rw [hv]; rfl)), ?_⟩
        rw [World.frozen?_setCells]; exact hf
    · simp only [MObj.ok]
      refine ⟨fun v hv => ⟨MV.ok_mono up_mono (hall v hv).1, (hall v hv).2⟩, fun x hx => ?_⟩
      obtain rfl := Option.some.inj hx
      exact .inr ⟨Nat.le_refl _, by omega⟩
    · intro b hb
      by_cases hlt : b < w.heap.size
      · exact World.heap_setCells_other w _ _ _ hlt hb
      · rw [Array.getElem?_eq_none (by rw [size_setCells]; omega), Array.getElem?_eq_none (by omega)]
  · simp only [MV.ok, Cap.ok]
    exact ⟨.inr ⟨Nat.le_refl _, by omega⟩, .inr ⟨Nat.le_refl _, by omega⟩⟩
end
theorem append_yield (hT : TyOk P T) {D : Nat → Prop} {n : Nat} {θ : Env} {h : Heap} {w : World} (hn : ∀ y, D y → y < n) (hr : Rel θ h w) (ho : okH D h) {t tx ty : Nat} {te : TI} {s x : MV} {r : R}
    (ht : rowTI T t = some te) (hk : SrcT P tx) (hs : s.ok D) (hx : x.ok D) (e : appendV te h n s x = some r) :
    Yields P D n θ h w (do pure (.value (← Builtin.append_ #[t, tx] ty #[s.real θ, x.real θ]))) r := by
  obtain ⟨el, hu, hel, _, _⟩ := rowTI_ok hT ht
  unfold appendV at e
  split at e
  · cases e
  rename_i hb
  obtain ⟨i, z, hE⟩ := elt_of hT hel (by rw [natBle, decide_eq_true_eq] at hb; omega)
  split at e
  · rename_i u
    simp only [MV.ok] at hx
    exact appendT_yield hn hr ho hu hE hk hs hx e
  rename_i hxn
  obtain ⟨m, news, e2, hv, hlen, hsrc⟩ := newsK_some (P := P) hr ho hx e
  have hsrc := hsrc tx hk
  cases s with
  | nilSlice =>
    simp only [appendNil] at e2
    split at e2
    · rename_i hm
      obtain rfl := Option.some.inj e2
      rw [natBeq, decide_eq_true_eq] at hm
      subst hm
      have h0 : news = [] := List.length_eq_zero_iff.1 (by rw [hlen]; simp)
      subst h0
      have := run_append_nothing w t tx ty el i hu hE.info none 0 0 (Nat.le_refl _) (x.real θ) (by rw [hE.size]; exact hsrc)
      exact ⟨θ, w, _, run_seq this, .inl rfl, Leads.refl hr ho, by simp [MV.ok]⟩
    · rename_i hm
      rw [natBeq, decide_eq_false_iff_not] at hm
      split at e2
      · cases e2
      rename_i hle
      rw [natBle, decide_eq_true_eq] at hle
      refine grow_yield hn hr ho hu hE hv hlen hsrc (base := none) (len := 0) (cap := 0) (olds := []) (run_firstCells_none _ _ _ _ _) (fun v hv => by cases hv) (by simp) (by omega) (by omega) ?_
      rw [Nat.zero_add]
      exact e2
  | tsl y u =>
    simp only at e2
    split at e2
    · rename_i hm
      obtain rfl := Option.some.inj e2
      rw [natBeq, decide_eq_true_eq] at hm
      subst hm
      have h0 : news = [] := List.length_eq_zero_iff.1 (by rw [hlen]; simp)
      subst h0
      have := run_append_nothing w t tx ty el i hu hE.info (some ⟨θ.blk y, θ.off y, none⟩) (u.bytes θ).length ((u.bytes θ).length + θ.cap y) (Nat.le_add_right _ _) (x.real θ) (by rw [hE.size]; exact hsrc)
      exact ⟨θ, w, _, run_seq (by simp only [MV.real]; exact this), .inl (by simp only [MV.real]), Leads.refl hr ho, MV.ok_mono up_mono hs⟩
    · cases e2
  | slice y o len c =>
    simp only [MV.ok] at hs
    simp only [appendRow] at e2
    split at e2
    · rename_i hle
      rw [natBle, decide_eq_true_eq] at hle
      exact here_yield hn hr ho hu hE hv hlen hsrc hs.2 hs.1 hle e2
    · rename_i hle
      rw [natBle, decide_eq_false_iff_not] at hle
      simp only [grow] at e2
      split at e2
      · cases e2
      rename_i hbig
      rw [natBle, decide_eq_true_eq] at hbig
      have hbig' : len + m ≤ 1048576 := hbig
      have hle' : c.least < len + m := Nat.lt_of_not_le hle
      cases c with
      | just k =>
        simp only at e2
        unfold growJust at e2
        split at e2
        · cases e2
        rename_i l hl
        rw [ldrop_eq] at e2
        obtain ⟨h1, h2⟩ := ltakeK_some e2
        rw [lappK_eq] at h2
        obtain ⟨q, hg⟩ := cellsOf_some hl
        have hok := (ho y _ hg).2
        simp only [MObj.ok] at hok
        have hlr : ((l.drop o).take (len * te.size)).length = len * te.size := by
          have h1' : len * te.size ≤ (l.drop o).length := h1
          rw [List.length_take]; omega
        refine grow_yield hn hr ho hu hE hv hlen hsrc (olds := (l.drop o).take (len * te.size)) ?_ (fun v hv => hok.1 v (List.mem_of_mem_drop (List.mem_of_mem_take hv))) hlr hle' hbig' h2
        exact run_firstCells_some w.drew te.size len _ _ _ _ (by rw [reals_len, hlr]) (by simpa using row_cells hr hl)
      | more k q =>
        simp only at e2
        unfold growMore at e2
        split at e2
        · rename_i l rm hg
          split at e2
          · cases e2
          rename_i hroom
          rw [ldrop_eq] at e2
          obtain ⟨h1, h2⟩ := ltakeK_some e2
          rw [lappK_eq, PT.setK_eq] at h2
          unfold room at hroom
          split at hroom
          · cases hroom
          rename_i rm
          obtain ⟨r1, r2⟩ := rm
          simp only [Bool.and_eq_true, natBeq, llen_eq, decide_eq_true_eq] at hroom
          obtain ⟨rfl, rfl, hll⟩ := hroom
          by_cases hfit : len + m ≤ k + θ.cap r1
          · exact room_yield hn hr ho hu hE hv hlen hsrc hg hll h1 hle' hfit h2
          · have hlk := lead_kill hn hr ho ⟨_, hg, by simp⟩
            have hok := (ho y _ hg).2
            simp only [MObj.ok] at hok
            have hl : cellsAt h y = some l := by simp [cellsAt, MObj.cellsOf, hg]
            have hlr : ((l.drop o).take (len * te.size)).length = len * te.size := by
              have h1' : len * te.size ≤ (l.drop o).length := h1
              rw [List.length_take]; omega
            have hok2 : okH D (h.set y .dead) := okH_iff (fun y => up_self y) hlk.ok
            obtain ⟨θ', w', v, g1, g2, g3, g4⟩ := grow_yield (h := h.set y .dead) (ty := ty) hn hlk.rel hok2 hu hE hv hlen hsrc (base := some ⟨θ.blk y, θ.off y + o, none⟩) (cap := k + θ.cap r1) (olds := (l.drop o).take (len * te.size))
              (run_firstCells_some w.drew te.size len _ _ _ _ (by rw [reals_len, hlr]) (by simpa using row_cells hr hl)) (fun v hv => hok.1 v (List.mem_of_mem_drop (List.mem_of_mem_take hv))) hlr (by omega) hbig' h2
            refine ⟨θ', w', v, g1, g2, ?_, g4⟩
            have : Up D n n = D := funext fun y => propext (up_self y)
            refine Leads.trans hlk ?_
            rw [this]
            exact g3
        · cases e2
  | _ => simp at e2
end Go.Proofs.YtkeckbmhaplkpaaGreatDoor.Ln
/- Maps turned: made, an entry put in, an entry put out. -/
namespace Go.Proofs.YtkeckbmhaplkpaaGreatDoor.Ln
open Go
variable {P : Program} {T : Types}

theorem keyEq_true {k e : MV} (h : keyEq k e = some true) : e = k := by
  unfold keyEq at h
  split at h
  · split at h
    · rename_i q a q' b
      split at h
      · rename_i hk
        have := kindEq_eq hk
        subst this
        simp only [Option.some.injEq, intEq_eq, decide_eq_true_eq] at h
        rw [h]
      · cases h
    · cases h
  · split at h
    · rw [strEqS_true h]
    · cases h
  · cases h
theorem keyStays {P : Program} {d : TypeDesc} {k : MV} (hd : Fits d k) (θ : Env) (w : World) : (Instr.keyThatStays (k.real θ) (k.real θ)).run P w = .ok (k.real θ) w := by
  have : Instr.sameBits 10000 (k.real θ) (k.real θ) = true := by
    show Instr.sameBits (9999 + 1) _ _ = true
    rcases hd with ⟨_, q', n, rfl⟩ | ⟨_, s, rfl⟩ <;> simp [Instr.sameBits, MV.real]
    all_goals (rw [ba_beq]; simp)
  unfold Instr.keyThatStays
  rw [this]
  rfl
/-- Where a key is found. -/
theorem updK_some {D D' : Nat → Prop} {d : TypeDesc} {β : Type} {k v : MV} {es : List Entry} {q : Option (List Entry) → Option β} {y : β} (θ : Env) (hd : Fits d k) (hi : k.ok D) (he : ∀ e ∈ es, e.key.ok D') (h : updK k v es q = some y) (n : Nat) :
    (q none = some y ∧ Instr.findNow d (k.real θ) (es.map (Entry.real θ)) n = some none) ∨
    ∃ j e, es[j]? = some e ∧ e.key = k ∧ q (some (es.set j ⟨k, v, e.born⟩)) = some y ∧ Instr.findNow d (k.real θ) (es.map (Entry.real θ)) n = some (some (n + j, e.val.real θ)) := by
  induction es generalizing q n with
  | nil => exact .inl ⟨h, rfl⟩
  | cons e s ih =>
    change updStep (keyEq k e.key) (q (some (⟨k, v, e.born⟩ :: s))) (updK k v s (updMore e q)) = some y at h
    unfold updStep at h
    split at h
    · cases h
    · rename_i hk
      have hs := keyEq_same θ hd hi (he e (by simp)) hk
      refine .inr ⟨0, e, rfl, keyEq_true hk, h, ?_⟩
      simp only [List.map_cons, Instr.findNow, Entry.real, hs]
      rfl
    · rename_i hk
      have hs := keyEq_same θ hd hi (he e (by simp)) hk
      rcases ih (fun e' h' => he e' (by simp [h'])) h (n + 1) with ⟨h1, h2⟩ | ⟨j, e', h1, h2, h3, h4⟩
      · refine .inl ⟨h1, ?_⟩
        simp only [List.map_cons, Instr.findNow, Entry.real, hs]
        exact h2
      · refine .inr ⟨j + 1, e', h1, h2, h3, ?_⟩
        simp only [List.map_cons, Instr.findNow, Entry.real, hs]
        rw [show n + (j + 1) = n + 1 + j by omega]
        exact h4
theorem delK_some {D D' : Nat → Prop} {d : TypeDesc} {β : Type} {k : MV} {es : List Entry} {q : List Entry → Option β} {y : β} (θ : Env) (hd : Fits d k) (hi : k.ok D) (he : ∀ e ∈ es, e.key.ok D') (h : delK k es q = some y) (n : Nat) :
    (q es = some y ∧ Instr.findNow d (k.real θ) (es.map (Entry.real θ)) n = some none) ∨
    ∃ j e, es[j]? = some e ∧ q (es.eraseIdx j) = some y ∧ Instr.findNow d (k.real θ) (es.map (Entry.real θ)) n = some (some (n + j, e.val.real θ)) := by
  induction es generalizing q n with
  | nil => exact .inl ⟨h, rfl⟩
  | cons e s ih =>
    change updStep (keyEq k e.key) (q s) (delK k s (fun r' => q (e :: r'))) = some y at h
    unfold updStep at h
    split at h
    · cases h
    · rename_i hk
      have hs := keyEq_same θ hd hi (he e (by simp)) hk
      refine .inr ⟨0, e, rfl, h, ?_⟩
      simp only [List.map_cons, Instr.findNow, Entry.real, hs]
      rfl
    · rename_i hk
      have hs := keyEq_same θ hd hi (he e (by simp)) hk
      rcases ih (fun e' h' => he e' (by simp [h'])) h (n + 1) with ⟨h1, h2⟩ | ⟨j, e', h1, h3, h4⟩
      · refine .inl ⟨h1, ?_⟩
        simp only [List.map_cons, Instr.findNow, Entry.real, hs]
        exact h2
      · refine .inr ⟨j + 1, e', h1, h3, ?_⟩
        simp only [List.map_cons, Instr.findNow, Entry.real, hs]
        rw [show n + (j + 1) = n + 1 + j by omega]
        exact h4
theorem map_erase {α β : Type} (f : α → β) (l : List α) (j : Nat) : (l.eraseIdx j).map f = (l.map f).eraseIdx j := by
  induction l generalizing j with
  | nil => rfl
  | cons x r ih => cases j <;> simp [ih]
abbrev mapObj (θ : Env) (es : List Entry) (c : Nat) : Obj := .map (es.map (Entry.real θ)).toArray c
section
variable {D : Nat → Prop} {n : Nat} {θ : Env} {h : Heap} {w : World}
theorem lead_map (hn : ∀ y, D y → y < n) (hr : Rel θ h w) (ho : okH D h) {y : Nat} {es es' : List Entry} {c c' : Nat} (hy : h.get y = some (.map es c)) (hok : ∀ e ∈ es', (e.key.ok D ∧ e.key.one) ∧ e.val.ok D) :
    (Go.setObj (θ.blk y) (mapObj θ es' c')).run P w = .ok () { w with heap := w.heap.setIfInBounds (θ.blk y) (mapObj θ es' c') } ∧
    Leads D n θ h w n θ (h.set y (.map es' c')) { w with heap := w.heap.setIfInBounds (θ.blk y) (mapObj θ es' c') } := by
  have hobj := hr.obj y _ hy
  simp only [ObjIs] at hobj
  have hlt := hr.lt y ⟨_, hy, by simp⟩
  refine ⟨?_, lead_put hn hr ho ⟨_, hy, by simp⟩ ?_ hok rfl rfl rfl (by simp) fun b hb => ?_⟩
  · simp [setObj, Sem.run, hobj]
  · simp [ObjIs, hlt]
  · rw [Array.getElem?_setIfInBounds_ne (Ne.symm hb)]
theorem map_get (hr : Rel θ h w) (_ho : okH D h) {y : Nat} {es : List Entry} {c : Nat} (hy : h.get y = some (.map es c)) : (getObj (θ.blk y)).run P w = .ok (mapObj θ es c) w := by
  have hobj := hr.obj y _ hy
  simp only [ObjIs] at hobj
  simp [getObj, Sem.run, hobj]
theorem makeMap_yield (hn : ∀ y, D y → y < n) (hr : Rel θ h w) (ho : okH D h) {t : Nat} {r : R} (e : put1 h n (.map [] 0) (.map n) (Nat.succ n) = some r) : Yields P D n θ h w (do pure (.value (← Instr.makeMap t none))) r := by
  obtain rfl := put1_some e
  have hl := lead_new (ob := .map #[] 0) (mo := .map [] 0) hn hr ho 0 (by simp [ObjIs, (upd_self θ n w.heap.size 0 0).1]) (by simp [MObj.ok])
  refine ⟨_, _, .value (.map (some w.heap.size)), ?_, .inl ?_, hl, ?_⟩
  · simp [Instr.makeMap, newObj, Sem.run, bind, Sem.bind, pure]
  · simp [MV.real, (upd_self θ n w.heap.size 0 0).1]
  · simp only [MV.ok]; exact .inr ⟨Nat.le_refl _, by omega⟩
theorem putMap_yield (hn : ∀ y, D y → y < n) (hr : Rel θ h w) (ho : okH D h) (hT : TyOk P T) {t : Nat} {m k v : MV} (hk : k.ok D) (hv : v.ok D) {r : R} (e : eMap T t h n (some m) (some k) (some v) = some r) :
    Yields P D n θ h w (do Instr.mapUpdate t (m.real θ) (k.real θ) (v.real θ); pure .skip) r := by
  simp only [eMap] at e
  unfold putMap at e
  split at e
  · cases e
  rename_i hkt
  obtain ⟨kt, et, d, hu, huk, hd, _⟩ := isKeyT_ok hT hkt
  have hone : k.one := by rcases hd with ⟨_, _, _, rfl⟩ | ⟨_, _, rfl⟩ <;> trivial
  split at e
  · rename_i y
    unfold putIn at e
    split at e
    · cases e
    rename_i es hm
    have hg := mapOf_some hm
    have hok := (ho y _ hg).2
    simp only [MObj.ok] at hok
    have hgo := map_get (P := P) hr ho hg
    rcases updK_some θ hd hk (fun e he => (hok e he).1.1) e 0 with ⟨h1, h2⟩ | ⟨j, e0, h0, hke, h1, h2⟩
    · simp only [putNew] at h1
      rw [lappK_eq, fnat_eq] at h1
      obtain rfl := put1_some h1
      obtain ⟨l1, l2⟩ := lead_map (P := P) (es' := es.1 ++ [⟨k, v, es.2⟩]) (c' := es.2 + 1) hn hr ho hg (fun e he => by
        rcases List.mem_append.1 he with h3 | h3
        · exact hok e h3
        · obtain rfl := List.mem_singleton.1 h3
          exact ⟨⟨hk, hone⟩, hv⟩)
      refine ⟨θ, _, .skip, ?_, .inr ⟨rfl, rfl⟩, l2, by simp [MV.ok, oks]⟩
      have : mapObj θ (es.1 ++ [⟨k, v, es.2⟩]) (es.2 + 1) = .map ((es.1.map (Entry.real θ)).toArray.push { key := k.real θ, val := v.real θ, born := es.2 }) (es.2 + 1) := by
        simp [mapObj, Entry.real]
      rw [this] at l1
      simp only [Instr.mapUpdate, Sem.run_bind, run_und0 hu, Result.andThen, MV.real, hgo, Sem.run_pure, run_checkKey huk hd]
      simp only [Instr.findKey, Sem.run_bind, run_und0 huk, Result.andThen, h2, Sem.run_pure, l1, this]
    · simp only [putNew] at h1
      obtain rfl := put1_some h1
      obtain ⟨l1, l2⟩ := lead_map (P := P) (es' := es.1.set j ⟨k, v, e0.born⟩) (c' := es.2) hn hr ho hg (fun e he => by
        rcases List.mem_or_eq_of_mem_set he with h3 | rfl
        · exact hok e h3
        · exact ⟨⟨hk, hone⟩, hv⟩)
      refine ⟨θ, _, .skip, ?_, .inr ⟨rfl, rfl⟩, l2, by simp [MV.ok, oks]⟩
      have hj := (List.getElem?_eq_some_iff.1 h0).1
      have : mapObj θ (es.1.set j ⟨k, v, e0.born⟩) es.2 = .map ((es.1.map (Entry.real θ)).toArray.modify j fun e => { e with key := k.real θ, val := v.real θ }) es.2 := by
        simp only [mapObj]
        congr 1
        apply Array.ext'
        apply List.ext_getElem?
        intro i
        simp only [Array.toList_modify, List.getElem?_modify, List.getElem?_map, List.getElem?_set]
        by_cases hij : j = i
        · subst hij
          simp [hj, Entry.real]
          have := (List.getElem?_eq_some_iff.1 h0).2
          rw [this]
        · simp [hij]
      rw [this] at l1
      have hst := keyStays (P := P) hd θ w
      have hget : (((es.1.map (Entry.real θ)).toArray[j]?).map (·.key)).getD (k.real θ) = k.real θ := by
        simp [h0, Entry.real, hke]
      simp only [Instr.mapUpdate, Sem.run_bind, run_und0 hu, Result.andThen, MV.real, hgo, Sem.run_pure, run_checkKey huk hd]
      simp only [Instr.findKey, Sem.run_bind, run_und0 huk, Result.andThen, h2, Sem.run_pure, Nat.zero_add, hget, hst, l1, this]
  · cases e
theorem delMap_yield (hn : ∀ y, D y → y < n) (hr : Rel θ h w) (ho : okH D h) (hT : TyOk P T) {t ty : Nat} {ts : Array TypeId} (hts : ts[0]? = some t) {m k : MV} (hk : k.ok D) {r : R} (e : delMap T t h n m k = some r) :
    Yields P D n θ h w (do pure (.value (← Builtin.delete_ ts ty #[m.real θ, k.real θ]))) r := by
  unfold delMap at e
  split at e
  · cases e
  rename_i hkt
  obtain ⟨kt, et, d, hu, huk, hd, _⟩ := isKeyT_ok hT hkt
  split at e
  · rename_i y
    unfold delIn at e
    split at e
    · cases e
    rename_i es hm
    have hg := mapOf_some hm
    have hok := (ho y _ hg).2
    simp only [MObj.ok] at hok
    have hgo := map_get (P := P) hr ho hg
    rcases delK_some θ hd hk (fun e he => (hok e he).1.1) e 0 with ⟨h1, h2⟩ | ⟨j, e0, h0, h1, h2⟩
    · obtain rfl := put1_some h1
      obtain ⟨l1, l2⟩ := lead_map (P := P) (es' := es.1) (c' := es.2) hn hr ho hg hok
      refine ⟨θ, _, .value (.tuple #[]), ?_, .inl (by simp [MV.real, reals]), l2, by simp [MV.ok, oks]⟩
      simp only [mapObj] at l1
      simp [Builtin.delete_, hts, Sem.run_bind, run_und0 hu, Result.andThen, MV.real, hgo, run_checkKey huk hd, Instr.findKey, run_und0 huk, h2, l1]
    · obtain rfl := put1_some h1
      obtain ⟨l1, l2⟩ := lead_map (P := P) (es' := es.1.eraseIdx j) (c' := es.2) hn hr ho hg (fun e he => hok e (List.mem_of_mem_eraseIdx he))
      refine ⟨θ, _, .value (.tuple #[]), ?_, .inl (by simp [MV.real, reals]), l2, by simp [MV.ok, oks]⟩
      have hj := (List.getElem?_eq_some_iff.1 h0).1
      have : mapObj θ (es.1.eraseIdx j) es.2 = .map ((es.1.map (Entry.real θ)).toArray.eraseIdxIfInBounds j) es.2 := by
        simp only [mapObj]
        congr 1
        rw [Array.eraseIdxIfInBounds, dif_pos (by simpa using hj)]
        apply Array.ext'
        simp [map_erase]
      rw [this] at l1 ⊢
      simp only [Builtin.delete_, hts, List.getElem?_toArray, List.getElem?_cons_zero, List.getElem?_cons_succ, Sem.run_bind, run_und0 hu, Result.andThen, MV.real, hgo, run_checkKey huk hd, Instr.findKey, run_und0 huk, h2, Nat.zero_add, l1, Sem.run_pure]
  · cases e
end
end Go.Proofs.YtkeckbmhaplkpaaGreatDoor.Ln
/- make of a slice; copy. -/
namespace Go.Proofs.YtkeckbmhaplkpaaGreatDoor.Ln
open Go
variable {P : Program} {T : Types}

theorem zero_is {te : TI} {z : Value} (hz : ∀ v ∈ te.zero, v.one ∧ v.ok (fun _ => False) ∧ ∀ θ : Env, v.real θ = v.real E0) (h : ZeroIs te z) (θ : Env) : z.cells = (reals θ te.zero).toArray := by
  unfold ZeroIs at h
  split at h
  · rw [h, zero_same θ hz]; rfl
  · obtain ⟨v, h1, rfl⟩ := h
    have := zero_same θ hz
    rw [h1] at this ⊢
    simp only [reals, List.cons.injEq, and_true] at this
    rw [this]
    have h2 := (hz v (by rw [h1]; simp)).1
    cases v <;> simp [MV.one] at h2 <;> simp [MV.real, Value.cells, reals]
section
variable {D : Nat → Prop} {n : Nat} {θ : Env} {h : Heap} {w : World}
theorem make_yield (hn : ∀ y, D y → y < n) (hr : Rel θ h w) (ho : okH D h) (hT : TyOk P T) {t : Nat} {l c : MV} {r : R} (e : eMake h n (rowTI T t) (some l) (some c) = some r) :
    Yields P D n θ h w (do pure (.value (← Instr.makeSlice t (l.real θ) (c.real θ)))) r := by
  unfold eMake at e
  split at e
  · cases e
  rename_i te hte
  obtain ⟨el, hu, hel, _, _⟩ := rowTI_ok hT hte
  split at e
  · cases e
  rename_i hb
  simp only at e
  split at e
  · cases e
  rename_i l' hl'
  split at e
  · cases e
  rename_i c' hc'
  split at e
  · cases e
  rename_i hcb
  split at e
  · cases e
  rename_i hlc
  have hb' : te.bytes ≤ 4095 := by rw [natBle, decide_eq_true_eq] at hb; omega
  have hcb' : c' ≤ 1048576 := by rw [natBle, decide_eq_true_eq] at hcb; exact hcb
  have hlc' : l' ≤ c' := by rw [natBle, decide_eq_true_eq] at hlc; exact hlc
  have hl2 : ∃ q, l = .int q (.ofNat l') := by
    unfold natOf at hl'
    split at hl'
    · obtain rfl := Option.some.inj hl'; exact ⟨_, rfl⟩
    · cases hl'
  have hc2 : ∃ q, c = .int q (.ofNat c') := by
    unfold natOf at hc'
    split at hc'
    · obtain rfl := Option.some.inj hc'; exact ⟨_, rfl⟩
    · cases hc'
  obtain ⟨q1, rfl⟩ := hl2
  obtain ⟨q2, rfl⟩ := hc2
  have e2 := repK_some e
  have hok := hT el te hel
  obtain ⟨i, hi, hi1, hi2, z, hz, hzi⟩ := hok.info
  have hz2 := zero_is hok.zero hzi θ
  have hlen : (reals θ te.zero).length = te.size := by rw [reals_len, hok.len]
  refine cells_yield hn hr ho (l := (List.replicate c' te.zero).flatten) (t := el) (x := .value (.slice (some ⟨w.heap.size, 0, none⟩) l' c')) (fun v hv => ⟨MV.ok_mono (fun _ h => h.elim) (hok.zero v (mem_flat hv)).2.1, (hok.zero v (mem_flat hv)).1⟩) ?_ ?_ ?_ e2
  · have hrun : (Instr.makeSlice t ((MV.int q1 (.ofNat l')).real θ) ((MV.int q2 (.ofNat c')).real θ)).run P w = .ok (.slice (some ⟨w.heap.size, 0, none⟩) l' c') (pushed w (.cells (reals θ (List.replicate c' te.zero).flatten).toArray el)) := by
      have hbb : te.bytes * c' ≤ 4095 * 1048576 := Nat.mul_le_mul hb' hcb'
      have hbb' : ((i.bytes : Int) * (Int.ofNat c')) ≤ 281474976710656 := by
        rw [hi2]
        have : ((te.bytes : Int) * (c' : Int)) ≤ ((4095 * 1048576 : Nat) : Int) := by rw [← Int.natCast_mul]; exact Int.ofNat_le.2 hbb
        exact Int.le_trans this (by decide)
      have hm := run_make (P := P) w t el i z hu hi hz q1 q2 (Int.ofNat l') (Int.ofNat c') (Int.natCast_nonneg _) (Int.ofNat_le.2 hlc') hbb' (by show (c' : Int) ≤ 9223372036854775807; omega)
      have e3 : madeCells z.cells ((Int.ofNat c').toNat * i.size) = (reals θ (List.replicate c' te.zero).flatten).toArray := by
        rw [hz2, hi1, reals_flat, ← range_cells, hlen]
        rfl
      rw [e3] at hm
      exact hm
    rw [run_seq hrun]; rfl
  · intro θ' hθ
    simp [MV.real, hθ.1, hθ.2, Cap.real]
  · simp only [MV.ok, Cap.ok, and_true]
    exact .inr ⟨Nat.le_refl _, by omega⟩
end
theorem firstCells_less {D : Nat → Prop} {θ : Env} {h : Heap} {w : World} (hr : Rel θ h w) (ho : okH D h) {size : Nat} {x : MV} {β : Type} {k : Nat → List MV → Option β} {b : β} (hx : x.ok D) (e : newsK h size x k = some b) :
    ∃ m news, k m news = some b ∧ (∀ v ∈ news, v.ok D ∧ v.one) ∧ news.length = m * size ∧ (Builtin.lenOf (x.real θ)).run P w = .ok m w ∧ ∀ q, q ≤ m → (Builtin.firstCells size q (x.real θ)).run P w = .ok (reals θ (news.take (q * size))).toArray w := by
  unfold newsK at e
  split at e
  · exact ⟨0, [], e, (fun v hv => by cases hv), by simp, rfl, fun q hq => by simp only [MV.real]; rw [run_firstCells_none]; simp [reals]⟩
  · rename_i y o m c
    unfold newsRow at e
    split at e
    · cases e
    rename_i l hl
    rw [ldrop_eq] at e
    obtain ⟨h1, h2⟩ := ltakeK_some e
    obtain ⟨rm, hg⟩ := cellsOf_some hl
    have hok := (ho y _ hg).2
    simp only [MObj.ok] at hok
    refine ⟨m, _, h2, fun v hv => hok.1 v (List.mem_of_mem_drop (List.mem_of_mem_take hv)), ?_, rfl, fun q hq => ?_⟩
    · have h1' : m * size ≤ (l.drop o).length := h1
      change ((l.drop o).take (m * size)).length = _
      rw [List.length_take]; omega
    have hqm : q * size ≤ m * size := Nat.mul_le_mul_right _ hq
    have h1' : m * size ≤ (l.drop o).length := h1
    have e1 : ((l.drop o).take (m * size)).take (q * size) = (l.drop o).take (q * size) := by rw [List.take_take, Nat.min_eq_left hqm]
    have e1' : ((l.drop o).take (Nat.mul m size)).take (q * size) = (l.drop o).take (q * size) := e1
    rw [e1']
    simp only [MV.real]
    exact run_firstCells_some w size q _ _ _ _ (by rw [reals_len, List.length_take]; omega) (row_cells hr hl)
  · rename_i s
    split at e
    · rename_i hs
      rw [natBeq, decide_eq_true_eq] at hs
      subst hs
      rw [strCellsK_eq, llen_eq] at e
      refine ⟨_, _, e, ?_, by simp, ?_, fun q hq => ?_⟩
      · intro v hv
        obtain ⟨b, _, rfl⟩ := List.mem_map.1 hv
        exact ⟨byteV_ok b D, byteV_one b⟩
      · simp [MV.real, Builtin.lenOf, ba_size]
      · simp only [MV.real, Builtin.firstCells, Sem.run_pure, Nat.mul_one]
        congr 1
        have := str_cells θ s
        unfold byteCells at this
        rw [reals_take, ← this]
        apply Array.ext'
        simp [ByteArray.extract, ByteArray.copySlice]
    · cases e
  · cases e
theorem copy_yield (hT : TyOk P T) {D : Nat → Prop} {n : Nat} {θ : Env} {h : Heap} {w : World} (hn : ∀ y, D y → y < n) (hr : Rel θ h w) (ho : okH D h) {t ty : Nat} {ts : Array TypeId} (hts : ts[0]? = some t) {te : TI} {s x : MV} {r : R}
    (ht : rowTI T t = some te) (hs : s.ok D) (hx : x.ok D) (e : copyV te h n s x = some r) :
    Yields P D n θ h w (do pure (.value (← Builtin.copy_ ts ty #[s.real θ, x.real θ]))) r := by
  obtain ⟨el, hu, hel, _, _⟩ := rowTI_ok hT ht
  unfold copyV at e
  have rs := run_size hT hel w
  obtain ⟨m, news, e2, hv, hlen, hl, hf⟩ := firstCells_less (P := P) hr ho hx e
  have start : ∀ (base : Option Addr) (dl dc : Nat) (res : Result Value), ((do
      let n := Nat.min (← Builtin.lenOf (x.real θ)) dl
      let cells ← Builtin.firstCells (← sizeOf el) n (x.real θ)
      if let some a := base then Go.storeCells a cells.toList
      pure (goInt n) : Sem Value)).run P w = res → (Builtin.copy_ ts ty #[.slice base dl dc, x.real θ]).run P w = res := by
    intro base dl dc res hres
    unfold Builtin.copy_
    rw [hts]
    simp only [List.getElem?_toArray, List.getElem?_cons_zero, List.getElem?_cons_succ]
    exact (run_und hu w _).trans hres
  cases s with
  | nilSlice =>
    obtain rfl := Option.some.inj e2
    refine ⟨θ, w, _, run_seq (start none 0 0 _ ?_), .inl rfl, Leads.refl hr ho, by simp [MV.ok]⟩
    refine (run_seq hl).trans ?_
    refine (run_seq rs).trans ?_
    refine (run_seq (hf _ (Nat.min_le_left _ _))).trans ?_
    have : Nat.min m 0 = 0 := Nat.min_zero m
    rw [this]
    rfl
  | slice y o len c =>
    simp only [MV.ok] at hs
    simp only [copyRow] at e2
    obtain ⟨h1, h2⟩ := ltakeK_some e2
    have hmin : minN m len = Nat.min m len := by
      unfold minN
      split
      · rename_i hb; rw [natBle, decide_eq_true_eq] at hb; exact (Nat.min_eq_left hb).symm
      · rename_i hb; rw [natBle, decide_eq_false_iff_not] at hb; exact (Nat.min_eq_right (by omega)).symm
    rw [hmin] at h1 h2
    obtain ⟨l, q, g1, g2, rfl⟩ := storeCells_some hn hr ho h2
    have hv' : ∀ v ∈ news.take (Nat.min m len * te.size), v.ok D ∧ v.one := fun v hv0 => hv v (List.mem_of_mem_take hv0)
    refine ⟨θ, _, _, run_seq (start (some ⟨θ.blk y, θ.off y + o, none⟩) len (c.real θ) _ ?_), .inl rfl, lead_writes hn hr ho g1 hv' g2, by simp [MV.ok]⟩
    refine (run_seq hl).trans ?_
    refine (run_seq rs).trans ?_
    refine (run_seq (hf _ (Nat.min_le_left _ _))).trans ?_
    exact run_seq (run_writes hr g1 (fun v hv0 => (hv' v hv0).2) g2)
  | _ => simp at e2
end Go.Proofs.YtkeckbmhaplkpaaGreatDoor.Ln
/- What the evaluator says of an operation that turns the heap, is what the run yields. -/
namespace Go.Proofs.YtkeckbmhaplkpaaGreatDoor.Ln
open Go
variable {P : Program} {T : Types}

theorem Yields.congr {D : Nat → Prop} {n : Nat} {θ : Env} {h : Heap} {w : World} {s s' : Sem Next} {r : R} (e : s.run P w = s'.run P w) (y : Yields P D n θ h w s' r) : Yields P D n θ h w s r := by
  obtain ⟨θ', w', x, h1, h2⟩ := y
  exact ⟨θ', w', x, e.trans h1, h2⟩
theorem eff_sound (hT : TyOk P T) {D : Nat → Prop} {n : Nat} {θ : Env} {a : Fr} {A : Act} {h : Heap} {w : World} (hn : ∀ y, D y → y < n) (ha : okF D a) (fa : RelF θ a A) (hr : Rel θ h w) (ho : okH D h) {o : Oper} {r : R} (e : effOp T a h n o.op = some r) :
    Yields P D n θ h w (execOp A.eval o) r := by
  have one : ∀ {x : Operand} {m : MV}, opd a x = some m → m.ok D ∧ A.eval x = m.real θ := fun h => opd_ok ha fa h
  obtain ⟨dst, op, ty, pos, after, guard⟩ := o
  simp only at e
  cases op <;> simp only [effOp] at e <;> first | (cases e; done) | skip
  case alloc t => exact alloc_yield hn hr ho hT e
  case box t x =>
    cases hx : opd a x with
    | none => rw [hx] at e; cases e
    | some m =>
      rw [hx] at e
      obtain ⟨p, q⟩ := one hx
      have := box_yield (P := P) (t := t) hn hr ho p e
      rw [← q] at this
      exact this
  case buildSlice t len ps => exact row_yield hn hr ho hT ha fa e
  case store t p x =>
    cases hp : opd a p with
    | none =>
      rw [hp] at e
      unfold eStore at e
      split at e <;> cases e
    | some m =>
      cases hx : opd a x with
      | none =>
        rw [hp, hx] at e
        unfold eStore at e
        split at e <;> cases e
      | some m' =>
        rw [hp, hx] at e
        obtain ⟨_, q⟩ := one hp
        obtain ⟨p', q'⟩ := one hx
        have := store_yield hn hr ho hT p' e
        rw [← q, ← q'] at this
        exact this
  case makeMap t k =>
    cases k with
    | none => exact makeMap_yield hn hr ho e
    | some k => cases e
  case makeSlice t l c =>
    cases hp : opd a l with
    | none =>
      rw [hp] at e
      unfold eMake at e
      split at e
      · cases e
      · split at e <;> cases e
    | some m =>
      cases hx : opd a c with
      | none =>
        rw [hp, hx] at e
        unfold eMake at e
        split at e
        · cases e
        · split at e <;> cases e
      | some m' =>
        rw [hp, hx] at e
        obtain ⟨_, q⟩ := one hp
        obtain ⟨p', q'⟩ := one hx
        have := make_yield hn hr ho hT e
        rw [← q, ← q'] at this
        exact this
  case mapUpdate t m k v =>
    cases hm : opd a m with
    | none => rw [hm] at e; cases e
    | some m1 =>
      cases hk : opd a k with
      | none => rw [hm, hk] at e; cases e
      | some k1 =>
        cases hv : opd a v with
        | none => rw [hm, hk, hv] at e; cases e
        | some v1 =>
          rw [hm, hk, hv] at e
          obtain ⟨_, q⟩ := one hm
          obtain ⟨p1, q1⟩ := one hk
          obtain ⟨p2, q2⟩ := one hv
          have := putMap_yield hn hr ho hT p1 p2 e
          rw [← q, ← q1, ← q2] at this
          exact this
  case call c =>
    unfold eCall at e
    split at e
    · rename_i b hc
      unfold builtinV at e
      split at e
      · cases e
      rename_i l hl
      obtain ⟨p, q⟩ := opds_ok ha fa hl
      split at e
      · cases e
      rename_i t ts hts
      have ht0 : c.argTypes[0]? = some t := by rw [← Array.getElem?_toList, hts]; rfl
      split at e
      · split at e
        · rename_i hno
          unfold bAppend at e
          split at e
          · cases e
          rename_i te hte
          split at e
          · rename_i s x
            unfold noInt at hno
            split at hno
            · rename_i t1 tx htx
              obtain ⟨rfl, rfl⟩ : t = t1 ∧ ts = [tx] := by rw [hts] at htx; simpa using htx
              have hk : SrcT P tx := by
                split at hno
                · rename_i ti hti
                  have hd := (hT tx ti hti).d
                  split at hno
                  · rename_i hdd; rw [hdd] at hd; exact .inl ⟨_, hd⟩
                  · rename_i hdd; rw [hdd] at hd; exact .inr hd
                  · cases hno
                · cases hno
              simp only [oks] at p
              have hargs : c.args.map A.eval = #[s.real θ, x.real θ] := by apply Array.ext'; simpa [reals] using q
              have hat : c.argTypes = #[t, tx] := by apply Array.ext'; simpa using hts
              refine Yields.congr ?_ (append_yield hT hn hr ho (tx := tx) (ty := ty) hte hk p.1 p.2.1 e)
              simp only [execOp, resolve, hc, hargs, hat]
              rfl
            · cases hno
          · cases e
        · cases e
      · unfold bCopy at e
        split at e
        · cases e
        rename_i te hte
        split at e
        · rename_i s x
          simp only [oks] at p
          have hargs : c.args.map A.eval = #[s.real θ, x.real θ] := by apply Array.ext'; simpa [reals] using q
          refine Yields.congr ?_ (copy_yield hT hn hr ho (ty := ty) ht0 hte p.1 p.2.1 e)
          simp only [execOp, resolve, hc, hargs]
          rfl
        · cases e
      · split at e
        · rename_i m k
          simp only [oks] at p
          have hargs : c.args.map A.eval = #[m.real θ, k.real θ] := by apply Array.ext'; simpa [reals] using q
          refine Yields.congr ?_ (delMap_yield hn hr ho hT (ty := ty) ht0 p.2.1 e)
          simp only [execOp, resolve, hc, hargs]
          rfl
        · cases e
      · cases e
    · cases e
end Go.Proofs.YtkeckbmhaplkpaaGreatDoor.Ln
/- The evaluator's control: regions in one order and in any, code, calls. -/
namespace Go.Proofs.YtkeckbmhaplkpaaGreatDoor.Ln
open Go
noncomputable section

inductive Ex where
  | normal
  | exit (i : Nat)
  | ret
structure St where
  a : Fr
  h : Heap
  n : Nat
structure X where
  e : Ex
  s : St
/-- What is known of an operation of a region that is run in any order: those ahead of it; where it reads the heap: behind how many effects at least, at most. -/
structure Pl where
  mask : Nat
  rd : Option (Nat × Nat)
abbrev Plans := PT (List Pl)
structure FX where
  fn : Func
  plans : Plans
structure Fns where
  c : Plans → Code → St → Option X
  f : Nat → List MV → Heap → Nat → Option R

/-! ### One operation -/
def putK {β : Type} (a : Fr) (o : Oper) (v : MV) (k : Fr → β) : β := match o.dst with
  | some d => force v fun v => a.setK d v k
  | none => k a
inductive Cls where
  | pure
  | fresh
  | eff
  | call (c : Call) (x : Operand)
def clsCall (c : Call) : Cls := match c.callee with
  | .value x => .call c x
  | .builtin b => (match b with | .append => .eff | .copy => .eff | .delete => .eff | _ => .pure)
  | .invoke _ _ => .eff
def cls (op : Op) : Cls := match op with
  | .call c => clsCall c
  | .alloc _ => .fresh
  | .box _ _ => .fresh
  | .buildSlice _ _ _ => .fresh
  | .makeMap _ _ => .fresh
  | .makeSlice _ _ _ => .fresh
  | .store _ _ _ => .eff
  | .mapUpdate _ _ _ _ => .eff
  | _ => .pure
def wantV (b : Bool) (v : Option MV) : Option Bool := match v with
  | none => none
  | some v => match v with
    | .bool c => (match b with | true => some c | false => (match c with | true => some false | false => some true))
    | _ => some false
def wants (a : Fr) (all : List Oper) (o : Oper) : Option Bool := match o.guard with
  | none => some true
  | some g => match lget all g.1 with
    | none => none
    | some oj => match oj.dst with
      | none => none
      | some d => wantV g.2 (a.get d)
def callArgs (s : Fns) (h : Heap) (n f : Nat) (first cap : List MV) (args : Option (List MV)) : Option R := match args with
  | none => none
  | some l => lappK l cap fun l => lappK first l fun l => s.f f l h n
def callR (s : Fns) (a : Fr) (h : Heap) (n : Nat) (c : Call) (f : Option MV) : Option R := match f with
  | some v => (match v with
    | .func f first cap => callArgs s h n f first cap (opds a c.args.toList)
    | _ => none)
  | none => none
def kPutR (a : Fr) (o : Oper) (r : Option R) (k : Fr → Heap → Nat → Option X) : Option X := match r with
  | none => none
  | some r => putK a o r.v fun a => k a r.h r.n
def kPut (a : Fr) (o : Oper) (v : Option MV) (k : Fr → Option X) : Option X := match v with
  | none => none
  | some v => putK a o v k

/-- The same, where the names must not grow less. -/
def kPutN1 (b : Bool) (a : Fr) (o : Oper) (r : R) (k : Fr → Heap → Nat → Option X) : Option X := match b with
  | false => none
  | true => putK a o r.v fun a => k a r.h r.n
def kPutN (n : Nat) (a : Fr) (o : Oper) (r : Option R) (k : Fr → Heap → Nat → Option X) : Option X := match r with
  | none => none
  | some r => kPutN1 (Nat.ble n r.n) a o r k

/-! ### A region in its one order -/
def sStep (T : Types) (s : Fns) (o : Oper) (t : St) (k : St → Option X) : Option X := match cls o.op with
  | .pure => kPut t.a o (pureOp T t.a t.h o.op) fun a => k ⟨a, t.h, t.n⟩
  | .call c x => kPutR t.a o (callR s t.a t.h t.n c (opd t.a x)) fun a h n => k ⟨a, h, n⟩
  | .fresh => kPutR t.a o (effOp T t.a t.h t.n o.op) fun a h n => k ⟨a, h, n⟩
  | .eff => kPutR t.a o (effOp T t.a t.h t.n o.op) fun a h n => k ⟨a, h, n⟩
def sWant (T : Types) (s : Fns) (w : Option Bool) (o : Oper) (t : St) (k : St → Option X) : Option X := match w with
  | none => none
  | some b => match b with
    | true => sStep T s o t k
    | false => putK t.a o .undef fun a => k ⟨a, t.h, t.n⟩
def sOps (T : Types) (s : Fns) (all l : List Oper) : St → Option X :=
  List.rec (motive := fun _ => St → Option X) (fun t => some ⟨.normal, t⟩) (fun o _ ih t => sWant T s (wants t.a all o) o t ih) l

/-! ### A region in any order -/
structure Pd where
  i : Nat
  y : Nat
  o : MObj
structure Rd where
  a : Fr
  op : Op
  v : MV
  lo : Nat
  hi : Nat
structure Dt where
  a : Fr
  h : Heap
  n : Nat
  ps : List Pd
  hs : List Heap
  rs : List Rd
def bitOf (m i : Nat) : Bool := Nat.beq (Nat.land (Nat.shiftRight m i) 1) 1
def relPut {β : Type} (b : Bool) (p : Pd) (h : Heap) (hit : Heap → β) (miss : β) : β := match b with
  | true => h.setK p.y p.o hit
  | false => miss
def relK {β : Type} (mask : Nat) (ps : List Pd) : Heap → (Heap → List Pd → β) → β :=
  List.rec (motive := fun _ => Heap → (Heap → List Pd → β) → β) (fun h k => k h [])
    (fun p _ ih h k => relPut (bitOf mask p.i) p h (fun h => ih h k) (ih h fun h ps => k h (p :: ps))) ps
def relAllK {β : Type} (ps : List Pd) : Heap → (Heap → β) → β :=
  List.rec (motive := fun _ => Heap → (Heap → β) → β) (fun h k => k h) (fun p _ ih h k => h.setK p.y p.o fun h => ih h k) ps
def capEq (a b : Cap) : Bool := match a with
  | .just n => (match b with | .just m => Nat.beq n m | _ => false)
  | .more n x => (match b with | .more m y => Bool.and (Nat.beq n m) (Nat.beq x y) | _ => false)
def isNil (l : List MV) : Bool := match l with | [] => true | _ => false
def mvEq1 (a b : MV) : Bool := match a with
  | .bool x => (match b with | .bool y => (match x with | true => y | false => (match y with | true => false | false => true)) | _ => false)
  | .int q n => (match b with | .int q' m => Bool.and (kindEq q q') (intEq n m) | _ => false)
  | .str l => (match b with | .str m => strEq l m | _ => false)
  | .nilPtr => (match b with | .nilPtr => true | _ => false)
  | .ptr y o => (match b with | .ptr z p => Bool.and (Nat.beq y z) (Nat.beq o p) | _ => false)
  | .nilSlice => (match b with | .nilSlice => true | _ => false)
  | .slice y o n c => (match b with | .slice z p m d => Bool.and (Nat.beq y z) (Bool.and (Nat.beq o p) (Bool.and (Nat.beq n m) (capEq c d))) | _ => false)
  | .nilMap => (match b with | .nilMap => true | _ => false)
  | .map y => (match b with | .map z => Nat.beq y z | _ => false)
  | .nilFunc => (match b with | .nilFunc => true | _ => false)
  | .nilIface => (match b with | .nilIface => true | _ => false)
  | .num y m c => (match b with | .num z q d => Bool.and (Nat.beq y z) (Bool.and (Nat.beq m q) (Nat.beq c d)) | _ => false)
  | .sym k => (match b with | .sym m => Nat.beq k m | _ => false)
  | .lin y lo hi c => (match b with | .lin z lo' hi' d => Bool.and (sameL y lo hi z lo' hi') (intEq c d) | _ => false)
  | .txt t => (match b with | .txt u => txtEq t u | _ => false)
  | .tsl y t => (match b with | .tsl z u => Bool.and (Nat.beq y z) (txtEq t u) | _ => false)
  | _ => false
def mvsEq (a : List MV) : List MV → Bool :=
  List.rec (motive := fun _ => List MV → Bool) (fun b => isNil b) (fun x _ ih b => match b with | [] => false | y :: r => Bool.and (mvEq1 x y) (ih r)) a
def mvEq (a b : MV) : Bool := match a with
  | .agg l => (match b with | .agg m => mvsEq l m | _ => false)
  | .tuple l => (match b with | .tuple m => mvsEq l m | _ => false)
  | .func f l c => (match b with | .func g m d => Bool.and (Nat.beq f g) (Bool.and (mvsEq l m) (mvsEq c d)) | _ => false)
  | _ => mvEq1 a b
def mvIs (v : MV) (o : Option MV) : Bool := match o with | none => false | some u => mvEq u v
def chk1 (T : Types) (r : Rd) (h : Heap) (b : Bool) : Bool := match b with
  | true => mvIs r.v (pureOp T r.a h r.op)
  | false => true
def chk (T : Types) (rs : List Rd) (h : Heap) (k : Nat) : Bool :=
  List.rec (motive := fun _ => Bool) true (fun r _ ih => Bool.and (chk1 T r h (Bool.and (Nat.ble r.lo k) (Nat.ble k r.hi))) ih) rs
def chkAll (T : Types) (rs : List Rd) (hs : List Heap) : Nat → Bool :=
  List.rec (motive := fun _ => Nat → Bool) (fun _ => true) (fun h _ ih k => Bool.and (chk T rs h k) (ih (Nat.pred k))) hs
def dEnd (T : Types) (t : Dt) : Option X := match chkAll T t.rs (t.h :: t.hs) (llen t.hs) with
  | false => none
  | true => relAllK t.ps t.h fun h => some ⟨.normal, ⟨t.a, h, t.n⟩⟩
def dRead (p : Pl) (o : Oper) (v : MV) (t : Dt) : List Rd := match p.rd with
  | none => t.rs
  | some r => ⟨t.a, o.op, v, r.1, r.2⟩ :: t.rs
def dPure (o : Oper) (p : Pl) (t : Dt) (v : Option MV) (k : Dt → Option X) : Option X := match v with
  | none => none
  | some v => putK t.a o v fun a => k ⟨a, t.h, t.n, t.ps, t.hs, dRead p o v t⟩
def dFresh1 (i : Nat) (o : Oper) (t : Dt) (v : MV) (n : Nat) (ob : Option MObj) (k : Dt → Option X) : Option X := match ob with
  | none => none
  | some ob => putK t.a o v fun a => k ⟨a, t.h, n, ⟨i, t.n, ob⟩ :: t.ps, t.hs, t.rs⟩
def dFresh (i : Nat) (o : Oper) (t : Dt) (r : Option R) (k : Dt → Option X) : Option X := match r with
  | none => none
  | some r => dFresh1 i o t r.v r.n (r.h.get t.n) k
def dStep (T : Types) (s : Fns) (i : Nat) (o : Oper) (p : Pl) (t : Dt) (k : Dt → Option X) : Option X := match cls o.op with
  | .pure => dPure o p t (pureOp T t.a t.h o.op) k
  | .fresh => dFresh i o t (effOp T t.a t.h t.n o.op) k
  | .eff => relK p.mask t.ps t.h fun h ps => kPutN t.n t.a o (effOp T t.a h t.n o.op) fun a h' n => k ⟨a, h', n, ps, t.h :: t.hs, t.rs⟩
  | .call c x => relK p.mask t.ps t.h fun h ps => kPutN t.n t.a o (callR s t.a h t.n c (opd t.a x)) fun a h' n => k ⟨a, h', n, ps, t.h :: t.hs, t.rs⟩
/-- An operation not wanted: an effect counts all the same. -/
def dNot (o : Oper) (t : Dt) (k : Dt → Option X) : Option X := match cls o.op with
  | .pure => putK t.a o .undef fun a => k ⟨a, t.h, t.n, t.ps, t.hs, t.rs⟩
  | .fresh => putK t.a o .undef fun a => k ⟨a, t.h, t.n, t.ps, t.hs, t.rs⟩
  | _ => putK t.a o .undef fun a => k ⟨a, t.h, t.n, t.ps, t.h :: t.hs, t.rs⟩
def dWant (T : Types) (s : Fns) (w : Option Bool) (i : Nat) (o : Oper) (p : Pl) (t : Dt) (k : Dt → Option X) : Option X := match w with
  | none => none
  | some b => match b with
    | true => dStep T s i o p t k
    | false => dNot o t k
def dOps (T : Types) (s : Fns) (all l : List Oper) : List Pl → Nat → Dt → Option X :=
  List.rec (motive := fun _ => List Pl → Nat → Dt → Option X) (fun _ _ t => dEnd T t)
    (fun o _ ih ps i t => match ps with
      | [] => none
      | p :: ps => dWant T s (wants t.a all o) i o p t (ih ps (Nat.succ i))) l
def dRegion (T : Types) (s : Fns) (all : List Oper) (pl : Option (List Pl)) (t : St) : Option X := match pl with
  | none => none
  | some pl => dOps T s all all pl 0 ⟨t.a, t.h, t.n, [], [], []⟩

/-! ### Code, calls -/
def kSeq (q : St → Option X) (r : Option X) : Option X := match r with
  | none => none
  | some p => match p.e with
    | .normal => q p.s
    | .exit i => some ⟨.exit i, p.s⟩
    | .ret => some ⟨.ret, p.s⟩
def kCond (v : Option MV) (x y : Option X) : Option X := match v with
  | some v => (match v with | .bool b => (match b with | true => x | false => y) | _ => none)
  | none => none
def kBlock (id : Nat) (r : Option X) : Option X := match r with
  | none => none
  | some p => match p.e with
    | .normal => some ⟨.normal, p.s⟩
    | .exit i => (match Nat.beq i id with | true => some ⟨.normal, p.s⟩ | false => some ⟨.exit i, p.s⟩)
    | .ret => some ⟨.ret, p.s⟩
def kRegion (T : Types) (s : Fns) (pl : Plans) (id : Nat) (ops : List Oper) (draw : Bool) (t : St) : Option X := match draw with
  | true => dRegion T s ops (pl.get id) t
  | false => sOps T s ops ops t
def sC (T : Types) (s : Fns) (pl : Plans) (c : Code) (t : St) : Option X := match c with
  | .skip => some ⟨.normal, t⟩
  | .region id ops d => kRegion T s pl id ops.toList d t
  | .seq x y => kSeq (s.c pl y) (s.c pl x t)
  | .cond c x y => kCond (opd t.a c) (s.c pl x t) (s.c pl y t)
  | .block id b => kBlock id (s.c pl b t)
  | .loop b => kSeq (s.c pl (.loop b)) (s.c pl b t)
  | .exit id => some ⟨.exit id, t⟩
  | .ret => some ⟨.ret, t⟩
  | _ => none
def resV (T : Types) (a : Fr) (h : Heap) (x : ResultVar) : Option MV := match x with
  | .tmp t => a.get t
  | .cell p t => pLoad T h t (a.get p)
def ress (T : Types) (a : Fr) (h : Heap) (l : List ResultVar) : Option (List MV) :=
  List.rec (motive := fun _ => Option (List MV)) (some []) (fun x _ ih => ocons (resV T a h x) ih) l
def oneOf (l : List MV) : MV := match l with
  | [v] => v
  | l => .tuple l
def kRes1 (h : Heap) (n : Nat) (l : Option (List MV)) : Option R := match l with
  | none => none
  | some l => some ⟨oneOf l, h, n⟩
def kRes (T : Types) (fn : Func) (r : Option X) : Option R := match r with
  | none => none
  | some p => match p.e with
    | .exit _ => none
    | _ => kRes1 p.s.h p.s.n (ress T p.s.a p.s.h fn.results.toList)
/-- The frame's first slots. -/
def argsK {β : Type} (l : List MV) : Nat → Fr → (Fr → β) → β :=
  List.rec (motive := fun _ => Nat → Fr → (Fr → β) → β) (fun _ a k => k a) (fun v _ ih i a k => a.setK i v fun a => ih (Nat.succ i) a k) l
def frame0 : Fr := PT.fill (some .undef) 9
def kFunc (T : Types) (s : Fns) (args : List MV) (h : Heap) (n : Nat) (fx : Option FX) : Option R := match fx with
  | none => none
  | some fx => match fx.fn.body with
    | none => none
    | some b => argsK args 0 frame0 fun a => kRes T fx.fn (s.c fx.plans b ⟨a, h, n⟩)
abbrev Orc := Nat → List MV → Heap → Nat → Option (Option R)
def kOrc (T : Types) (F : PT FX) (s : Fns) (f : Nat) (args : List MV) (h : Heap) (n : Nat) (r : Option (Option R)) : Option R := match r with
  | some r => r
  | none => kFunc T s args h n (F.get f)
def stepF (T : Types) (F : PT FX) (orc : Orc) (s : Fns) : Fns where
  c := sC T s
  f f args h n := kOrc T F s f args h n (orc f args h n)
def Fns.zero : Fns := ⟨fun _ _ _ => none, fun _ _ _ _ => none⟩
def fns (T : Types) (F : PT FX) (orc : Orc) (n : Nat) : Fns := Nat.rec (motive := fun _ => Fns) Fns.zero (fun _ s => stepF T F orc s) n
end
end Go.Proofs.YtkeckbmhaplkpaaGreatDoor.Ln
/- Control is sound: one operation, regions in one order. -/
namespace Go.Proofs.YtkeckbmhaplkpaaGreatDoor.Ln
open Go
variable {P : Program} {T : Types}

/-- What is known of the bytes. -/
abbrev Fact := (Nat → UInt8) → (Nat → ByteArray) → Prop
variable {Φ : Fact}
/-- Names, heap and world agree. -/
structure Inv (Φ : Fact) (D : Nat → Prop) (n : Nat) (θ : Env) (h : Heap) (w : World) : Prop where
  fact : Φ θ.sym θ.txt
  lt : ∀ y, D y → y < n
  rel : Rel θ h w
  ok : okH D h
/-- The frame agrees, and has m slots at least. -/
structure FrOk (D : Nat → Prop) (θ : Env) (a : Fr) (A : Act) (m : Nat) : Prop where
  ok : okF D a
  rel : RelF θ a A
  size : m ≤ A.tmps.size
theorem Leads.inv {D : Nat → Prop} {n n' : Nat} {θ θ' : Env} {h h' : Heap} {w w' : World} (hi : Inv Φ D n θ h w) (l : Leads D n θ h w n' θ' h' w') : Inv Φ (Up D n n') n' θ' h' w' where
  fact := by rw [l.same.sym, l.same.txt]; exact hi.fact
  lt := by
    rintro y (hy | hy)
    · exact Nat.lt_of_lt_of_le (hi.lt y hy) l.le
    · exact hy.2
  rel := l.rel
  ok := l.ok
theorem Leads.env {D : Nat → Prop} {n n' : Nat} {θ θ' : Env} {h h' : Heap} {w w' : World} (hi : Inv Φ D n θ h w) (l : Leads D n θ h w n' θ' h' w') : Env.same D θ θ' := l.same.mono hi.lt
theorem FrOk.env {D D' : Nat → Prop} {θ θ' : Env} {a : Fr} {A : Act} {m : Nat} (hD : ∀ y, D y → D' y) (hs : Env.same D θ θ') (f : FrOk D θ a A m) : FrOk D' θ' a A m where
  ok := fun t v e => MV.ok_mono hD (f.ok t v e)
  rel := ⟨fun t v e => by rw [MV.real_same hs (f.ok t v e)]; exact f.rel.1 t v e, f.rel.2⟩
  size := f.size
theorem putK_eq {β : Type} (a : Fr) (o : Oper) (v : MV) (k : Fr → β) : putK a o v k = k (match o.dst with | some d => a.set d v | none => a) := by
  unfold putK
  cases o.dst with
  | none => rfl
  | some d => simp only [force_eq, PT.setK_eq]
def putFr (a : Fr) (dst : Option Nat) (v : MV) : Fr := match dst with
  | some d => a.set d v
  | none => a
theorem putK_put {β : Type} (a : Fr) (o : Oper) (v : MV) (k : Fr → β) : putK a o v k = k (putFr a o.dst v) := by
  rw [putK_eq]; cases o.dst <;> rfl
theorem FrOk.put {D : Nat → Prop} {θ : Env} {a : Fr} {A : Act} {m : Nat} (f : FrOk D θ a A m) {dst : Option Nat} (hd : ∀ d, dst = some d → d < m) {v : MV} (hv : v.ok D) : FrOk D θ (putFr a dst v) (A.put dst (v.real θ)) m := by
  cases dst with
  | none => exact f
  | some d =>
    have hdm := hd d rfl
    have hsz := f.size
    refine ⟨fun t u e => ?_, ⟨fun t u e => ?_, f.rel.2⟩, by simpa [Act.put] using hsz⟩
    · rcases PT.get_set e with ⟨_, rfl⟩ | ⟨_, e'⟩
      · exact hv
      · exact f.ok t u e'
    · rcases PT.get_set e with ⟨rfl, rfl⟩ | ⟨hne, e'⟩
      · simp only [Act.put]
        rw [Array.getD_eq_getD_getElem?, Array.getElem?_setIfInBounds_self_of_lt (by omega)]
        rfl
      · have := f.rel.1 t u e'
        simp only [Act.put]
        rw [Array.getD_eq_getD_getElem?, Array.getElem?_setIfInBounds_ne (Ne.symm hne), ← Array.getD_eq_getD_getElem?]
        exact this
def Ex.real : Ex → Exit
  | .normal => .normal
  | .exit i => .exit i
  | .ret => .ret
/-- Where a text is left as the evaluator says. -/
def Post (D : Nat → Prop) (n : Nat) (θ : Env) (h : Heap) (w : World) (m : Nat) (x : X) : Exit → Act → World → Prop := fun e A w' =>
  e = x.e.real ∧ ∃ θ', Leads D n θ h w x.s.n θ' x.s.h w' ∧ FrOk (Up D n x.s.n) θ' x.s.a A m
/-- What a call yields as the evaluator says. -/
def Ret (D : Nat → Prop) (n : Nat) (θ : Env) (h : Heap) (w : World) (r : R) : Ending → World → Prop := fun e w' =>
  ∃ θ', e = .returned (r.v.real θ') ∧ Leads D n θ h w r.n θ' r.h w' ∧ r.v.ok (Up D n r.n)
/-- The evaluator's function part is sound. -/
def SoundF (Φ : Fact) (P : Program) (s : Fns) : Prop := ∀ f args h n r, s.f f args h n = some r → ∀ D θ w, Inv Φ D n θ h w → oks D args →
  ((callFunc f (reals θ args).toArray).run P w = .ok (.enter f (reals θ args).toArray) w ∧ Calls P f (reals θ args).toArray w (Ret D n θ h w r)) ∨
  Yields P D n θ h w (callFunc f (reals θ args).toArray) r
theorem Post.lead {D : Nat → Prop} {n n1 : Nat} {θ θ1 : Env} {h h1 : Heap} {w w1 : World} {m : Nat} {x : X} (l : Leads D n θ h w n1 θ1 h1 w1) {e : Exit} {A : Act} {w' : World} (p : Post (Up D n n1) n1 θ1 h1 w1 m x e A w') : Post D n θ h w m x e A w' := by
  obtain ⟨he, θ', l', f⟩ := p
  refine ⟨he, θ', l.trans l', ?_⟩
  have : (Up (Up D n n1) n1 x.s.n) = Up D n x.s.n := funext fun y => propext (up_up l.le l'.le y)
  rw [this] at f
  exact f
/-- An operation that yields what the evaluator says. -/
theorem Yields.wp {D : Nat → Prop} {n : Nat} {θ : Env} {h : Heap} {w : World} {o : Oper} {A : Act} {r : R} {K : Act → World → Prop} {Q : Exit → Act → World → Prop} (y : Yields P D n θ h w (execOp A.eval o) r)
    (hk : ∀ θ' w', Leads D n θ h w r.n θ' r.h w' → r.v.ok (Up D n r.n) → K (A.put o.dst (r.v.real θ')) w') : o.wp P A w K Q := by
  obtain ⟨θ', w', x, h1, h2, h3, h4⟩ := y
  unfold Oper.wp
  rw [h1]
  rcases h2 with rfl | ⟨rfl, hv⟩
  · rw [Oper.upon_value]; exact hk θ' w' h3 h4
  · rw [Oper.upon_skip]
    have := hk θ' w' h3 h4
    rw [hv, real_undef] at this
    exact this
theorem call_wp {s : Fns} (hs : SoundF Φ P s) {D : Nat → Prop} {n : Nat} {θ : Env} {h : Heap} {w : World} {a : Fr} {A : Act} {m : Nat} (hi : Inv Φ D n θ h w) (hf : FrOk D θ a A m) {o : Oper} {c : Call} {x : Operand} (ho : o.op = .call c) (hc : c.callee = .value x) {r : R}
    (e : callR s a h n c (opd a x) = some r) {K : Act → World → Prop} {Q : Exit → Act → World → Prop}
    (hk : ∀ θ' w', Leads D n θ h w r.n θ' r.h w' → r.v.ok (Up D n r.n) → K (A.put o.dst (r.v.real θ')) w') : o.wp P A w K Q := by
  unfold callR at e
  split at e
  · rename_i v hv
    obtain ⟨p, q⟩ := opd_ok hf.ok hf.rel hv
    split at e
    · rename_i f first cap
      unfold callArgs at e
      split at e
      · cases e
      rename_i l hl
      rw [lappK_eq, lappK_eq] at e
      obtain ⟨p', q'⟩ := opds_ok hf.ok hf.rel hl
      simp only [MV.ok] at p
      have hok : oks D (first ++ (l ++ cap)) := (oks_iff D _).2 fun v hv => by
        rcases List.mem_append.1 hv with h1 | h1
        · exact (oks_iff D _).1 p.1 v h1
        · rcases List.mem_append.1 h1 with h2 | h2
          · exact (oks_iff D _).1 p' v h2
          · exact (oks_iff D _).1 p.2 v h2
      have hargs : c.args.map A.eval = (reals θ l).toArray := by apply Array.ext'; simpa using q'
      have hx : A.eval x = .func (.func f) (reals θ first).toArray (reals θ cap).toArray := by rw [q]; simp [MV.real]
      have hrun : (execOp A.eval o).run P w = (callFunc f (reals θ (first ++ (l ++ cap))).toArray).run P w := by
        obtain ⟨dst, op, ty, pos, after, guard⟩ := o
        simp only at ho
        subst ho
        simp only [execOp, resolve, hc, hargs, hx, Deferred.ofValue]
        have : ((reals θ first).toArray ++ (reals θ l).toArray ++ (reals θ cap).toArray) = (reals θ (first ++ (l ++ cap))).toArray := by
          apply Array.ext'; simp [reals_map]
        rw [← this]
        rfl
      rcases hs f _ h n r e D θ w hi hok with ⟨h1, h2⟩ | h2
      · unfold Oper.wp
        rw [hrun, h1, Oper.upon_enter]
        refine Calls.mono h2 ?_
        rintro e w' ⟨θ', rfl, l1, l2⟩
        exact hk θ' w' l1 l2
      · exact Yields.wp (Yields.congr hrun h2) hk
    · cases e
  · cases e
end Go.Proofs.YtkeckbmhaplkpaaGreatDoor.Ln
/- Control is sound: regions in their one order. -/
namespace Go.Proofs.YtkeckbmhaplkpaaGreatDoor.Ln
open Go
variable {Φ : Fact}
variable {P : Program} {T : Types}

theorem real_bool {θ : Env} {v : MV} {c : Bool} (h : v.real θ = .bool c) : v = .bool c := by
  cases v <;> simp [MV.real] at h
  rw [h]
theorem wants_ok {D : Nat → Prop} {θ : Env} {a : Fr} {A : Act} {m : Nat} (f : FrOk D θ a A m) {ops : Array Oper} {o : Oper} {b : Bool} (h : wants a ops.toList o = some b) : Region.wanted o (yielded ops A.tmps) = b := by
  unfold wants at h
  split at h
  · rename_i hg
    obtain rfl := Option.some.inj h
    simp [Region.wanted, hg]
  · rename_i g hg
    obtain ⟨j, wb⟩ := g
    split at h
    · cases h
    rename_i oj hj
    rw [lget_eq, Array.getElem?_toList] at hj
    split at h
    · cases h
    rename_i d hd
    unfold wantV at h
    split at h
    · cases h
    rename_i v hv
    have hr := f.rel.1 d v hv
    simp only [Region.wanted, hg]
    have hy : yielded ops A.tmps j = match A.tmps[d]? with | some (.bool b) => some b | _ => none := by
      unfold yielded
      simp only [hj, Option.bind_some, hd]
      rfl
    rw [hy]
    split at h
    · rename_i c
      have : A.tmps[d]? = some (.bool c) := by
        rw [Array.getD_eq_getD_getElem?] at hr
        cases hq : A.tmps[d]? with
        | none => rw [hq] at hr; simp [undef, MV.real] at hr
        | some u => rw [hq] at hr; simp [MV.real] at hr; rw [hr]
      rw [this]
      cases wb <;> simp only at h
      · split at h <;> obtain rfl := Option.some.inj h <;> rfl
      · obtain rfl := Option.some.inj h; cases c <;> rfl
    · rename_i hnb
      obtain rfl := Option.some.inj h
      have : ∀ c, A.tmps[d]? ≠ some (.bool c) := by
        intro c hc
        rw [Array.getD_eq_getD_getElem?, hc] at hr
        exact hnb c (real_bool hr.symm)
      split
      · rename_i c hc; exact absurd hc (this c)
      · rfl
def DstOk (m : Nat) (o : Oper) : Prop := ∀ d, o.dst = some d → d < m
theorem cls_call {op : Op} {c : Call} {x : Operand} (h : cls op = .call c x) : op = .call c ∧ c.callee = .value x := by
  unfold cls at h
  split at h <;> try cases h
  unfold clsCall at h
  split at h
  · rename_i hc
    cases h
    exact ⟨rfl, hc⟩
  · split at h <;> cases h
  · cases h
theorem kPutR_some {a : Fr} {o : Oper} {r : Option R} {k : Fr → Heap → Nat → Option X} {x : X} (h : kPutR a o r k = some x) : ∃ q, r = some q ∧ k (putFr a o.dst q.v) q.h q.n = some x := by
  unfold kPutR at h
  split at h
  · cases h
  · rw [putK_put] at h
    exact ⟨_, rfl, h⟩
theorem kPut_some {a : Fr} {o : Oper} {v : Option MV} {k : Fr → Option X} {x : X} (h : kPut a o v k = some x) : ∃ u, v = some u ∧ k (putFr a o.dst u) = some x := by
  unfold kPut at h
  split at h
  · cases h
  · rw [putK_put] at h
    exact ⟨_, rfl, h⟩
section
variable {s : Fns}
theorem sStep_sound (hT : TyOk P T) (hs : SoundF Φ P s) {o : Oper} {t : St} {k : St → Option X} {x : X} (e : sStep T s o t k = some x) {m : Nat} (hd : DstOk m o) {D : Nat → Prop} {θ : Env} {w : World} {A : Act} (hi : Inv Φ D t.n θ t.h w) (hf : FrOk D θ t.a A m)
    {K : Act → World → Prop} {Q : Exit → Act → World → Prop}
    (hk : ∀ t' θ' w' A', k t' = some x → Leads D t.n θ t.h w t'.n θ' t'.h w' → FrOk (Up D t.n t'.n) θ' t'.a A' m → K A' w') : o.wp P A w K Q := by
  have eff : ∀ r, effOp T t.a t.h t.n o.op = some r → k ⟨putFr t.a o.dst r.v, r.h, r.n⟩ = some x → o.wp P A w K Q := by
    intro r h1 h2
    refine Yields.wp (eff_sound hT hi.lt hf.ok hf.rel hi.rel hi.ok h1) fun θ' w' l hv => ?_
    exact hk ⟨_, r.h, r.n⟩ θ' w' _ h2 l ((hf.env up_mono (l.env hi)).put hd hv)
  unfold sStep at e
  split at e
  · obtain ⟨v, h1, h2⟩ := kPut_some e
    obtain ⟨p, q⟩ := pure_sound hT hf.ok hf.rel hi.rel hi.ok h1
    unfold Oper.wp
    rw [q, Oper.upon_value]
    have hup : (Up D t.n t.n) = D := funext fun y => propext (up_self y)
    refine hk ⟨_, t.h, t.n⟩ θ w _ h2 (Leads.refl hi.rel hi.ok) ?_
    rw [show Up D t.n (St.mk (putFr t.a o.dst v) t.h t.n).n = D from hup]
    exact hf.put hd p
  · rename_i c y hc
    obtain ⟨ho, hcv⟩ := cls_call hc
    obtain ⟨r, h1, h2⟩ := kPutR_some e
    refine call_wp hs hi hf ho hcv h1 fun θ' w' l hv => ?_
    exact hk ⟨_, r.h, r.n⟩ θ' w' _ h2 l ((hf.env up_mono (l.env hi)).put hd hv)
  · obtain ⟨r, h1, h2⟩ := kPutR_some e
    exact eff r h1 h2
  · obtain ⟨r, h1, h2⟩ := kPutR_some e
    exact eff r h1 h2
theorem sOps_sound (hT : TyOk P T) (hs : SoundF Φ P s) {ops : Array Oper} {m : Nat} {x : X} (l : List Oper) : ∀ {t : St}, sOps T s ops.toList l t = some x → (∀ o ∈ l, DstOk m o) → ∀ {D : Nat → Prop} {θ : Env} {w : World} {A : Act} {Q : Exit → Act → World → Prop},
    Inv Φ D t.n θ t.h w → FrOk D θ t.a A m → (∀ e A' w', Post D t.n θ t.h w m x e A' w' → Q e A' w') → wpList P ops Q l A w := by
  induction l with
  | nil =>
    intro t e _ D θ w A Q hi hf hQ
    obtain rfl := Option.some.inj e
    refine hQ _ _ _ ⟨rfl, θ, Leads.refl hi.rel hi.ok, ?_⟩
    have hup : (Up D t.n t.n) = D := funext fun y => propext (up_self y)
    show FrOk (Up D t.n t.n) θ t.a A m
    rw [hup]; exact hf
  | cons o r ih =>
    intro t e hd D θ w A Q hi hf hQ
    change sWant T s (wants t.a ops.toList o) o t (sOps T s ops.toList r) = some x at e
    have next : ∀ t' θ' w' A', sOps T s ops.toList r t' = some x → Leads D t.n θ t.h w t'.n θ' t'.h w' → FrOk (Up D t.n t'.n) θ' t'.a A' m → wpList P ops Q r A' w' := by
      intro t' θ' w' A' h1 h2 h3
      exact ih h1 (fun o ho => hd o (by simp [ho])) (h2.inv hi) h3 fun e A' w' p => hQ e A' w' (p.lead h2)
    unfold sWant at e
    split at e
    · cases e
    rename_i b hb
    have hw := wants_ok hf hb
    unfold wpList
    split at e
    · rw [if_pos hw]
      exact .inl (sStep_sound hT hs e (hd o (by simp)) hi hf next)
    · rw [if_neg (by rw [hw]; decide)]
      rw [putK_put] at e
      have hup : (Up D t.n t.n) = D := funext fun y => propext (up_self y)
      refine next ⟨_, t.h, t.n⟩ θ w _ e (Leads.refl hi.rel hi.ok) ?_
      show FrOk (Up D t.n t.n) θ _ _ m
      rw [hup, ← real_undef θ]
      exact hf.put (hd o (by simp)) (by simp [MV.ok, oks])
end
end Go.Proofs.YtkeckbmhaplkpaaGreatDoor.Ln
/- Control is sound: code and calls. -/
namespace Go.Proofs.YtkeckbmhaplkpaaGreatDoor.Ln
open Go
variable {Φ : Fact}
variable {P : Program} {T : Types}

/-- A region run in any order is sound. -/
def Drawn (Φ : Fact) (P : Program) (T : Types) (ops : Array Oper) (pl : List Pl) : Prop := ∀ s, SoundF Φ P s → ∀ m id t x, dRegion T s ops.toList (some pl) t = some x → (∀ o ∈ ops.toList, DstOk m o) →
  ∀ D θ w A Q, Inv Φ D t.n θ t.h w → FrOk D θ t.a A m → (∀ e A' w', Post D t.n θ t.h w m x e A' w' → Q e A' w') → (Code.region id ops true).wp P Q A w
/-- A text that the evaluator may run. -/
def Fit (Φ : Fact) (P : Program) (T : Types) (m : Nat) (pl : Plans) : Code → Prop
  | .region id ops d => (∀ o ∈ ops.toList, DstOk m o) ∧ (d = true → ∀ l, pl.get id = some l → Drawn Φ P T ops l)
  | .seq a b => Fit Φ P T m pl a ∧ Fit Φ P T m pl b
  | .cond _ a b => Fit Φ P T m pl a ∧ Fit Φ P T m pl b
  | .block _ b => Fit Φ P T m pl b
  | .loop b => Fit Φ P T m pl b
  | _ => True
def SoundC (Φ : Fact) (P : Program) (T : Types) (s : Fns) : Prop := ∀ pl c t x, s.c pl c t = some x → ∀ m, Fit Φ P T m pl c → ∀ D θ w A Q, Inv Φ D t.n θ t.h w → FrOk D θ t.a A m →
  (∀ e A' w', Post D t.n θ t.h w m x e A' w' → Q e A' w') → c.wp P Q A w
/-- What a function yields. -/
def FnOk (Φ : Fact) (P : Program) (f : Nat) (args : List MV) (h : Heap) (n : Nat) (r : R) : Prop := ∀ D θ w, Inv Φ D n θ h w → oks D args →
  ((callFunc f (reals θ args).toArray).run P w = .ok (.enter f (reals θ args).toArray) w ∧ Calls P f (reals θ args).toArray w (Ret D n θ h w r)) ∨
  Yields P D n θ h w (callFunc f (reals θ args).toArray) r
theorem kSeq_some {q : St → Option X} {r : Option X} {x : X} (h : kSeq q r = some x) : ∃ p, r = some p ∧ (p.e = .normal ∧ q p.s = some x ∨ p.e ≠ .normal ∧ x = p) := by
  unfold kSeq at h
  split at h
  · cases h
  rename_i p
  obtain ⟨e, st⟩ := p
  refine ⟨_, rfl, ?_⟩
  cases e
  · exact .inl ⟨rfl, h⟩
  · obtain rfl := Option.some.inj h; exact .inr ⟨by simp, rfl⟩
  · obtain rfl := Option.some.inj h; exact .inr ⟨by simp, rfl⟩
/-- What follows a text, by the way it is left. -/
theorem then_of {Q : Exit → Act → World → Prop} {K : Act → World → Prop} {D : Nat → Prop} {n : Nat} {θ : Env} {h : Heap} {w : World} {m : Nat} {p x : X} (hx : p.e = .normal ∨ p.e ≠ .normal ∧ x = p)
    (hQ : ∀ e A' w', Post D n θ h w m x e A' w' → Q e A' w') (hK : p.e = .normal → ∀ A' w' θ', Leads D n θ h w p.s.n θ' p.s.h w' → FrOk (Up D n p.s.n) θ' p.s.a A' m → K A' w') (e : Exit) (A' : Act) (w' : World) (hp : Post D n θ h w m p e A' w') : Exit.then K Q e A' w' := by
  obtain ⟨he, θ', l, f⟩ := hp
  cases hpe : p.e with
  | normal =>
    rw [hpe] at he; subst he
    exact hK hpe A' w' θ' l f
  | exit i =>
    rcases hx with h1 | ⟨_, rfl⟩
    · rw [h1] at hpe; cases hpe
    · rw [hpe] at he
      have : e ≠ .normal := by rw [he]; simp [Ex.real]
      have q := hQ e A' w' ⟨by rw [hpe]; exact he, θ', l, f⟩
      subst he; exact q
  | ret =>
    rcases hx with h1 | ⟨_, rfl⟩
    · rw [h1] at hpe; cases hpe
    · rw [hpe] at he
      have q := hQ e A' w' ⟨by rw [hpe]; exact he, θ', l, f⟩
      subst he; exact q
section
/-- All texts but loops, one step down. -/
theorem code_step (hT : TyOk P T) {s : Fns} (hc : SoundC Φ P T s) (hf : SoundF Φ P s) (pl : Plans) (c : Code) (hl : ∀ b, c ≠ .loop b) : ∀ t x, sC T s pl c t = some x → ∀ m, Fit Φ P T m pl c → ∀ D θ w A Q, Inv Φ D t.n θ t.h w → FrOk D θ t.a A m →
    (∀ e A' w', Post D t.n θ t.h w m x e A' w' → Q e A' w') → c.wp P Q A w := by
  intro t x e m hfit D θ w A Q hi hfr hQ
  have hup : (Up D t.n t.n) = D := funext fun y => propext (up_self y)
  have here : ∀ ex : Ex, x = ⟨ex, t⟩ → Q ex.real A w := by
    rintro ex rfl
    refine hQ _ _ _ ⟨rfl, θ, Leads.refl hi.rel hi.ok, ?_⟩
    show FrOk (Up D t.n t.n) θ t.a A m
    rw [hup]; exact hfr
  cases c <;> simp only [sC] at e <;> first | (cases e; done) | skip
  case skip => exact wp_skip (here .normal (Option.some.inj e).symm)
  case region id ops d =>
    obtain ⟨h1, h2⟩ := hfit
    unfold kRegion at e
    cases d
    · simp only at e
      exact wp_region_list (sOps_sound hT hf _ e h1 hi hfr hQ)
    · simp only at e
      cases hp : pl.get id with
      | none => rw [hp] at e; cases e
      | some l =>
        rw [hp] at e
        exact h2 rfl l hp s hf m id t x e h1 D θ w A Q hi hfr hQ
  case seq a b =>
    obtain ⟨p, h1, h2⟩ := kSeq_some e
    refine wp_seq ?_
    refine hc pl a t p h1 m hfit.1 D θ w A _ hi hfr ?_
    refine then_of (h2.imp And.left id) hQ fun hn A' w' θ' l f => ?_
    rcases h2 with ⟨_, h3⟩ | ⟨h3, _⟩
    · exact hc pl b p.s x h3 m hfit.2 _ θ' w' A' Q (l.inv hi) f fun e A' w' q => hQ e A' w' (q.lead l)
    · exact absurd hn h3
  case cond y a b =>
    unfold kCond at e
    split at e
    · rename_i v hv
      obtain ⟨_, q⟩ := opd_ok hfr.ok hfr.rel hv
      split at e
      · rename_i c
        simp only [MV.real] at q
        split at e
        · exact wp_cond_true q (hc pl a t x e m hfit.1 D θ w A Q hi hfr hQ)
        · exact wp_cond_false q (hc pl b t x e m hfit.2 D θ w A Q hi hfr hQ)
      · cases e
    · cases e
  case block id b =>
    unfold kBlock at e
    split at e
    · cases e
    rename_i p hp
    refine wp_block ?_
    refine hc pl b t p hp m hfit D θ w A _ hi hfr ?_
    rintro ex A' w' ⟨he, θ', l, f⟩
    obtain ⟨pe, ps⟩ := p
    cases pe with
    | normal =>
      obtain rfl := Option.some.inj e
      subst he
      exact hQ _ _ _ ⟨rfl, θ', l, f⟩
    | exit i =>
      simp only at e
      subst he
      show (if i = id then Q .normal A' w' else Q (.exit i) A' w')
      split at e
      · rename_i hb
        rw [natBeq, decide_eq_true_eq] at hb
        obtain rfl := Option.some.inj e
        rw [if_pos hb]
        exact hQ _ _ _ ⟨rfl, θ', l, f⟩
      · rename_i hb
        rw [natBeq, decide_eq_false_iff_not] at hb
        obtain rfl := Option.some.inj e
        rw [if_neg hb]
        exact hQ _ _ _ ⟨rfl, θ', l, f⟩
    | ret =>
      obtain rfl := Option.some.inj e
      subst he
      exact hQ _ _ _ ⟨rfl, θ', l, f⟩
  case loop b => exact absurd rfl (hl b)
  case exit id => exact wp_exit (here (.exit id) (Option.some.inj e).symm)
  case ret => exact wp_ret (here .ret (Option.some.inj e).symm)
end
end Go.Proofs.YtkeckbmhaplkpaaGreatDoor.Ln
