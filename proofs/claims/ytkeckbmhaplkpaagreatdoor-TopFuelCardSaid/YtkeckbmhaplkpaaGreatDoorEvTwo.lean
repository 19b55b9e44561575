/- A heap's turnings, one by one: a new name, a row written, a map put anew. -/
import Derived.Test.YtkeckbmhaplkpaaGreatDoorEvOne
import Derived.Deep.Upon
import Derived.Deep.MidRow
import Derived.Deep.AppendSrc
import Derived.Room.Entries
import Derived.Tactics
import Derived.Deep.LoopGhost
import Derived.Below
namespace Go.Proofs.YtkeckbmhaplkpaaGreatDoor.Ev
open Go
variable {P : Program} {T : Types}

def Env.upd (θ : Env) (n b o c : Nat) : Env := ⟨fun y => if y = n then b else θ.blk y, fun y => if y = n then o else θ.off y, fun y => if y = n then c else θ.cap y⟩
theorem upd_same {D : Nat → Prop} {θ : Env} {n b o c : Nat} (hn : ∀ y, D y → y < n) : Env.same D θ (θ.upd n b o c) := by
  intro y hy
  have : y ≠ n := by have := hn y hy; omega
  simp [Env.upd, this]
theorem upd_self (θ : Env) (n b o c : Nat) : (θ.upd n b o c).blk n = b ∧ (θ.upd n b o c).off n = o ∧ (θ.upd n b o c).cap n = c := by simp [Env.upd]
theorem HasRoom.move {θ θ' : Env} {b o n : Nat} {r : Option (Nat × Nat)} {w w' : World} (hc : ∀ x, r = some x → θ'.cap x.1 = θ.cap x.1) (hb : w'.heap[b]? = w.heap[b]?) (h : HasRoom θ b o n r w) : HasRoom θ' b o n r w' := by
  cases r with
  | none => trivial
  | some x =>
    intro j hj
    rw [hc x rfl] at hj
    obtain ⟨⟨v, hv⟩, hf⟩ := h j hj
    exact ⟨⟨v, (World.cell?_of_block hb).trans hv⟩, (World.frozen?_of_block hb).trans hf⟩
theorem Entry.real_same {D : Nat → Prop} {θ θ' : Env} (h : Env.same D θ θ') {e : Entry} (h1 : e.key.ok D) (h2 : e.val.ok D) : e.real θ' = e.real θ := by
  simp only [Entry.real, MV.real_same h h1, MV.real_same h h2]
/-- An object is where it was, whatever else has turned. -/
theorem ObjIs.move {D : Nat → Prop} {θ θ' : Env} {y : Nat} {o : MObj} {w w' : World} (hs : Env.same D θ θ') (hy : D y) (ho : o.ok D) (hb : w'.heap[θ.blk y]? = w.heap[θ.blk y]?) (h : ObjIs θ y w o) : ObjIs θ' y w' o := by
  obtain ⟨e1, e2, e3⟩ := hs y hy
  cases o with
  | cells l r =>
    simp only [ObjIs, MObj.ok] at h ho ⊢
    rw [e1, e2]
    refine ⟨fun j hj => ?_, HasRoom.move (fun x hx => (hs _ (ho.2 x hx)).2.2) hb h.2⟩
    rw [World.cell?_of_block hb, World.frozen?_of_block hb, MV.real_same hs (ho.1 _ (List.getElem_mem hj)).1]
    exact h.1 j hj
  | map es c =>
    simp only [ObjIs, MObj.ok] at h ho ⊢
    rw [e1, hb, h]
    congr 3
    exact List.map_congr_left fun e he => (Entry.real_same hs (ho e he).1.1 (ho e he).2).symm
  | dead => trivial
theorem up_mono {D : Nat → Prop} {n n' : Nat} (y : Nat) (h : D y) : Up D n n' y := .inl h
theorem MObj.ok_mono {D D' : Nat → Prop} (h : ∀ y, D y → D' y) {o : MObj} (ho : o.ok D) : o.ok D' := by
  cases o with
  | cells l r => simp only [MObj.ok] at ho ⊢; exact ⟨fun v hv => ⟨MV.ok_mono h (ho.1 v hv).1, (ho.1 v hv).2⟩, fun x hx => h _ (ho.2 x hx)⟩
  | map es c => simp only [MObj.ok] at ho ⊢; exact fun e he => ⟨⟨MV.ok_mono h (ho e he).1.1, (ho e he).1.2⟩, MV.ok_mono h (ho e he).2⟩
  | dead => trivial
section
variable {D : Nat → Prop} {n : Nat} {θ : Env} {h : Heap} {w : World}
/-- A new name for a new block. -/
theorem lead_new (hn : ∀ y, D y → y < n) (hr : Rel θ h w) (ho : okH D h) {ob : Obj} {mo : MObj} (c : Nat) (hobj : ObjIs (θ.upd n w.heap.size 0 c) n { w with heap := w.heap.push ob } mo) (hok : mo.ok (Up D n (n + 1))) :
    Leads D n θ h w (n + 1) (θ.upd n w.heap.size 0 c) (h.set n mo) { w with heap := w.heap.push ob } := by
  have hs := upd_same (θ := θ) (b := w.heap.size) (o := 0) (c := c) hn
  have old : ∀ b, b < w.heap.size → (w.heap.push ob)[b]? = w.heap[b]? := fun b hb => by rw [Array.getElem?_push_lt hb, Array.getElem?_eq_getElem hb]
  have live : ∀ y, Live (h.set n mo) y → y = n ∨ (y ≠ n ∧ Live h y) := by
    rintro y ⟨o, ho', hd⟩
    rcases PT.get_set ho' with ⟨rfl, _⟩ | ⟨hne, h2⟩
    · exact .inl rfl
    · exact .inr ⟨hne, o, h2, hd⟩
  have blk : ∀ y, Live h y → (θ.upd n w.heap.size 0 c).blk y = θ.blk y := fun y ⟨o, h1, _⟩ => (hs y (ho y o h1).1).1
  exact {
    le := Nat.le_succ n
    same := fun y hy => by
      have : y ≠ n := by omega
      simp [Env.upd, this]
    rel := {
      obj := fun y o hy => by
        rcases PT.get_set hy with ⟨rfl, rfl⟩ | ⟨hne, h2⟩
        · exact hobj
        · cases o with
          | dead => trivial
          | cells l r => exact ObjIs.move hs (ho y _ h2).1 (ho y _ h2).2 (old _ (hr.lt y ⟨_, h2, by simp⟩)) (hr.obj y _ h2)
          | map es cl => exact ObjIs.move hs (ho y _ h2).1 (ho y _ h2).2 (old _ (hr.lt y ⟨_, h2, by simp⟩)) (hr.obj y _ h2)
      sep := fun y z hy hz e => by
        rcases live y hy with rfl | ⟨hyn, hy'⟩ <;> rcases live z hz with rfl | ⟨hzn, hz'⟩
        · rfl
        · rw [blk z hz', (upd_self θ _ _ _ _).1] at e
          have := hr.lt z hz'; omega
        · rw [blk y hy', (upd_self θ _ _ _ _).1] at e
          have := hr.lt y hy'; omega
        · rw [blk y hy', blk z hz'] at e
          exact hr.sep y z hy' hz' e
      lt := fun y hy => by
        rcases live y hy with rfl | ⟨_, hy'⟩
        · rw [(upd_self θ _ _ _ _).1]; simp
        · rw [blk y hy']; have := hr.lt y hy'; simp; omega }
    ok := fun y o hy => by
      rcases PT.get_set hy with ⟨rfl, rfl⟩ | ⟨hne, h2⟩
      · exact ⟨.inr ⟨Nat.le_refl _, by omega⟩, hok⟩
      · exact ⟨.inl (ho y o h2).1, MObj.ok_mono up_mono (ho y o h2).2⟩
    os := rfl
    tape := rfl
    output := rfl
    size := by simp
    kept := fun b hb _ => old b hb
    born := fun y hy => by
      rcases live y hy with rfl | ⟨_, hy'⟩
      · exact .inr (by rw [(upd_self θ _ _ _ _).1]; exact Nat.le_refl _)
      · exact .inl ⟨y, hy', (blk y hy').symm⟩ }
/-- An object put in the place of another one, in its own block. -/
theorem lead_put (_hn : ∀ y, D y → y < n) (hr : Rel θ h w) (ho : okH D h) {w' : World} {y : Nat} {mo : MObj} (hy : Live h y) (hobj : ObjIs θ y w' mo) (hok : mo.ok D)
    (os : w'.os = w.os) (tape : w'.tape = w.tape) (output : w'.output = w.output) (size : w'.heap.size = w.heap.size) (kept : ∀ b, b ≠ θ.blk y → w'.heap[b]? = w.heap[b]?) :
    Leads D n θ h w n θ (h.set y mo) w' := by
  have hs : Env.same D θ θ := fun _ _ => ⟨rfl, rfl, rfl⟩
  have live : ∀ z, Live (h.set y mo) z → Live h z := by
    rintro z ⟨o, ho', hd⟩
    rcases PT.get_set ho' with ⟨rfl, _⟩ | ⟨hne, h2⟩
    · exact hy
    · exact ⟨o, h2, hd⟩
  have hD : D y := by obtain ⟨o, h1, _⟩ := hy; exact (ho y o h1).1
  exact {
    le := Nat.le_refl n
    same := fun _ _ => ⟨rfl, rfl, rfl⟩
    rel := {
      obj := fun z o hz => by
        rcases PT.get_set hz with ⟨rfl, rfl⟩ | ⟨hne, h2⟩
        · exact hobj
        · by_cases hd : o = .dead
          · subst hd; trivial
          · exact ObjIs.move hs (ho z _ h2).1 (ho z _ h2).2 (kept _ fun e => hne (hr.sep z y ⟨o, h2, hd⟩ hy e)) (hr.obj z _ h2)
      sep := fun a b ha hb e => hr.sep a b (live a ha) (live b hb) e
      lt := fun a ha => by rw [size]; exact hr.lt a (live a ha) }
    ok := okH_iff (fun y => (up_self y).symm) fun z o hz => by
      rcases PT.get_set hz with ⟨rfl, rfl⟩ | ⟨hne, h2⟩
      · exact ⟨hD, hok⟩
      · exact ho z o h2
    os := os
    tape := tape
    output := output
    size := by omega
    kept := fun b _ hne => kept b fun e => hne y hy e.symm
    born := fun z hz => .inl ⟨z, live z hz, rfl⟩ }
end
end Go.Proofs.YtkeckbmhaplkpaaGreatDoor.Ev
/- Operations that make new memory. -/
namespace Go.Proofs.YtkeckbmhaplkpaaGreatDoor.Ev
open Go
variable {P : Program} {T : Types}

abbrev pushed (w : World) (ob : Obj) : World := { w with heap := w.heap.push ob }
theorem cell_push (w : World) (cs : Array Value) (t : TypeId) (j : Nat) : (pushed w (.cells cs t)).cell? ⟨w.heap.size, j, none⟩ = cs[j]? := by simp [World.cell?]
theorem frozen_push (w : World) (cs : Array Value) (t : TypeId) (j : Nat) : (pushed w (.cells cs t)).frozen? ⟨w.heap.size, j, none⟩ = false := by simp [World.frozen?]
/-- What an operation that turns the heap yields. -/
def Yields (P : Program) (D : Nat → Prop) (n : Nat) (θ : Env) (h : Heap) (w : World) (s : Sem Next) (r : R) : Prop :=
  ∃ θ' w' x, s.run P w = .ok x w' ∧ (x = .value (r.v.real θ') ∨ (x = .skip ∧ r.v = .undef)) ∧ Leads D n θ h w r.n θ' r.h w' ∧ r.v.ok (Up D n r.n)
theorem put1_some {h : Heap} {y n : Nat} {o : MObj} {v : MV} {r : R} (e : put1 h y o v n = some r) : r = ⟨v, h.set y o, n⟩ := by
  unfold put1 at e
  rw [PT.setK_eq, fnat_eq] at e
  exact (Option.some.inj e).symm
section
variable {D : Nat → Prop} {n : Nat} {θ : Env} {h : Heap} {w : World}
/-- A row of cells in a new block; behind it c places more of 'size' cells each. -/
theorem lead_row (hn : ∀ y, D y → y < n) (hr : Rel θ h w) (ho : okH D h) {l : List MV} {cs : Array Value} {t : TypeId} {room : Option (Nat × Nat)} (c : Nat) (hl : ∀ v ∈ l, v.ok D ∧ v.one)
    (hcs : ∀ j (hj : j < l.length), cs[j]? = some (l[j].real θ)) (hroom : ∀ x, room = some x → x.1 = n ∧ ∀ j, j < x.2 * c → l.length + j < cs.size) :
    Leads D n θ h w (n + 1) (θ.upd n w.heap.size 0 c) (h.set n (.cells l room)) (pushed w (.cells cs t)) := by
  have hs := upd_same (θ := θ) (b := w.heap.size) (o := 0) (c := c) hn
  refine lead_new hn hr ho c ?_ ?_
  · simp only [ObjIs]
    rw [(upd_self θ _ _ _ _).1, (upd_self θ _ _ _ _).2.1]
    refine ⟨fun j hj => ?_, ?_⟩
    · rw [Nat.zero_add, cell_push, frozen_push, hcs j hj, MV.real_same hs (hl _ (List.getElem_mem hj)).1]
      exact ⟨rfl, rfl⟩
    · cases room with
      | none => trivial
      | some x =>
        obtain ⟨e, hx⟩ := hroom x rfl
        intro j hj
        rw [e, (upd_self θ _ _ _ _).2.2] at hj
        have := hx j hj
        refine ⟨⟨cs[l.length + j], ?_⟩, ?_⟩
        · rw [Nat.zero_add, cell_push]; exact Array.getElem?_eq_getElem this
        · rw [Nat.zero_add, frozen_push]
  · simp only [MObj.ok]
    refine ⟨fun v hv => ⟨MV.ok_mono up_mono (hl v hv).1, (hl v hv).2⟩, fun x hx => ?_⟩
    rw [(hroom x hx).1]
    exact .inr ⟨Nat.le_refl _, by omega⟩
theorem cells_yield (hn : ∀ y, D y → y < n) (hr : Rel θ h w) (ho : okH D h) {s : Sem Next} {l : List MV} {t : TypeId} {v : MV} {x : Go.Next} (hl : ∀ v ∈ l, v.ok D ∧ v.one)
    (hs : s.run P w = .ok x (pushed w (.cells (reals θ l).toArray t))) (hx : ∀ θ', (θ'.blk n = w.heap.size ∧ θ'.off n = 0) → x = .value (v.real θ')) (hv : v.ok (Up D n (n + 1))) {r : R} (e : newCells h n l v = some r) :
    Yields P D n θ h w s r := by
  obtain rfl := put1_some e
  refine ⟨_, _, _, hs, .inl (hx (θ.upd n w.heap.size 0 0) ⟨(upd_self θ _ _ _ _).1, (upd_self θ _ _ _ _).2.1⟩), ?_, hv⟩
  exact lead_row hn hr ho 0 hl (fun j hj => by rw [List.getElem?_toArray, reals_get, List.getElem?_eq_getElem hj]; rfl) (fun x hx => by cases hx)
theorem ptr_ok  : (MV.ptr n 0).ok (Up D n (n + 1)) := by simp only [MV.ok]; exact .inr ⟨Nat.le_refl _, by omega⟩
theorem alloc_yield (hn : ∀ y, D y → y < n) (hr : Rel θ h w) (ho : okH D h) (hT : TyOk P T) {t : Nat} {r : R} (e : eAlloc h n (T.get t) = some r) : Yields P D n θ h w (do pure (.value (← Instr.alloc t true (.tuple #[])))) r := by
  unfold eAlloc at e
  split at e
  · cases e
  rename_i ti ht
  have hok := hT t ti ht
  obtain ⟨i, hi, _, _, z, hz, hzi⟩ := hok.info
  have hzr : (zeroValue t).run P w = .ok z w := by simp [zeroValue, typeInfo, program, hi, hz, bind, Sem.bind, Sem.run, pure]
  have hzc : z.cells = (reals θ ti.zero).toArray := by
    unfold ZeroIs at hzi
    split at hzi
    · rw [hzi, zero_same θ hok.zero]; rfl
    · obtain ⟨v, h1, rfl⟩ := hzi
      have := zero_same θ hok.zero
      rw [h1] at this ⊢
      simp only [reals, List.cons.injEq, and_true] at this
      rw [this]
      have h2 := (hok.zero v (by rw [h1]; simp)).1
      cases v <;> simp [MV.one] at h2 <;> simp [MV.real, Value.cells, reals]
  refine cells_yield hn hr ho (l := ti.zero) (t := t) (x := .value (.pointer (some ⟨w.heap.size, 0, none⟩))) (fun v hv => ⟨MV.ok_mono (fun _ h => h.elim) (hok.zero v hv).2, (hok.zero v hv).1⟩) ?_ ?_ ptr_ok e
  · rw [Sem.run_bind]
    have : (Instr.alloc t true (.tuple #[])).run P w = .ok (.pointer (some ⟨w.heap.size, 0, none⟩)) (pushed w (.cells (reals θ ti.zero).toArray t)) := by
      unfold Instr.alloc
      refine (run_seq hzr).trans ?_
      simp [newVar, newRow, newObj, hzc, Sem.run, bind, Sem.bind, pure]
    rw [this]; rfl
  · intro θ' hθ
    simp [MV.real, hθ.1, hθ.2]
theorem box_yield (hn : ∀ y, D y → y < n) (hr : Rel θ h w) (ho : okH D h) {v : MV} {t : Nat} (hv : v.ok D) {r : R} (e : eBox h n (some v) = some r) : Yields P D n θ h w (do pure (.value (← Instr.box t (v.real θ)))) r := by
  unfold eBox at e
  simp only at e
  split at e
  · cases e
  rename_i vs hvs
  obtain ⟨c1, c2, c3⟩ := cells_some hvs θ hv
  refine cells_yield hn hr ho (l := vs) (t := t) (x := .value (.pointer (some ⟨w.heap.size, 0, none⟩))) (fun v hv => ⟨(oks_iff D _).1 c2 v hv, c3 v hv⟩) ?_ ?_ ptr_ok e
  · simp [Instr.box, newVar, newRow, newObj, c1, Sem.run, bind, Sem.bind, pure]
  · intro θ' hθ
    simp [MV.real, hθ.1, hθ.2]
end
theorem repK_some {β : Type} {z : List MV} {n : Nat} {k : List MV → Option β} {y : β} (h : repK z n k = some y) : k (List.replicate n z).flatten = some y := by
  induction n generalizing k with
  | zero => exact h
  | succ n ih =>
    change repK z n (fun r => lappK z r k) = some y at h
    have := ih h
    rw [lappK_eq] at this
    rw [List.replicate_succ, List.flatten_cons]
    exact this

theorem flat_len {α : Type} (z : List α) (n : Nat) : (List.replicate n z).flatten.length = n * z.length := by
  induction n with
  | zero => simp
  | succ n ih => rw [List.replicate_succ, List.flatten_cons, List.length_append, ih, Nat.succ_mul, Nat.add_comm]
theorem flat_get {α : Type} (z : List α) (n j : Nat) (hj : j < n * z.length) : (List.replicate n z).flatten[j]? = z[j % z.length]? := by
  induction n generalizing j with
  | zero => simp at hj
  | succ n ih =>
    rw [List.replicate_succ, List.flatten_cons, List.getElem?_append]
    split
    · rename_i h; rw [Nat.mod_eq_of_lt h]
    · rename_i h
      rw [Nat.succ_mul] at hj
      rw [ih (j - z.length) (by omega)]
      congr 1
      rw [← Nat.mod_eq_sub_mod (by omega)]
theorem range_cells (z : List Value) (n : Nat) : (Array.range (n * z.length)).map (fun i => z.toArray[i % z.toArray.size]!) = (List.replicate n z).flatten.toArray := by
  apply Array.ext'
  apply List.ext_getElem?
  intro j
  by_cases hj : j < n * z.length
  · rw [List.toList_toArray, flat_get z n j hj]
    have h0 : z.length ≠ 0 := by intro h; rw [h] at hj; simp at hj
    have hm : j % z.length < z.length := Nat.mod_lt _ (by omega)
    simp [hj, hm]
  · rw [List.getElem?_eq_none (by simp; omega), List.toList_toArray, List.getElem?_eq_none (by rw [flat_len]; omega)]
theorem reals_flat (θ : Env) (z : List MV) (n : Nat) : reals θ (List.replicate n z).flatten = (List.replicate n (reals θ z)).flatten := by
  rw [reals_map, List.map_flatten, List.map_replicate, reals_map]
theorem mem_flat {α : Type} {z : List α} {n : Nat} {v : α} (h : v ∈ (List.replicate n z).flatten) : v ∈ z := by
  obtain ⟨l, hl, hv⟩ := List.mem_flatten.1 h
  rw [List.eq_of_mem_replicate hl] at hv
  exact hv
theorem rowTI_ok (hT : TyOk P T) {t : Nat} {te : TI} (h : rowTI T t = some te) : ∃ e, P.underlying t = some (.slice e) ∧ T.get e = some te ∧ elemTI T t = some te ∧ fieldOf T t = fun _ => none := by
  unfold rowTI at h
  split at h
  · rename_i hs
    obtain ⟨e, hu⟩ := isSliceT_ok hT hs
    obtain ⟨e', he', hor⟩ := elemTI_ok hT h
    have : e' = e := by
      rcases hor with h1 | ⟨m, h1⟩ <;> rw [hu] at h1 <;> simp at h1
      exact h1.symm
    subst this
    refine ⟨e', hu, he', h, ?_⟩
    funext i
    unfold isSliceT at hs
    unfold fieldOf
    split at hs
    · cases hs
    rename_i ti ht
    split at hs
    · rename_i hd; rw [hd]
    · cases hs
  · cases h
/-- A type's zero value, in cells. -/
theorem zero_cells (hT : TyOk P T) {e : Nat} {te : TI} (he : T.get e = some te) (θ : Env) (w : World) : ∃ z, (zeroValue e).run P w = .ok z w ∧ z.cells = (reals θ te.zero).toArray := by
  have hok := hT e te he
  obtain ⟨i, hi, _, _, z, hz, hzi⟩ := hok.info
  refine ⟨z, by simp [zeroValue, typeInfo, program, hi, hz, bind, Sem.bind, Sem.run, pure], ?_⟩
  unfold ZeroIs at hzi
  split at hzi
  · rw [hzi, zero_same θ hok.zero]; rfl
  · obtain ⟨v, h1, rfl⟩ := hzi
    have := zero_same θ hok.zero
    rw [h1] at this ⊢
    simp only [reals, List.cons.injEq, and_true] at this
    rw [this]
    have h2 := (hok.zero v (by rw [h1]; simp)).1
    cases v <;> simp [MV.one] at h2 <;> simp [MV.real, Value.cells, reals]
section
variable {D : Nat → Prop} {n : Nat} {θ : Env} {h : Heap} {w : World}
theorem row_yield (hn : ∀ y, D y → y < n) (hr : Rel θ h w) (ho : okH D h) (hT : TyOk P T) {a : Fr} {A : Act} (ha : okF D a) (fa : RelF θ a A) {t len : Nat} {ps : Array (Nat × Operand)} {r : R} (e : eRow T a h n t len ps.toList (rowTI T t) = some r) :
    Yields P D n θ h w (do pure (.value (← Instr.buildSlice t len (ps.map fun (i, x) => (i, A.eval x))))) r := by
  unfold eRow at e
  split at e
  · cases e
  rename_i te hte
  obtain ⟨el, hu, hel, helt, hfd⟩ := rowTI_ok hT hte
  split at e
  · cases e
  rename_i hle
  have hle' : len * te.size ≤ 16777216 := by rw [natBle, decide_eq_true_eq] at hle; exact hle
  have e2 := repK_some e
  have hok := hT el te hel
  have hpl : ∀ i off tj, placeOf T t i = some (off, tj) → (fun i => some (i * te.size, te.size) : Nat → Option (Nat × Nat)) i = some (off, tj.size) := by
    intro i off tj hp
    unfold placeOf at hp
    rw [hfd, helt] at hp
    unfold elemPl at hp
    simp only [Option.some.injEq, Prod.mk.injEq] at hp
    obtain ⟨rfl, rfl⟩ := hp
    rfl
  have z1 : oks D (List.replicate len te.zero).flatten := (oks_iff D _).2 fun v hv => MV.ok_mono (fun _ h => h.elim) (hok.zero v (mem_flat hv)).2
  obtain ⟨cs, q1, q2, q3, q4, q5⟩ := parts_ok ha fa _ hpl e2 z1 (fun v hv => (hok.zero v (mem_flat hv)).1)
  obtain ⟨z, hz1, hz2⟩ := zero_cells hT hel θ w
  have rs := run_size hT hel w
  have hlen : (reals θ te.zero).length = te.size := by rw [reals_len, hok.len]
  have hps : (ps.map fun (i, x) => (i, A.eval x)).toList = ps.toList.map fun (i, x) => (i, A.eval x) := by simp
  have hrun : (Instr.buildSlice t len (ps.map fun (i, x) => (i, A.eval x))).run P w = .ok (.slice (some ⟨w.heap.size, 0, none⟩) len len) (pushed w (.cells (reals θ cs).toArray el)) := by
    unfold Instr.buildSlice
    refine (run_und hu w _).trans ?_
    simp only
    refine (run_seq rs).trans ?_
    rw [if_neg (by omega)]
    have hps' : (ps.map fun x => (x.fst, A.eval x.snd)).toList = ps.toList.map fun (i, x) => (i, A.eval x) := hps
    by_cases h0 : len * te.size = 0
    · rw [if_pos h0]
      refine (run_seq (a := #[]) (w' := w) rfl).trans ?_
      have hz : ((Array.range (len * te.size)).map ((#[] : Array Value)[· % (#[] : Array Value).size]!)) = (reals θ (List.replicate len te.zero).flatten).toArray := by
        rw [reals_flat]
        have : (List.replicate len (reals θ te.zero)).flatten = [] := List.length_eq_zero_iff.1 (by rw [flat_len, hlen]; exact h0)
        rw [this, h0]; simp
      rw [hz, hps', q5]
      rfl
    · rw [if_neg h0]
      refine (run_seq hz1).trans ?_
      rw [hz2]
      refine (run_seq (a := (reals θ te.zero).toArray) (w' := w) rfl).trans ?_
      have hz : ((Array.range (len * te.size)).map ((reals θ te.zero).toArray[· % (reals θ te.zero).toArray.size]!)) = (reals θ (List.replicate len te.zero).flatten).toArray := by
        rw [reals_flat]
        have := range_cells (reals θ te.zero) len
        rw [hlen] at this
        exact this
      rw [hz, hps', q5]
      rfl
  refine cells_yield hn hr ho (l := cs) (t := el) (x := .value (.slice (some ⟨w.heap.size, 0, none⟩) len len)) (fun v hv => ⟨(oks_iff D _).1 q3 v hv, q4 v hv⟩) ?_ ?_ ?_ q1
  · rw [run_seq hrun]; rfl
  · intro θ' hθ
    simp [MV.real, hθ.1, hθ.2, Cap.real]
  · simp only [MV.ok, Cap.ok, and_true]
    exact .inr ⟨Nat.le_refl _, by omega⟩
end
end Go.Proofs.YtkeckbmhaplkpaaGreatDoor.Ev
/- Writing into memory. -/
namespace Go.Proofs.YtkeckbmhaplkpaaGreatDoor.Ev
open Go
variable {P : Program} {T : Types}

theorem one_cell {v : MV} (θ : Env) (h : v.one) : (v.real θ).oneCell' = true := by
  cases v with
  | agg => exact h.elim
  | tuple => exact h.elim
  | _ => rfl
theorem cell_of_heap {w w' : World} (e : w'.heap = w.heap) (a : Addr) : w'.cell? a = w.cell? a := World.cell?_of_block (by rw [e])
theorem frozen_of_heap {w w' : World} (e : w'.heap = w.heap) (a : Addr) : w'.frozen? a = w.frozen? a := World.frozen?_of_block (by rw [e])
theorem ObjIs.heap {θ : Env} {y : Nat} {o : MObj} {w w' : World} (e : w'.heap = w.heap) (h : ObjIs θ y w o) : ObjIs θ y w' o := by
  cases o with
  | cells l r =>
    simp only [ObjIs] at h ⊢
    refine ⟨fun j hj => by rw [cell_of_heap e, frozen_of_heap e]; exact h.1 j hj, HasRoom.move (fun _ _ => rfl) (by rw [e]) h.2⟩
  | map es c => simp only [ObjIs] at h ⊢; rw [e]; exact h
  | dead => trivial
theorem Rel.heap {θ : Env} {h : Heap} {w w' : World} (e : w'.heap = w.heap) (hr : Rel θ h w) : Rel θ h w' :=
  ⟨fun y o hy => ObjIs.heap e (hr.obj y o hy), hr.sep, fun y hy => by rw [e]; exact hr.lt y hy⟩
theorem Leads.heap {D : Nat → Prop} {n n' : Nat} {θ θ' : Env} {h h' : Heap} {w w' w'' : World} (a : Leads D n θ h w n' θ' h' w') (e : w''.heap = w'.heap) (os : w''.os = w'.os) (tape : w''.tape = w'.tape) (output : w''.output = w'.output) : Leads D n θ h w n' θ' h' w'' where
  le := a.le
  same := a.same
  rel := Rel.heap e a.rel
  ok := a.ok
  os := os.trans a.os
  tape := tape.trans a.tape
  output := output.trans a.output
  size := by rw [e]; exact a.size
  kept := by rw [e]; exact a.kept
  born := a.born
theorem size_setCells (b : Nat) : ∀ (vs : List Value) (o : Nat) (w : World), (w.setCells b o vs).heap.size = w.heap.size
  | [], _, _ => rfl
  | v :: r, o, w => by
    rw [World.setCells, size_setCells b r]
    simp [World.setCell]
theorem tape_setCells (b : Nat) : ∀ (vs : List Value) (o : Nat) (w : World), (w.setCells b o vs).tape = w.tape
  | [], _, _ => rfl
  | v :: r, o, w => by rw [World.setCells, tape_setCells b r]; rfl
section
variable {D : Nat → Prop} {n : Nat} {θ : Env} {h : Heap} {w : World}
/-- Cells written into a row. -/
theorem lead_writes (hn : ∀ y, D y → y < n) (hr : Rel θ h w) (ho : okH D h) {y o : Nat} {l vs : List MV} {r : Option (Nat × Nat)} (hy : h.get y = some (.cells l r)) (hv : ∀ v ∈ vs, v.ok D ∧ v.one) (hl : vs ≠ [] → o + vs.length ≤ l.length) :
    Leads D n θ h w n θ (h.set y (.cells (writes l o vs) r)) (w.setCells (θ.blk y) (θ.off y + o) (reals θ vs)) := by
  have hobj := hr.obj y _ hy
  simp only [ObjIs] at hobj
  have hok := (ho y _ hy).2
  simp only [MObj.ok] at hok
  refine lead_put hn hr ho ⟨_, hy, by simp⟩ ?_ ?_ (World.os_setCells _ _ _ _) (tape_setCells _ _ _ _) (World.output_setCells _ _ _ _) (size_setCells _ _ _ _) ?_
  · simp only [ObjIs]
    refine ⟨fun j hj => ?_, ?_⟩
    · rw [writes_len] at hj
      rw [World.frozen?_setCells]
      refine ⟨?_, (hobj.1 j hj).2⟩
      by_cases h0 : vs = []
      · subst h0
        simp only [reals, World.setCells, writes]
        exact (hobj.1 j hj).1
      have hb := hl h0
      have hw := writes_get l o vs j hb
      rw [List.getElem?_eq_getElem (by rw [writes_len]; exact hj)] at hw
      by_cases hin : o ≤ j ∧ j < o + vs.length
      · rw [if_pos hin, List.getElem?_eq_getElem (by omega)] at hw
        have := World.cell?_setCells_in (θ.blk y) (reals θ vs) (θ.off y + o) w (fun i hi => by
          rw [reals_len] at hi
          rw [Nat.add_assoc, (hobj.1 (o + i) (by omega)).1]; rfl) (j - o) (by rw [reals_len]; omega)
        rw [show θ.off y + o + (j - o) = θ.off y + j by omega] at this
        rw [this]
        rw [Option.some.inj hw]
        have := reals_get θ vs (j - o)
        rw [List.getElem?_eq_getElem (by rw [reals_len]; omega), List.getElem?_eq_getElem (by omega)] at this
        exact this
      · rw [if_neg hin, List.getElem?_eq_getElem hj] at hw
        rw [World.cell?_setCells_out, Option.some.inj hw]
        · exact (hobj.1 j hj).1
        · intro _ _
          simp only [reals_len]
          omega
    · cases r with
      | none => exact hobj.2
      | some x =>
        intro j hj
        rw [writes_len]
        obtain ⟨⟨v, hv⟩, hf⟩ := hobj.2 j hj
        refine ⟨Option.isSome_iff_exists.1 (World.isSome_setCells _ _ _ _ _ (by rw [hv]; rfl)), ?_⟩
        rw [World.frozen?_setCells]; exact hf
  · simp only [MObj.ok]
    refine ⟨fun v hv' => ?_, hok.2⟩
    rcases mem_writes hv' with h1 | h1
    · exact hok.1 v h1
    · exact hv v h1
  · intro b hb
    by_cases hlt : b < w.heap.size
    · exact World.heap_setCells_other w _ _ _ hlt hb
    · rw [Array.getElem?_eq_none (by rw [size_setCells]; omega), Array.getElem?_eq_none (by omega)]
theorem run_writes (hr : Rel θ h w) {y o : Nat} {l vs : List MV} {r : Option (Nat × Nat)} (hy : h.get y = some (.cells l r)) (hv : ∀ v ∈ vs, v.one) (hl : vs ≠ [] → o + vs.length ≤ l.length) :
    (Go.storeCells ⟨θ.blk y, θ.off y + o, none⟩ (reals θ vs)).run P w = .ok () (w.setCells (θ.blk y) (θ.off y + o) (reals θ vs)) := by
  have hobj := hr.obj y _ hy
  simp only [ObjIs] at hobj
  have key : ∀ j, j < (reals θ vs).length → o + j < l.length := by
    intro j hj
    rw [reals_len] at hj
    have := hl (by intro e; rw [e] at hj; simp at hj)
    omega
  have := run_storeCells_cells (P := P) (θ.blk y) (θ.off y + o) (reals θ vs) 0 w (fun j hj => by
      rw [Nat.add_zero, Nat.add_assoc, (hobj.1 (o + j) (key j hj)).1]; rfl)
    (fun j hj => by rw [Nat.add_zero, Nat.add_assoc]; exact (hobj.1 (o + j) (key j hj)).2)
    (fun v hv' => by
      rw [reals_map] at hv'
      obtain ⟨u, hu, rfl⟩ := List.mem_map.1 hv'
      exact one_cell θ (hv u hu))
  exact this
theorem storeCells_some (_hn : ∀ y, D y → y < n) (_hr : Rel θ h w) (_ho : okH D h) {y o : Nat} {vs : List MV} {v : MV} {ob : Option MObj} {r : R} (e : storeCells h n y o vs v ob = some r) :
    ∃ l q, ob = some (.cells l q) ∧ (vs ≠ [] → o + vs.length ≤ l.length) ∧ r = ⟨v, h.set y (.cells (writes l o vs) q), n⟩ := by
  unfold storeCells at e
  split at e
  · obtain ⟨h1, h2⟩ := fillK_some e
    exact ⟨_, _, rfl, h1, put1_some h2⟩
  · cases e
theorem store_yield (hn : ∀ y, D y → y < n) (hr : Rel θ h w) (ho : okH D h) (hT : TyOk P T) {t : Nat} {p x : MV} (hx : x.ok D) {r : R} (e : eStore h n (T.get t) (some p) (some x) = some r) :
    Yields P D n θ h w (do Instr.storeAt t (p.real θ) (x.real θ); pure .skip) r := by
  unfold eStore at e
  split at e
  · cases e
  rename_i ti ht
  simp only at e
  unfold storeV at e
  split at e
  · rename_i y o
    unfold storeVs at e
    split at e
    · cases e
    rename_i vs hvs
    split at e
    · rename_i hs
      rw [natBeq, llen_eq, decide_eq_true_eq] at hs
      obtain ⟨l, q, h1, h2, rfl⟩ := storeCells_some hn hr ho e
      obtain ⟨c1, c2, c3⟩ := cells_some hvs θ hx
      have hv : ∀ v ∈ vs, v.ok D ∧ v.one := fun v hv => ⟨(oks_iff D _).1 c2 v hv, c3 v hv⟩
      refine ⟨θ, _, .skip, ?_, .inr ⟨rfl, rfl⟩, lead_writes hn hr ho h1 hv h2, by simp [MV.ok, oks]⟩
      have hrun : (Instr.storeAt t ((MV.ptr y o).real θ) (x.real θ)).run P w = .ok () (w.setCells (θ.blk y) (θ.off y + o) (reals θ vs)) := by
        unfold Instr.storeAt
        simp only [MV.real]
        have hsa : (Instr.sureAddr (.pointer (some ⟨θ.blk y, θ.off y + o, none⟩))).run P w = .ok ⟨θ.blk y, θ.off y + o, none⟩ w := rfl
        refine (run_seq hsa).trans ?_
        unfold storeVar
        refine (run_seq (run_size hT ht w)).trans ?_
        rw [c1]
        have : ¬ ((reals θ vs).toArray.size ≠ ti.size) := by simp [reals_len, hs]
        rw [if_neg this]
        exact run_writes hr h1 c3 h2
      exact run_seq hrun
    · cases e
  · cases e
end
end Go.Proofs.YtkeckbmhaplkpaaGreatDoor.Ev
/- append and copy. -/
namespace Go.Proofs.YtkeckbmhaplkpaaGreatDoor.Ev
open Go
variable {P : Program} {T : Types}

section
variable {D : Nat → Prop} {n : Nat} {θ : Env} {h : Heap} {w : World}
theorem lead_kill (hn : ∀ y, D y → y < n) (hr : Rel θ h w) (ho : okH D h) {y : Nat} (hy : Live h y) : Leads D n θ h w n θ (h.set y .dead) w :=
  lead_put hn hr ho hy trivial trivial rfl rfl rfl rfl fun _ _ => rfl
/-- A name's block under a new name; the old one is no more. -/
theorem lead_move (hn : ∀ y, D y → y < n) (hr : Rel θ h w) (ho : okH D h) {w' : World} {y o c : Nat} {mo : MObj} (hy : Live h y) (hobj : ObjIs (θ.upd n (θ.blk y) o c) n w' mo) (hok : mo.ok (Up D n (n + 1)))
    (os : w'.os = w.os) (tape : w'.tape = w.tape) (output : w'.output = w.output) (size : w'.heap.size = w.heap.size) (kept : ∀ b, b ≠ θ.blk y → w'.heap[b]? = w.heap[b]?) :
    Leads D n θ h w (n + 1) (θ.upd n (θ.blk y) o c) ((h.set y .dead).set n mo) w' := by
  have hs := upd_same (θ := θ) (b := θ.blk y) (o := o) (c := c) hn
  have live : ∀ z, Live ((h.set y .dead).set n mo) z → z = n ∨ (z ≠ n ∧ z ≠ y ∧ Live h z) := by
    rintro z ⟨o, ho', hd⟩
    rcases PT.get_set ho' with ⟨rfl, _⟩ | ⟨hne, h2⟩
    · exact .inl rfl
    · rcases PT.get_set h2 with ⟨rfl, e⟩ | ⟨hne', h3⟩
      · exact absurd e hd
      · exact .inr ⟨hne, hne', o, h3, hd⟩
  have blk : ∀ z, Live h z → (θ.upd n (θ.blk y) o c).blk z = θ.blk z := fun z ⟨o, h1, _⟩ => (hs z (ho z o h1).1).1
  exact {
    le := Nat.le_succ n
    same := fun y hy => by
      have : y ≠ n := by omega
      simp [Env.upd, this]
    rel := {
      obj := fun z ob hz => by
        rcases PT.get_set hz with ⟨rfl, rfl⟩ | ⟨hne, h2⟩
        · exact hobj
        · rcases PT.get_set h2 with ⟨rfl, rfl⟩ | ⟨hne', h3⟩
          · trivial
          · by_cases hd : ob = .dead
            · subst hd; trivial
            · exact ObjIs.move hs (ho z _ h3).1 (ho z _ h3).2 (kept _ fun e => hne' (hr.sep z y ⟨ob, h3, hd⟩ hy e)) (hr.obj z _ h3)
      sep := fun a b ha hb e => by
        rcases live a ha with rfl | ⟨hyn, hyy, ha'⟩ <;> rcases live b hb with rfl | ⟨hzn, hzy, hb'⟩
        · rfl
        · rw [blk b hb', (upd_self θ _ _ _ _).1] at e
          exact absurd (hr.sep y b hy hb' e).symm hzy
        · rw [blk a ha', (upd_self θ _ _ _ _).1] at e
          exact absurd (hr.sep a y ha' hy e) hyy
        · rw [blk a ha', blk b hb'] at e
          exact hr.sep a b ha' hb' e
      lt := fun a ha => by
        rw [size]
        rcases live a ha with rfl | ⟨_, _, ha'⟩
        · rw [(upd_self θ _ _ _ _).1]; exact hr.lt y hy
        · rw [blk a ha']; exact hr.lt a ha' }
    ok := fun z ob hz => by
      rcases PT.get_set hz with ⟨rfl, rfl⟩ | ⟨hne, h2⟩
      · exact ⟨.inr ⟨Nat.le_refl _, by omega⟩, hok⟩
      · rcases PT.get_set h2 with ⟨rfl, rfl⟩ | ⟨hne', h3⟩
        · obtain ⟨ob, h1, _⟩ := hy
          exact ⟨.inl (ho z ob h1).1, trivial⟩
        · exact ⟨.inl (ho z ob h3).1, MObj.ok_mono up_mono (ho z ob h3).2⟩
    os := os
    tape := tape
    output := output
    size := by omega
    kept := fun b _ hne => kept b fun e => hne y hy e.symm
    born := fun z hz => by
      rcases live z hz with rfl | ⟨_, _, hz'⟩
      · exact .inl ⟨y, hy, by rw [(upd_self θ _ _ _ _).1]⟩
      · exact .inl ⟨z, hz', (blk z hz').symm⟩ }
end
/-- What an append takes its second argument for. -/
def SrcT (P : Program) (tx : TypeId) : Prop := (∃ e', P.underlying tx = some (.slice e')) ∨ P.underlying tx = some .string
theorem strCellsK_eq {β : Type} (s : List Nat) (k : List MV → β) : strCellsK s k = k (s.map fun b => .int .u8 (.ofNat b)) := by
  induction s generalizing k with
  | nil => rfl
  | cons b r ih => exact ih _
theorem str_cells (θ : Env) (s : List Nat) (hs : ∀ b ∈ s, b < 256) : byteCells ⟨(s.map UInt8.ofNat).toArray⟩ = reals θ (s.map fun b => .int .u8 (.ofNat b)) := by
  unfold byteCells
  rw [reals_map, List.map_map]
  simp only [List.map_map]
  refine List.map_congr_left fun b hb => ?_
  simp only [Function.comp, MV.real]
  congr 1
  rw [UInt8.toNat_ofNat', Nat.mod_eq_of_lt (hs b hb)]
  rfl
theorem ba_size (s : List Nat) : (ByteArray.mk (s.map UInt8.ofNat).toArray).size = s.length := by
  change ((s.map UInt8.ofNat).toArray).size = _
  simp
/-- Cells of a row, as the world has them. -/
theorem row_cells {θ : Env} {h : Heap} {w : World} (hr : Rel θ h w) {y o k : Nat} {l : List MV} (hy : cellsAt h y = some l) : ∀ j v, (reals θ ((l.drop o).take k))[j]? = some v → w.cell? ((⟨θ.blk y, θ.off y + o, none⟩ : Addr).add j) = some v := by
  intro j v hv
  obtain ⟨r, hg⟩ := cellsOf_some hy
  have hobj := hr.obj y _ hg
  simp only [ObjIs] at hobj
  rw [reals_get, Option.map_eq_some_iff] at hv
  obtain ⟨m, hm, rfl⟩ := hv
  rw [List.getElem?_take] at hm
  split at hm
  · rw [List.getElem?_drop] at hm
    obtain ⟨hlt, rfl⟩ := List.getElem?_eq_some_iff.1 hm
    rw [addr_add, Nat.add_assoc]
    exact (hobj.1 _ hlt).1
  · cases hm
theorem newsK_some {β : Type} {D : Nat → Prop} {θ : Env} {h : Heap} {w : World} (hr : Rel θ h w) (ho : okH D h) {size : Nat} {x : MV} {k : Nat → List MV → Option β} {b : β} (hx : x.ok D) (e : newsK h size x k = some b) :
    ∃ m news, k m news = some b ∧ (∀ v ∈ news, v.ok D ∧ v.one) ∧ news.length = m * size ∧ ∀ tx, SrcT P tx → Src P size tx (x.real θ) m (reals θ news) w := by
  unfold newsK at e
  split at e
  · exact ⟨0, [], e, (fun v hv => by cases hv), by simp, fun tx hk => ⟨hk, fun _ => rfl, run_firstCells_none w size 0 0 0, run_firstCells_none w.drew size 0 0 0, by simp [reals], fun _ h => by cases h⟩⟩
  · rename_i y o m c
    unfold newsRow at e
    split at e
    · cases e
    rename_i l hl
    rw [ldrop_eq] at e
    obtain ⟨h1, h2⟩ := ltakeK_some e
    obtain ⟨q, hg⟩ := cellsOf_some hl
    have hok := (ho y _ hg).2
    simp only [MObj.ok] at hok
    have hv : ∀ v ∈ (l.drop o).take (m * size), v.ok D ∧ v.one := fun v hv => hok.1 v (List.mem_of_mem_drop (List.mem_of_mem_take hv))
    have hlen : ((l.drop o).take (m * size)).length = m * size := by
      have h1' : m * size ≤ (l.drop o).length := h1
      rw [List.length_take]; omega
    refine ⟨m, _, h2, hv, hlen, fun tx hk => ?_⟩
    have hlr : (reals θ ((l.drop o).take (m * size))).length = m * size := by rw [reals_len, hlen]
    simp only [MV.real]
    refine ⟨hk, fun _ => rfl, run_firstCells_some w size m _ _ _ _ hlr (row_cells hr hl), run_firstCells_some w.drew size m _ _ _ _ hlr (by simpa using row_cells hr hl), hlr, fun u hu => ?_⟩
    rw [reals_map] at hu
    obtain ⟨v, hv', rfl⟩ := List.mem_map.1 hu
    exact one_cell θ (hv v hv').2
  · rename_i s
    split at e
    · rename_i hs
      rw [natBeq, decide_eq_true_eq] at hs
      subst hs
      rw [strCellsK_eq, llen_eq] at e
      simp only [MV.ok] at hx
      refine ⟨_, _, e, ?_, by simp, fun tx hk => ?_⟩
      · intro v hv
        obtain ⟨b, _, rfl⟩ := List.mem_map.1 hv
        exact ⟨by simp [MV.ok], trivial⟩
      · have := str_cells θ s hx
        simp only [MV.real]
        have hsz := ba_size s
        refine ⟨hk, fun w' => by simp [Builtin.lenOf, hsz], ?_, ?_, by rw [reals_len]; simp, ?_⟩
        · rw [← this, ← hsz]; exact firstCells_string _ _
        · rw [← this, ← hsz]; exact firstCells_string _ _
        · intro u hu
          rw [reals_map] at hu
          obtain ⟨v, hv', rfl⟩ := List.mem_map.1 hu
          obtain ⟨b, _, rfl⟩ := List.mem_map.1 hv'
          rfl
    · cases e
  · cases e
end Go.Proofs.YtkeckbmhaplkpaaGreatDoor.Ev
/- append, second half. -/
namespace Go.Proofs.YtkeckbmhaplkpaaGreatDoor.Ev
open Go
variable {P : Program} {T : Types}

section
variable {D : Nat → Prop} {n : Nat} {θ : Env} {h : Heap} {w : World}
theorem lead_grown (hn : ∀ y, D y → y < n) (hr : Rel θ h w) (ho : okH D h) {l : List MV} {cs : Array Value} {t : TypeId} {size : Nat} (c : Nat) (hl : ∀ v ∈ l, v.ok D ∧ v.one)
    (hcs : ∀ j (hj : j < l.length), cs[j]? = some (l[j].real θ)) (hroom : ∀ j, j < size * c → l.length + j < cs.size) :
    Leads D n θ h w (n + 1) (θ.upd n w.heap.size 0 c) (h.set n (.cells l (some (n, size)))) (w.drew.alloc (.cells cs t)) := by
  refine Leads.heap (lead_row (cs := cs) (t := t) (room := some (n, size)) hn hr ho c hl hcs fun x hx => ?_) rfl rfl rfl rfl
  obtain rfl := Option.some.inj hx
  exact ⟨rfl, hroom⟩
end
theorem newRoom_some {h : Heap} {n size : Nat} {l : List MV} {v : MV} {r : R} (e : newRoom h n size l v = some r) : r = ⟨v, h.set n (.cells l (some (n, size))), n + 1⟩ := put1_some e
/-- What is known of the element type of an append. -/
structure Elt (P : Program) (te : TI) (e : TypeId) (i : TypeInfo) (z : Value) : Prop where
  info : P.info? e = some i
  zero : i.zero = some z
  size : i.size = te.size
  bytes : i.bytes ≤ 4095
  cells : z.cells.size = te.size
section
variable {D : Nat → Prop} {n : Nat} {θ : Env} {h : Heap} {w : World} {t tx el ty : TypeId} {te : TI} {i : TypeInfo} {z : Value} {x : MV} {m : Nat} {news : List MV}
/-- A new row: the old cells, the new ones, room. -/
theorem grow_yield (hn : ∀ y, D y → y < n) (hr : Rel θ h w) (ho : okH D h) (hu : P.underlying t = some (.slice el)) (hE : Elt P te el i z) (hv : ∀ v ∈ news, v.ok D ∧ v.one) (_hlen : news.length = m * te.size) (hs : Src P te.size tx (x.real θ) m (reals θ news) w) {base : Option Addr} {len cap : Nat} {olds : List MV} (hold : (Builtin.firstCells te.size len (.slice base len cap)).run P w.drew = .ok (reals θ olds).toArray w.drew)
    (hov : ∀ v ∈ olds, v.ok D ∧ v.one) (_hol : olds.length = len * te.size) (hg : cap < len + m) (hle : len + m ≤ 1048576) {r : R}
    (e : newRoom h n te.size (olds ++ news) (.slice n 0 (len + m) (.more (len + m) n)) = some r) :
    Yields P D n θ h w (do pure (.value (← Builtin.append_ #[t, tx] ty #[.slice base len cap, x.real θ]))) r := by
  obtain rfl := newRoom_some e
  have h1 := nextslicecap_le hg
  have h2 : Builtin.nextslicecap (len + m) cap * i.bytes ≤ 2 * 1048576 * 4095 := Nat.mul_le_mul (by omega) hE.bytes
  have hrun := run_append_grow_src w t tx ty el i z hu hE.info hE.zero base len cap (reals θ olds) (by rw [hE.size]; exact hold) (x.real θ) m (reals θ news) (by rw [hE.size]; exact hs) hg (by omega) (by omega)
  have hge := grownCap_ge w (len + m) cap el
  refine ⟨θ.upd n w.heap.size 0 (grownCap w (len + m) cap el - (len + m)), _, _, run_seq hrun, .inl ?_, ?_, ?_⟩
  · change Next.value _ = _
    simp only [MV.real, (upd_self θ _ _ _ _).1, (upd_self θ _ _ _ _).2.1, Cap.real, (upd_self θ _ _ _ _).2.2]
    congr 2
    omega
  · refine lead_grown hn hr ho _ ?_ ?_ ?_
    · intro v hv'
      rcases List.mem_append.1 hv' with h3 | h3
      · exact hov v h3
      · exact hv v h3
    · intro j hj
      have e1 : (reals θ olds ++ reals θ news) = reals θ (olds ++ news) := by simp [reals_map]
      rw [e1, Array.getElem?_append_left (by simp [reals_len] at hj ⊢; omega), List.getElem?_toArray, reals_get, List.getElem?_eq_getElem hj]
      rfl
    · intro j hj
      rw [Array.size_append, size_zeroCells, hE.cells]
      have : ((reals θ olds ++ reals θ news).toArray).size = (olds ++ news).length := by simp [reals_len]
      rw [this]
      rw [Nat.mul_comm]
      exact Nat.add_lt_add_left hj _
  · simp only [MV.ok, Cap.ok]
    exact ⟨.inr ⟨Nat.le_refl _, by omega⟩, .inr ⟨Nat.le_refl _, by omega⟩⟩
/-- The old row, in place, under its own name. -/
theorem here_yield (hn : ∀ y, D y → y < n) (hr : Rel θ h w) (ho : okH D h) (hu : P.underlying t = some (.slice el)) (hE : Elt P te el i z) (hv : ∀ v ∈ news, v.ok D ∧ v.one) (hlen : news.length = m * te.size) (hs : Src P te.size tx (x.real θ) m (reals θ news) w) {y o len : Nat} {c : Cap} {r : R} (hc : c.ok D) (hy : D y) (hle : len + m ≤ c.least)
    (e : storeCells h n y (o + len * te.size) news (.slice y o (len + m) c) (h.get y) = some r) :
    Yields P D n θ h w (do pure (.value (← Builtin.append_ #[t, tx] ty #[(MV.slice y o len c).real θ, x.real θ]))) r := by
  obtain ⟨l, q, h1, h2, rfl⟩ := storeCells_some hn hr ho e
  have hobj := hr.obj y _ h1
  simp only [ObjIs] at hobj
  have key : ∀ j, j < (reals θ news).length → o + len * te.size + j < l.length := by
    intro j hj
    rw [reals_len] at hj
    have := h2 (by intro e; rw [e] at hj; simp at hj)
    omega
  have hreal : len + m ≤ c.real θ := by
    cases c with
    | just k => exact hle
    | more k x => simp only [Cap.least, Cap.real] at hle ⊢; omega
  have hrun := run_append_room_src w t tx ty el i hu hE.info (θ.blk y) (θ.off y + o) len (c.real θ) (x.real θ) m (reals θ news) (by rw [hE.size]; exact hs) hreal
    (fun j hj => by rw [hE.size, Nat.add_assoc (θ.off y), Nat.add_assoc (θ.off y), (hobj.1 _ (key j hj)).1]; rfl)
    (fun j hj => by rw [hE.size, Nat.add_assoc (θ.off y), Nat.add_assoc (θ.off y)]; exact (hobj.1 _ (key j hj)).2)
  rw [hE.size, Nat.add_assoc] at hrun
  refine ⟨θ, _, _, run_seq hrun, .inl ?_, lead_writes hn hr ho h1 hv h2, ?_⟩
  · simp only [MV.real]
  · simp only [MV.ok]
    exact ⟨.inl hy, Cap.ok_mono up_mono hc⟩
/-- The old row, in place, where room for it is not known by number: under a new name. -/
theorem room_yield (hn : ∀ y, D y → y < n) (hr : Rel θ h w) (ho : okH D h) (hu : P.underlying t = some (.slice el)) (hE : Elt P te el i z) (hv : ∀ v ∈ news, v.ok D ∧ v.one) (hlen : news.length = m * te.size) (hs : Src P te.size tx (x.real θ) m (reals θ news) w) {y o len c q : Nat} {l : List MV} {r : R} (hy : h.get y = some (.cells l (some (q, te.size)))) (hl : l.length = o + c * te.size) (hlo : len * te.size ≤ (l.drop o).length)
    (_hc : c < len + m) (hfit : len + m ≤ c + θ.cap q) (e : newRoom (h.set y .dead) n te.size ((l.drop o).take (len * te.size) ++ news) (.slice n 0 (len + m) (.more (len + m) n)) = some r) :
    Yields P D n θ h w (do pure (.value (← Builtin.append_ #[t, tx] ty #[(MV.slice y o len (.more c q)).real θ, x.real θ]))) r := by
  obtain rfl := newRoom_some e
  have hobj := hr.obj y _ hy
  simp only [ObjIs, HasRoom] at hobj
  have hok := (ho y _ hy).2
  simp only [MObj.ok] at hok
  have there : ∀ p, p < l.length + te.size * θ.cap q → There w ⟨θ.blk y, θ.off y + p, none⟩ := by
    intro p hp
    by_cases h1 : p < l.length
    · exact ⟨⟨_, (hobj.1 p h1).1⟩, (hobj.1 p h1).2⟩
    · have := hobj.2 (p - l.length) (by omega)
      rwa [show l.length + (p - l.length) = p by omega] at this
  have tot : l.length + te.size * θ.cap q = o + (c + θ.cap q) * te.size := by rw [hl, Nat.add_mul, Nat.mul_comm te.size]; omega
  have m1 : (len + m) * te.size ≤ (c + θ.cap q) * te.size := Nat.mul_le_mul_right _ hfit
  rw [Nat.add_mul] at m1
  rw [List.length_drop] at hlo
  have hnl : (reals θ news).length = m * te.size := by rw [reals_len, hlen]
  have hrun := run_append_room_src w t tx ty el i hu hE.info (θ.blk y) (θ.off y + o) len (c + θ.cap q) (x.real θ) m (reals θ news) (by rw [hE.size]; exact hs) hfit
    (fun j hj => by
      rw [hE.size, Nat.add_assoc (θ.off y), Nat.add_assoc (θ.off y)]
      obtain ⟨⟨v, hv⟩, _⟩ := there (o + len * te.size + j) (by omega)
      rw [hv]; rfl)
    (fun j hj => by
      rw [hE.size, Nat.add_assoc (θ.off y), Nat.add_assoc (θ.off y)]
      exact (there (o + len * te.size + j) (by omega)).2)
  rw [hE.size] at hrun
  have hs' := upd_same (θ := θ) (b := θ.blk y) (o := θ.off y + o) (c := c + θ.cap q - (len + m)) hn
  have hall : ∀ v ∈ (l.drop o).take (len * te.size) ++ news, v.ok D ∧ v.one := by
    intro v hv'
    rcases List.mem_append.1 hv' with h3 | h3
    · exact hok.1 v (List.mem_of_mem_drop (List.mem_of_mem_take h3))
    · exact hv v h3
  have halen : ((l.drop o).take (len * te.size) ++ news).length = (len + m) * te.size := by
    rw [List.length_append, List.length_take, List.length_drop, hlen, Nat.add_mul]; omega
  refine ⟨θ.upd n (θ.blk y) (θ.off y + o) (c + θ.cap q - (len + m)), _, _, run_seq hrun, .inl ?_, ?_, ?_⟩
  · change Next.value _ = _
    simp only [MV.real, (upd_self θ _ _ _ _).1, (upd_self θ _ _ _ _).2.1, Cap.real, (upd_self θ _ _ _ _).2.2, Nat.add_zero]
    congr 2
    omega
  · refine lead_move hn hr ho ⟨_, hy, by simp⟩ ?_ ?_ (World.os_setCells _ _ _ _) (tape_setCells _ _ _ _) (World.output_setCells _ _ _ _) (size_setCells _ _ _ _) ?_
    · simp only [ObjIs, (upd_self θ _ _ _ _).1, (upd_self θ _ _ _ _).2.1, HasRoom, (upd_self θ _ _ _ _).2.2]
      refine ⟨fun j hj => ?_, fun j hj => ?_⟩
      · rw [halen] at hj
        rw [World.frozen?_setCells]
        rw [Nat.add_mul] at hj
        refine ⟨?_, by rw [Nat.add_assoc]; exact (there (o + j) (by omega)).2⟩
        rw [MV.real_same hs' (hall _ (List.getElem_mem _)).1]
        by_cases h1 : j < len * te.size
        · rw [World.cell?_setCells_out _ _ _ _ _ (fun _ _ => .inl (by simp only; omega)), Nat.add_assoc, (hobj.1 (o + j) (by omega)).1]
          rw [List.getElem_append_left (by rw [List.length_take, List.length_drop]; omega), List.getElem_take, List.getElem_drop]
        · have := World.cell?_setCells_in (θ.blk y) (reals θ news) (θ.off y + o + len * te.size) w (fun i hi => by
            obtain ⟨⟨v, hv⟩, _⟩ := there (o + len * te.size + i) (by omega)
            rw [Nat.add_assoc (θ.off y), Nat.add_assoc (θ.off y), hv]; rfl) (j - len * te.size) (by omega)
          rw [show θ.off y + o + len * te.size + (j - len * te.size) = θ.off y + o + j by omega] at this
          rw [this]
          have hlt : (List.take (len * te.size) (List.drop o l)).length = len * te.size := by rw [List.length_take, List.length_drop]; omega
          rw [List.getElem_append_right (by omega)]
          have h5 := reals_get θ news (j - len * te.size)
          rw [List.getElem?_eq_getElem (by omega), List.getElem?_eq_getElem (by omega)] at h5
          simp only [hlt]
          exact h5
      · rw [halen]
        have m2 : te.size * (c + θ.cap q - (len + m)) = (c + θ.cap q) * te.size - (len + m) * te.size := by rw [Nat.mul_sub, Nat.mul_comm, Nat.mul_comm te.size (len + m)]
        rw [m2] at hj
        obtain ⟨⟨v, hv⟩, hf⟩ := there (o + ((len + m) * te.size + j)) (by omega)
        rw [← Nat.add_assoc] at hv hf
        refine ⟨Option.isSome_iff_exists.1 (World.isSome_setCells _ _ _ _ _ (by rw [hv]; rfl)), ?_⟩
        rw [World.frozen?_setCells]; exact hf
    · simp only [MObj.ok]
      refine ⟨fun v hv => ⟨MV.ok_mono up_mono (hall v hv).1, (hall v hv).2⟩, fun x hx => ?_⟩
      obtain rfl := Option.some.inj hx
      exact .inr ⟨Nat.le_refl _, by omega⟩
    · intro b hb
      by_cases hlt : b < w.heap.size
      · exact World.heap_setCells_other w _ _ _ hlt hb
      · rw [Array.getElem?_eq_none (by rw [size_setCells]; omega), Array.getElem?_eq_none (by omega)]
  · simp only [MV.ok, Cap.ok]
    exact ⟨.inr ⟨Nat.le_refl _, by omega⟩, .inr ⟨Nat.le_refl _, by omega⟩⟩
end
theorem elt_of (hT : TyOk P T) {el : Nat} {te : TI} (hel : T.get el = some te) (hb : te.bytes ≤ 4095) : ∃ i z, Elt P te el i z := by
  have hok := hT el te hel
  obtain ⟨i, hi, h1, h2, z, hz, hzi⟩ := hok.info
  refine ⟨i, z, hi, hz, h1, by omega, ?_⟩
  unfold ZeroIs at hzi
  split at hzi
  · rw [hzi]; simp [Value.cells, reals_len, hok.len]
  · obtain ⟨v, h1, rfl⟩ := hzi
    have h2 := (hok.zero v (by rw [h1]; simp)).1
    rw [← hok.len, h1]
    cases v <;> simp [MV.one] at h2 <;> simp [MV.real, Value.cells]
theorem append_yield (hT : TyOk P T) {D : Nat → Prop} {n : Nat} {θ : Env} {h : Heap} {w : World} (hn : ∀ y, D y → y < n) (hr : Rel θ h w) (ho : okH D h) {t tx ty : Nat} {te : TI} {s x : MV} {r : R}
    (ht : rowTI T t = some te) (hk : SrcT P tx) (hs : s.ok D) (hx : x.ok D) (e : appendV te h n s x = some r) :
    Yields P D n θ h w (do pure (.value (← Builtin.append_ #[t, tx] ty #[s.real θ, x.real θ]))) r := by
  obtain ⟨el, hu, hel, _, _⟩ := rowTI_ok hT ht
  unfold appendV at e
  split at e
  · cases e
  rename_i hb
  obtain ⟨i, z, hE⟩ := elt_of hT hel (by rw [natBle, decide_eq_true_eq] at hb; omega)
  obtain ⟨m, news, e2, hv, hlen, hsrc⟩ := newsK_some (P := P) hr ho hx e
  have hsrc := hsrc tx hk
  cases s with
  | nilSlice =>
    simp only [appendNil] at e2
    split at e2
    · rename_i hm
      obtain rfl := Option.some.inj e2
      rw [natBeq, decide_eq_true_eq] at hm
      subst hm
      have h0 : news = [] := List.length_eq_zero_iff.1 (by rw [hlen]; simp)
      subst h0
      have := run_append_nothing w t tx ty el i hu hE.info none 0 0 (Nat.le_refl _) (x.real θ) (by rw [hE.size]; exact hsrc)
      exact ⟨θ, w, _, run_seq this, .inl rfl, Leads.refl hr ho, by simp [MV.ok]⟩
    · rename_i hm
      rw [natBeq, decide_eq_false_iff_not] at hm
      split at e2
      · cases e2
      rename_i hle
      rw [natBle, decide_eq_true_eq] at hle
      refine grow_yield hn hr ho hu hE hv hlen hsrc (base := none) (len := 0) (cap := 0) (olds := []) (run_firstCells_none _ _ _ _ _) (fun v hv => by cases hv) (by simp) (by omega) (by omega) ?_
      rw [Nat.zero_add]
      exact e2
  | slice y o len c =>
    simp only [MV.ok] at hs
    simp only [appendRow] at e2
    split at e2
    · rename_i hle
      rw [natBle, decide_eq_true_eq] at hle
      exact here_yield hn hr ho hu hE hv hlen hsrc hs.2 hs.1 hle e2
    · rename_i hle
      rw [natBle, decide_eq_false_iff_not] at hle
      simp only [grow] at e2
      split at e2
      · cases e2
      rename_i hbig
      rw [natBle, decide_eq_true_eq] at hbig
      have hbig' : len + m ≤ 1048576 := hbig
      have hle' : c.least < len + m := Nat.lt_of_not_le hle
      cases c with
      | just k =>
        simp only at e2
        unfold growJust at e2
        split at e2
        · cases e2
        rename_i l hl
        rw [ldrop_eq] at e2
        obtain ⟨h1, h2⟩ := ltakeK_some e2
        rw [lappK_eq] at h2
        obtain ⟨q, hg⟩ := cellsOf_some hl
        have hok := (ho y _ hg).2
        simp only [MObj.ok] at hok
        have hlr : ((l.drop o).take (len * te.size)).length = len * te.size := by
          have h1' : len * te.size ≤ (l.drop o).length := h1
          rw [List.length_take]; omega
        refine grow_yield hn hr ho hu hE hv hlen hsrc (olds := (l.drop o).take (len * te.size)) ?_ (fun v hv => hok.1 v (List.mem_of_mem_drop (List.mem_of_mem_take hv))) hlr hle' hbig' h2
        exact run_firstCells_some w.drew te.size len _ _ _ _ (by rw [reals_len, hlr]) (by simpa using row_cells hr hl)
      | more k q =>
        simp only at e2
        unfold growMore at e2
        split at e2
        · rename_i l rm hg
          split at e2
          · cases e2
          rename_i hroom
          rw [ldrop_eq] at e2
          obtain ⟨h1, h2⟩ := ltakeK_some e2
          rw [lappK_eq, PT.setK_eq] at h2
          unfold room at hroom
          split at hroom
          · cases hroom
          rename_i rm
          obtain ⟨r1, r2⟩ := rm
          simp only [Bool.and_eq_true, natBeq, llen_eq, decide_eq_true_eq] at hroom
          obtain ⟨rfl, rfl, hll⟩ := hroom
          by_cases hfit : len + m ≤ k + θ.cap r1
          · exact room_yield hn hr ho hu hE hv hlen hsrc hg hll h1 hle' hfit h2
          · have hlk := lead_kill hn hr ho ⟨_, hg, by simp⟩
            have hok := (ho y _ hg).2
            simp only [MObj.ok] at hok
            have hl : cellsAt h y = some l := by simp [cellsAt, MObj.cellsOf, hg]
            have hlr : ((l.drop o).take (len * te.size)).length = len * te.size := by
              have h1' : len * te.size ≤ (l.drop o).length := h1
              rw [List.length_take]; omega
            have hok2 : okH D (h.set y .dead) := okH_iff (fun y => up_self y) hlk.ok
            obtain ⟨θ', w', v, g1, g2, g3, g4⟩ := grow_yield (h := h.set y .dead) (ty := ty) hn hlk.rel hok2 hu hE hv hlen hsrc (base := some ⟨θ.blk y, θ.off y + o, none⟩) (cap := k + θ.cap r1) (olds := (l.drop o).take (len * te.size))
              (run_firstCells_some w.drew te.size len _ _ _ _ (by rw [reals_len, hlr]) (by simpa using row_cells hr hl)) (fun v hv => hok.1 v (List.mem_of_mem_drop (List.mem_of_mem_take hv))) hlr (by omega) hbig' h2
            refine ⟨θ', w', v, g1, g2, ?_, g4⟩
            have : Up D n n = D := funext fun y => propext (up_self y)
            refine Leads.trans hlk ?_
            rw [this]
            exact g3
        · cases e2
  | _ => simp at e2
end Go.Proofs.YtkeckbmhaplkpaaGreatDoor.Ev
/- Maps turned: made, an entry put in, an entry put out. -/
namespace Go.Proofs.YtkeckbmhaplkpaaGreatDoor.Ev
open Go
variable {P : Program} {T : Types}

theorem keyEq_true {k e : MV} (h : keyEq k e = some true) : e = k := by
  unfold keyEq at h
  split at h
  · split at h
    · rename_i q a q' b
      split at h
      · rename_i hk
        have := kindEq_eq hk
        subst this
        simp only [Option.some.injEq, intEq_eq, decide_eq_true_eq] at h
        rw [h]
      · cases h
    · cases h
  · split at h
    · simp only [Option.some.injEq, strEq_eq, decide_eq_true_eq] at h
      rw [h]
    · cases h
  · cases h
theorem keyStays {P : Program} {d : TypeDesc} {k : MV} (hd : Fits d k) (θ : Env) (w : World) : (Instr.keyThatStays (k.real θ) (k.real θ)).run P w = .ok (k.real θ) w := by
  have : Instr.sameBits 10000 (k.real θ) (k.real θ) = true := by
    show Instr.sameBits (9999 + 1) _ _ = true
    rcases hd with ⟨_, q', n, rfl⟩ | ⟨_, s, rfl⟩ <;> simp [Instr.sameBits, MV.real]
    all_goals (rw [ba_beq]; simp)
  unfold Instr.keyThatStays
  rw [this]
  rfl
/-- Where a key is found. -/
theorem updK_some {D D' : Nat → Prop} {d : TypeDesc} {β : Type} {k v : MV} {es : List Entry} {q : Option (List Entry) → Option β} {y : β} (θ : Env) (hd : Fits d k) (hi : k.ok D) (he : ∀ e ∈ es, e.key.ok D') (h : updK k v es q = some y) (n : Nat) :
    (q none = some y ∧ Instr.findNow d (k.real θ) (es.map (Entry.real θ)) n = some none) ∨
    ∃ j e, es[j]? = some e ∧ e.key = k ∧ q (some (es.set j ⟨k, v, e.born⟩)) = some y ∧ Instr.findNow d (k.real θ) (es.map (Entry.real θ)) n = some (some (n + j, e.val.real θ)) := by
  induction es generalizing q n with
  | nil => exact .inl ⟨h, rfl⟩
  | cons e s ih =>
    change updStep (keyEq k e.key) (q (some (⟨k, v, e.born⟩ :: s))) (updK k v s (updMore e q)) = some y at h
    unfold updStep at h
    split at h
    · cases h
    · rename_i hk
      have hs := keyEq_same θ hd hi (he e (by simp)) hk
      refine .inr ⟨0, e, rfl, keyEq_true hk, h, ?_⟩
      simp only [List.map_cons, Instr.findNow, Entry.real, hs]
      rfl
    · rename_i hk
      have hs := keyEq_same θ hd hi (he e (by simp)) hk
      rcases ih (fun e' h' => he e' (by simp [h'])) h (n + 1) with ⟨h1, h2⟩ | ⟨j, e', h1, h2, h3, h4⟩
      · refine .inl ⟨h1, ?_⟩
        simp only [List.map_cons, Instr.findNow, Entry.real, hs]
        exact h2
      · refine .inr ⟨j + 1, e', h1, h2, h3, ?_⟩
        simp only [List.map_cons, Instr.findNow, Entry.real, hs]
        rw [show n + (j + 1) = n + 1 + j by omega]
        exact h4
theorem delK_some {D D' : Nat → Prop} {d : TypeDesc} {β : Type} {k : MV} {es : List Entry} {q : List Entry → Option β} {y : β} (θ : Env) (hd : Fits d k) (hi : k.ok D) (he : ∀ e ∈ es, e.key.ok D') (h : delK k es q = some y) (n : Nat) :
    (q es = some y ∧ Instr.findNow d (k.real θ) (es.map (Entry.real θ)) n = some none) ∨
    ∃ j e, es[j]? = some e ∧ q (es.eraseIdx j) = some y ∧ Instr.findNow d (k.real θ) (es.map (Entry.real θ)) n = some (some (n + j, e.val.real θ)) := by
  induction es generalizing q n with
  | nil => exact .inl ⟨h, rfl⟩
  | cons e s ih =>
    change updStep (keyEq k e.key) (q s) (delK k s (fun r' => q (e :: r'))) = some y at h
    unfold updStep at h
    split at h
    · cases h
    · rename_i hk
      have hs := keyEq_same θ hd hi (he e (by simp)) hk
      refine .inr ⟨0, e, rfl, h, ?_⟩
      simp only [List.map_cons, Instr.findNow, Entry.real, hs]
      rfl
    · rename_i hk
      have hs := keyEq_same θ hd hi (he e (by simp)) hk
      rcases ih (fun e' h' => he e' (by simp [h'])) h (n + 1) with ⟨h1, h2⟩ | ⟨j, e', h1, h3, h4⟩
      · refine .inl ⟨h1, ?_⟩
        simp only [List.map_cons, Instr.findNow, Entry.real, hs]
        exact h2
      · refine .inr ⟨j + 1, e', h1, h3, ?_⟩
        simp only [List.map_cons, Instr.findNow, Entry.real, hs]
        rw [show n + (j + 1) = n + 1 + j by omega]
        exact h4
theorem map_erase {α β : Type} (f : α → β) (l : List α) (j : Nat) : (l.eraseIdx j).map f = (l.map f).eraseIdx j := by
  induction l generalizing j with
  | nil => rfl
  | cons x r ih => cases j <;> simp [ih]
abbrev mapObj (θ : Env) (es : List Entry) (c : Nat) : Obj := .map (es.map (Entry.real θ)).toArray c
section
variable {D : Nat → Prop} {n : Nat} {θ : Env} {h : Heap} {w : World}
theorem lead_map (hn : ∀ y, D y → y < n) (hr : Rel θ h w) (ho : okH D h) {y : Nat} {es es' : List Entry} {c c' : Nat} (hy : h.get y = some (.map es c)) (hok : ∀ e ∈ es', (e.key.ok D ∧ e.key.one) ∧ e.val.ok D) :
    (Go.setObj (θ.blk y) (mapObj θ es' c')).run P w = .ok () { w with heap := w.heap.setIfInBounds (θ.blk y) (mapObj θ es' c') } ∧
    Leads D n θ h w n θ (h.set y (.map es' c')) { w with heap := w.heap.setIfInBounds (θ.blk y) (mapObj θ es' c') } := by
  have hobj := hr.obj y _ hy
  simp only [ObjIs] at hobj
  have hlt := hr.lt y ⟨_, hy, by simp⟩
  refine ⟨?_, lead_put hn hr ho ⟨_, hy, by simp⟩ ?_ hok rfl rfl rfl (by simp) fun b hb => ?_⟩
  · simp [setObj, Sem.run, hobj]
  · simp [ObjIs, hlt]
  · rw [Array.getElem?_setIfInBounds_ne (Ne.symm hb)]
theorem map_get (hr : Rel θ h w) (_ho : okH D h) {y : Nat} {es : List Entry} {c : Nat} (hy : h.get y = some (.map es c)) : (getObj (θ.blk y)).run P w = .ok (mapObj θ es c) w := by
  have hobj := hr.obj y _ hy
  simp only [ObjIs] at hobj
  simp [getObj, Sem.run, hobj]
theorem makeMap_yield (hn : ∀ y, D y → y < n) (hr : Rel θ h w) (ho : okH D h) {t : Nat} {r : R} (e : put1 h n (.map [] 0) (.map n) (Nat.succ n) = some r) : Yields P D n θ h w (do pure (.value (← Instr.makeMap t none))) r := by
  obtain rfl := put1_some e
  have hl := lead_new (ob := .map #[] 0) (mo := .map [] 0) hn hr ho 0 (by simp [ObjIs, (upd_self θ n w.heap.size 0 0).1]) (by simp [MObj.ok])
  refine ⟨_, _, .value (.map (some w.heap.size)), ?_, .inl ?_, hl, ?_⟩
  · simp [Instr.makeMap, newObj, Sem.run, bind, Sem.bind, pure]
  · simp [MV.real, (upd_self θ n w.heap.size 0 0).1]
  · simp only [MV.ok]; exact .inr ⟨Nat.le_refl _, by omega⟩
theorem putMap_yield (hn : ∀ y, D y → y < n) (hr : Rel θ h w) (ho : okH D h) (hT : TyOk P T) {t : Nat} {m k v : MV} (hk : k.ok D) (hv : v.ok D) {r : R} (e : eMap T t h n (some m) (some k) (some v) = some r) :
    Yields P D n θ h w (do Instr.mapUpdate t (m.real θ) (k.real θ) (v.real θ); pure .skip) r := by
  simp only [eMap] at e
  unfold putMap at e
  split at e
  · cases e
  rename_i hkt
  obtain ⟨kt, et, d, hu, huk, hd, _⟩ := isKeyT_ok hT hkt
  have hone : k.one := by rcases hd with ⟨_, _, _, rfl⟩ | ⟨_, _, rfl⟩ <;> trivial
  split at e
  · rename_i y
    unfold putIn at e
    split at e
    · cases e
    rename_i es hm
    have hg := mapOf_some hm
    have hok := (ho y _ hg).2
    simp only [MObj.ok] at hok
    have hgo := map_get (P := P) hr ho hg
    rcases updK_some θ hd hk (fun e he => (hok e he).1.1) e 0 with ⟨h1, h2⟩ | ⟨j, e0, h0, hke, h1, h2⟩
    · simp only [putNew] at h1
      rw [lappK_eq, fnat_eq] at h1
      obtain rfl := put1_some h1
      obtain ⟨l1, l2⟩ := lead_map (P := P) (es' := es.1 ++ [⟨k, v, es.2⟩]) (c' := es.2 + 1) hn hr ho hg (fun e he => by
        rcases List.mem_append.1 he with h3 | h3
        · exact hok e h3
        · obtain rfl := List.mem_singleton.1 h3
          exact ⟨⟨hk, hone⟩, hv⟩)
      refine ⟨θ, _, .skip, ?_, .inr ⟨rfl, rfl⟩, l2, by simp [MV.ok, oks]⟩
      have : mapObj θ (es.1 ++ [⟨k, v, es.2⟩]) (es.2 + 1) = .map ((es.1.map (Entry.real θ)).toArray.push { key := k.real θ, val := v.real θ, born := es.2 }) (es.2 + 1) := by
        simp [mapObj, Entry.real]
      rw [this] at l1
      simp only [Instr.mapUpdate, Sem.run_bind, run_und0 hu, Result.andThen, MV.real, hgo, Sem.run_pure, run_checkKey huk hd]
      simp only [Instr.findKey, Sem.run_bind, run_und0 huk, Result.andThen, h2, Sem.run_pure, l1, this]
    · simp only [putNew] at h1
      obtain rfl := put1_some h1
      obtain ⟨l1, l2⟩ := lead_map (P := P) (es' := es.1.set j ⟨k, v, e0.born⟩) (c' := es.2) hn hr ho hg (fun e he => by
        rcases List.mem_or_eq_of_mem_set he with h3 | rfl
        · exact hok e h3
        · exact ⟨⟨hk, hone⟩, hv⟩)
      refine ⟨θ, _, .skip, ?_, .inr ⟨rfl, rfl⟩, l2, by simp [MV.ok, oks]⟩
      have hj := (List.getElem?_eq_some_iff.1 h0).1
      have : mapObj θ (es.1.set j ⟨k, v, e0.born⟩) es.2 = .map ((es.1.map (Entry.real θ)).toArray.modify j fun e => { e with key := k.real θ, val := v.real θ }) es.2 := by
        simp only [mapObj]
        congr 1
        apply Array.ext'
        apply List.ext_getElem?
        intro i
        simp only [Array.toList_modify, List.getElem?_modify, List.getElem?_map, List.getElem?_set]
        by_cases hij : j = i
        · subst hij
          simp [hj, Entry.real]
          have := (List.getElem?_eq_some_iff.1 h0).2
          rw [this]
        · simp [hij]
      rw [this] at l1
      have hst := keyStays (P := P) hd θ w
      have hget : (((es.1.map (Entry.real θ)).toArray[j]?).map (·.key)).getD (k.real θ) = k.real θ := by
        simp [h0, Entry.real, hke]
      simp only [Instr.mapUpdate, Sem.run_bind, run_und0 hu, Result.andThen, MV.real, hgo, Sem.run_pure, run_checkKey huk hd]
      simp only [Instr.findKey, Sem.run_bind, run_und0 huk, Result.andThen, h2, Sem.run_pure, Nat.zero_add, hget, hst, l1, this]
  · cases e
theorem delMap_yield (hn : ∀ y, D y → y < n) (hr : Rel θ h w) (ho : okH D h) (hT : TyOk P T) {t ty : Nat} {ts : Array TypeId} (hts : ts[0]? = some t) {m k : MV} (hk : k.ok D) {r : R} (e : delMap T t h n m k = some r) :
    Yields P D n θ h w (do pure (.value (← Builtin.delete_ ts ty #[m.real θ, k.real θ]))) r := by
  unfold delMap at e
  split at e
  · cases e
  rename_i hkt
  obtain ⟨kt, et, d, hu, huk, hd, _⟩ := isKeyT_ok hT hkt
  split at e
  · rename_i y
    unfold delIn at e
    split at e
    · cases e
    rename_i es hm
    have hg := mapOf_some hm
    have hok := (ho y _ hg).2
    simp only [MObj.ok] at hok
    have hgo := map_get (P := P) hr ho hg
    rcases delK_some θ hd hk (fun e he => (hok e he).1.1) e 0 with ⟨h1, h2⟩ | ⟨j, e0, h0, h1, h2⟩
    · obtain rfl := put1_some h1
      obtain ⟨l1, l2⟩ := lead_map (P := P) (es' := es.1) (c' := es.2) hn hr ho hg hok
      refine ⟨θ, _, .value (.tuple #[]), ?_, .inl (by simp [MV.real, reals]), l2, by simp [MV.ok, oks]⟩
      simp only [mapObj] at l1
      simp [Builtin.delete_, hts, Sem.run_bind, run_und0 hu, Result.andThen, MV.real, hgo, run_checkKey huk hd, Instr.findKey, run_und0 huk, h2, l1]
    · obtain rfl := put1_some h1
      obtain ⟨l1, l2⟩ := lead_map (P := P) (es' := es.1.eraseIdx j) (c' := es.2) hn hr ho hg (fun e he => hok e (List.mem_of_mem_eraseIdx he))
      refine ⟨θ, _, .value (.tuple #[]), ?_, .inl (by simp [MV.real, reals]), l2, by simp [MV.ok, oks]⟩
      have hj := (List.getElem?_eq_some_iff.1 h0).1
      have : mapObj θ (es.1.eraseIdx j) es.2 = .map ((es.1.map (Entry.real θ)).toArray.eraseIdxIfInBounds j) es.2 := by
        simp only [mapObj]
        congr 1
        rw [Array.eraseIdxIfInBounds, dif_pos (by simpa using hj)]
        apply Array.ext'
        simp [map_erase]
      rw [this] at l1 ⊢
      simp only [Builtin.delete_, hts, List.getElem?_toArray, List.getElem?_cons_zero, List.getElem?_cons_succ, Sem.run_bind, run_und0 hu, Result.andThen, MV.real, hgo, run_checkKey huk hd, Instr.findKey, run_und0 huk, h2, Nat.zero_add, l1, Sem.run_pure]
  · cases e
end
end Go.Proofs.YtkeckbmhaplkpaaGreatDoor.Ev
/- make of a slice; copy. -/
namespace Go.Proofs.YtkeckbmhaplkpaaGreatDoor.Ev
open Go
variable {P : Program} {T : Types}

theorem zero_is {te : TI} {z : Value} (hz : ∀ v ∈ te.zero, v.one ∧ v.ok (fun _ => False)) (h : ZeroIs te z) (θ : Env) : z.cells = (reals θ te.zero).toArray := by
  unfold ZeroIs at h
  split at h
  · rw [h, zero_same θ hz]; rfl
  · obtain ⟨v, h1, rfl⟩ := h
    have := zero_same θ hz
    rw [h1] at this ⊢
    simp only [reals, List.cons.injEq, and_true] at this
    rw [this]
    have h2 := (hz v (by rw [h1]; simp)).1
    cases v <;> simp [MV.one] at h2 <;> simp [MV.real, Value.cells, reals]
section
variable {D : Nat → Prop} {n : Nat} {θ : Env} {h : Heap} {w : World}
theorem make_yield (hn : ∀ y, D y → y < n) (hr : Rel θ h w) (ho : okH D h) (hT : TyOk P T) {t : Nat} {l c : MV} {r : R} (e : eMake h n (rowTI T t) (some l) (some c) = some r) :
    Yields P D n θ h w (do pure (.value (← Instr.makeSlice t (l.real θ) (c.real θ)))) r := by
  unfold eMake at e
  split at e
  · cases e
  rename_i te hte
  obtain ⟨el, hu, hel, _, _⟩ := rowTI_ok hT hte
  split at e
  · cases e
  rename_i hb
  simp only at e
  split at e
  · cases e
  rename_i l' hl'
  split at e
  · cases e
  rename_i c' hc'
  split at e
  · cases e
  rename_i hcb
  split at e
  · cases e
  rename_i hlc
  have hb' : te.bytes ≤ 4095 := by rw [natBle, decide_eq_true_eq] at hb; omega
  have hcb' : c' ≤ 1048576 := by rw [natBle, decide_eq_true_eq] at hcb; exact hcb
  have hlc' : l' ≤ c' := by rw [natBle, decide_eq_true_eq] at hlc; exact hlc
  have hl2 : ∃ q, l = .int q (.ofNat l') := by
    unfold natOf at hl'
    split at hl'
    · obtain rfl := Option.some.inj hl'; exact ⟨_, rfl⟩
    · cases hl'
  have hc2 : ∃ q, c = .int q (.ofNat c') := by
    unfold natOf at hc'
    split at hc'
    · obtain rfl := Option.some.inj hc'; exact ⟨_, rfl⟩
    · cases hc'
  obtain ⟨q1, rfl⟩ := hl2
  obtain ⟨q2, rfl⟩ := hc2
  have e2 := repK_some e
  have hok := hT el te hel
  obtain ⟨i, hi, hi1, hi2, z, hz, hzi⟩ := hok.info
  have hz2 := zero_is hok.zero hzi θ
  have hlen : (reals θ te.zero).length = te.size := by rw [reals_len, hok.len]
  refine cells_yield hn hr ho (l := (List.replicate c' te.zero).flatten) (t := el) (x := .value (.slice (some ⟨w.heap.size, 0, none⟩) l' c')) (fun v hv => ⟨MV.ok_mono (fun _ h => h.elim) (hok.zero v (mem_flat hv)).2, (hok.zero v (mem_flat hv)).1⟩) ?_ ?_ ?_ e2
  · have hrun : (Instr.makeSlice t ((MV.int q1 (.ofNat l')).real θ) ((MV.int q2 (.ofNat c')).real θ)).run P w = .ok (.slice (some ⟨w.heap.size, 0, none⟩) l' c') (pushed w (.cells (reals θ (List.replicate c' te.zero).flatten).toArray el)) := by
      have hbb : te.bytes * c' ≤ 4095 * 1048576 := Nat.mul_le_mul hb' hcb'
      have hbb' : ((i.bytes : Int) * (Int.ofNat c')) ≤ 281474976710656 := by
        rw [hi2]
        have : ((te.bytes : Int) * (c' : Int)) ≤ ((4095 * 1048576 : Nat) : Int) := by rw [← Int.natCast_mul]; exact Int.ofNat_le.2 hbb
        exact Int.le_trans this (by decide)
      have hm := run_make (P := P) w t el i z hu hi hz q1 q2 (Int.ofNat l') (Int.ofNat c') (Int.natCast_nonneg _) (Int.ofNat_le.2 hlc') hbb' (by show (c' : Int) ≤ 9223372036854775807; omega)
      have e3 : madeCells z.cells ((Int.ofNat c').toNat * i.size) = (reals θ (List.replicate c' te.zero).flatten).toArray := by
        rw [hz2, hi1, reals_flat, ← range_cells, hlen]
        rfl
      rw [e3] at hm
      exact hm
    rw [run_seq hrun]; rfl
  · intro θ' hθ
    simp [MV.real, hθ.1, hθ.2, Cap.real]
  · simp only [MV.ok, Cap.ok, and_true]
    exact .inr ⟨Nat.le_refl _, by omega⟩
end
theorem firstCells_less {D : Nat → Prop} {θ : Env} {h : Heap} {w : World} (hr : Rel θ h w) (ho : okH D h) {size : Nat} {x : MV} {β : Type} {k : Nat → List MV → Option β} {b : β} (hx : x.ok D) (e : newsK h size x k = some b) :
    ∃ m news, k m news = some b ∧ (∀ v ∈ news, v.ok D ∧ v.one) ∧ news.length = m * size ∧ (Builtin.lenOf (x.real θ)).run P w = .ok m w ∧ ∀ q, q ≤ m → (Builtin.firstCells size q (x.real θ)).run P w = .ok (reals θ (news.take (q * size))).toArray w := by
  unfold newsK at e
  split at e
  · exact ⟨0, [], e, (fun v hv => by cases hv), by simp, rfl, fun q hq => by simp only [MV.real]; rw [run_firstCells_none]; simp [reals]⟩
  · rename_i y o m c
    unfold newsRow at e
    split at e
    · cases e
    rename_i l hl
    rw [ldrop_eq] at e
    obtain ⟨h1, h2⟩ := ltakeK_some e
    obtain ⟨rm, hg⟩ := cellsOf_some hl
    have hok := (ho y _ hg).2
    simp only [MObj.ok] at hok
    refine ⟨m, _, h2, fun v hv => hok.1 v (List.mem_of_mem_drop (List.mem_of_mem_take hv)), ?_, rfl, fun q hq => ?_⟩
    · have h1' : m * size ≤ (l.drop o).length := h1
      change ((l.drop o).take (m * size)).length = _
      rw [List.length_take]; omega
    have hqm : q * size ≤ m * size := Nat.mul_le_mul_right _ hq
    have h1' : m * size ≤ (l.drop o).length := h1
    have e1 : ((l.drop o).take (m * size)).take (q * size) = (l.drop o).take (q * size) := by rw [List.take_take, Nat.min_eq_left hqm]
    have e1' : ((l.drop o).take (Nat.mul m size)).take (q * size) = (l.drop o).take (q * size) := e1
    rw [e1']
    simp only [MV.real]
    exact run_firstCells_some w size q _ _ _ _ (by rw [reals_len, List.length_take]; omega) (row_cells hr hl)
  · rename_i s
    split at e
    · rename_i hs
      rw [natBeq, decide_eq_true_eq] at hs
      subst hs
      rw [strCellsK_eq, llen_eq] at e
      simp only [MV.ok] at hx
      refine ⟨_, _, e, ?_, by simp, ?_, fun q hq => ?_⟩
      · intro v hv
        obtain ⟨b, _, rfl⟩ := List.mem_map.1 hv
        exact ⟨by simp [MV.ok], trivial⟩
      · simp [MV.real, Builtin.lenOf, ba_size]
      · simp only [MV.real, Builtin.firstCells, Sem.run_pure, Nat.mul_one]
        congr 1
        have := str_cells θ s hx
        unfold byteCells at this
        rw [reals_take, ← this]
        apply Array.ext'
        simp [ByteArray.extract, ByteArray.copySlice]
    · cases e
  · cases e
theorem copy_yield (hT : TyOk P T) {D : Nat → Prop} {n : Nat} {θ : Env} {h : Heap} {w : World} (hn : ∀ y, D y → y < n) (hr : Rel θ h w) (ho : okH D h) {t ty : Nat} {ts : Array TypeId} (hts : ts[0]? = some t) {te : TI} {s x : MV} {r : R}
    (ht : rowTI T t = some te) (hs : s.ok D) (hx : x.ok D) (e : copyV te h n s x = some r) :
    Yields P D n θ h w (do pure (.value (← Builtin.copy_ ts ty #[s.real θ, x.real θ]))) r := by
  obtain ⟨el, hu, hel, _, _⟩ := rowTI_ok hT ht
  unfold copyV at e
  have rs := run_size hT hel w
  obtain ⟨m, news, e2, hv, hlen, hl, hf⟩ := firstCells_less (P := P) hr ho hx e
  have start : ∀ (base : Option Addr) (dl dc : Nat) (res : Result Value), ((do
      let n := Nat.min (← Builtin.lenOf (x.real θ)) dl
      let cells ← Builtin.firstCells (← sizeOf el) n (x.real θ)
      if let some a := base then Go.storeCells a cells.toList
      pure (goInt n) : Sem Value)).run P w = res → (Builtin.copy_ ts ty #[.slice base dl dc, x.real θ]).run P w = res := by
    intro base dl dc res hres
    unfold Builtin.copy_
    rw [hts]
    simp only [List.getElem?_toArray, List.getElem?_cons_zero, List.getElem?_cons_succ]
    exact (run_und hu w _).trans hres
  cases s with
  | nilSlice =>
    obtain rfl := Option.some.inj e2
    refine ⟨θ, w, _, run_seq (start none 0 0 _ ?_), .inl rfl, Leads.refl hr ho, by simp [MV.ok]⟩
    refine (run_seq hl).trans ?_
    refine (run_seq rs).trans ?_
    refine (run_seq (hf _ (Nat.min_le_left _ _))).trans ?_
    have : Nat.min m 0 = 0 := Nat.min_zero m
    rw [this]
    rfl
  | slice y o len c =>
    simp only [MV.ok] at hs
    simp only [copyRow] at e2
    obtain ⟨h1, h2⟩ := ltakeK_some e2
    have hmin : minN m len = Nat.min m len := by
      unfold minN
      split
      · rename_i hb; rw [natBle, decide_eq_true_eq] at hb; exact (Nat.min_eq_left hb).symm
      · rename_i hb; rw [natBle, decide_eq_false_iff_not] at hb; exact (Nat.min_eq_right (by omega)).symm
    rw [hmin] at h1 h2
    obtain ⟨l, q, g1, g2, rfl⟩ := storeCells_some hn hr ho h2
    have hv' : ∀ v ∈ news.take (Nat.min m len * te.size), v.ok D ∧ v.one := fun v hv0 => hv v (List.mem_of_mem_take hv0)
    refine ⟨θ, _, _, run_seq (start (some ⟨θ.blk y, θ.off y + o, none⟩) len (c.real θ) _ ?_), .inl rfl, lead_writes hn hr ho g1 hv' g2, by simp [MV.ok]⟩
    refine (run_seq hl).trans ?_
    refine (run_seq rs).trans ?_
    refine (run_seq (hf _ (Nat.min_le_left _ _))).trans ?_
    exact run_seq (run_writes hr g1 (fun v hv0 => (hv' v hv0).2) g2)
  | _ => simp at e2
end Go.Proofs.YtkeckbmhaplkpaaGreatDoor.Ev
/- What the evaluator says of an operation that turns the heap, is what the run yields. -/
namespace Go.Proofs.YtkeckbmhaplkpaaGreatDoor.Ev
open Go
variable {P : Program} {T : Types}

theorem Yields.congr {D : Nat → Prop} {n : Nat} {θ : Env} {h : Heap} {w : World} {s s' : Sem Next} {r : R} (e : s.run P w = s'.run P w) (y : Yields P D n θ h w s' r) : Yields P D n θ h w s r := by
  obtain ⟨θ', w', x, h1, h2⟩ := y
  exact ⟨θ', w', x, e.trans h1, h2⟩
theorem eff_sound (hT : TyOk P T) {D : Nat → Prop} {n : Nat} {θ : Env} {a : Fr} {A : Act} {h : Heap} {w : World} (hn : ∀ y, D y → y < n) (ha : okF D a) (fa : RelF θ a A) (hr : Rel θ h w) (ho : okH D h) {o : Oper} {r : R} (e : effOp T a h n o.op = some r) :
    Yields P D n θ h w (execOp A.eval o) r := by
  have one : ∀ {x : Operand} {m : MV}, opd a x = some m → m.ok D ∧ A.eval x = m.real θ := fun h => opd_ok ha fa h
  obtain ⟨dst, op, ty, pos, after, guard⟩ := o
  simp only at e
  cases op <;> simp only [effOp] at e <;> first | (cases e; done) | skip
  case alloc t => exact alloc_yield hn hr ho hT e
  case box t x =>
    cases hx : opd a x with
    | none => rw [hx] at e; cases e
    | some m =>
      rw [hx] at e
      obtain ⟨p, q⟩ := one hx
      have := box_yield (P := P) (t := t) hn hr ho p e
      rw [← q] at this
      exact this
  case buildSlice t len ps => exact row_yield hn hr ho hT ha fa e
  case store t p x =>
    cases hp : opd a p with
    | none =>
      rw [hp] at e
      unfold eStore at e
      split at e <;> cases e
    | some m =>
      cases hx : opd a x with
      | none =>
        rw [hp, hx] at e
        unfold eStore at e
        split at e <;> cases e
      | some m' =>
        rw [hp, hx] at e
        obtain ⟨_, q⟩ := one hp
        obtain ⟨p', q'⟩ := one hx
        have := store_yield hn hr ho hT p' e
        rw [← q, ← q'] at this
        exact this
  case makeMap t k =>
    cases k with
    | none => exact makeMap_yield hn hr ho e
    | some k => cases e
  case makeSlice t l c =>
    cases hp : opd a l with
    | none =>
      rw [hp] at e
      unfold eMake at e
      split at e
      · cases e
      · split at e <;> cases e
    | some m =>
      cases hx : opd a c with
      | none =>
        rw [hp, hx] at e
        unfold eMake at e
        split at e
        · cases e
        · split at e <;> cases e
      | some m' =>
        rw [hp, hx] at e
        obtain ⟨_, q⟩ := one hp
        obtain ⟨p', q'⟩ := one hx
        have := make_yield hn hr ho hT e
        rw [← q, ← q'] at this
        exact this
  case mapUpdate t m k v =>
    cases hm : opd a m with
    | none => rw [hm] at e; cases e
    | some m1 =>
      cases hk : opd a k with
      | none => rw [hm, hk] at e; cases e
      | some k1 =>
        cases hv : opd a v with
        | none => rw [hm, hk, hv] at e; cases e
        | some v1 =>
          rw [hm, hk, hv] at e
          obtain ⟨_, q⟩ := one hm
          obtain ⟨p1, q1⟩ := one hk
          obtain ⟨p2, q2⟩ := one hv
          have := putMap_yield hn hr ho hT p1 p2 e
          rw [← q, ← q1, ← q2] at this
          exact this
  case call c =>
    unfold eCall at e
    split at e
    · rename_i b hc
      unfold builtinV at e
      split at e
      · cases e
      rename_i l hl
      obtain ⟨p, q⟩ := opds_ok ha fa hl
      split at e
      · cases e
      rename_i t ts hts
      have ht0 : c.argTypes[0]? = some t := by rw [← Array.getElem?_toList, hts]; rfl
      split at e
      · split at e
        · rename_i hno
          unfold bAppend at e
          split at e
          · cases e
          rename_i te hte
          split at e
          · rename_i s x
            unfold noInt at hno
            split at hno
            · rename_i t1 tx htx
              obtain ⟨rfl, rfl⟩ : t = t1 ∧ ts = [tx] := by rw [hts] at htx; simpa using htx
              have hk : SrcT P tx := by
                split at hno
                · rename_i ti hti
                  have hd := (hT tx ti hti).d
                  split at hno
                  · rename_i hdd; rw [hdd] at hd; exact .inl ⟨_, hd⟩
                  · rename_i hdd; rw [hdd] at hd; exact .inr hd
                  · cases hno
                · cases hno
              simp only [oks] at p
              have hargs : c.args.map A.eval = #[s.real θ, x.real θ] := by apply Array.ext'; simpa [reals] using q
              have hat : c.argTypes = #[t, tx] := by apply Array.ext'; simpa using hts
              refine Yields.congr ?_ (append_yield hT hn hr ho (tx := tx) (ty := ty) hte hk p.1 p.2.1 e)
              simp only [execOp, resolve, hc, hargs, hat]
              rfl
            · cases hno
          · cases e
        · cases e
      · unfold bCopy at e
        split at e
        · cases e
        rename_i te hte
        split at e
        · rename_i s x
          simp only [oks] at p
          have hargs : c.args.map A.eval = #[s.real θ, x.real θ] := by apply Array.ext'; simpa [reals] using q
          refine Yields.congr ?_ (copy_yield hT hn hr ho (ty := ty) ht0 hte p.1 p.2.1 e)
          simp only [execOp, resolve, hc, hargs]
          rfl
        · cases e
      · split at e
        · rename_i m k
          simp only [oks] at p
          have hargs : c.args.map A.eval = #[m.real θ, k.real θ] := by apply Array.ext'; simpa [reals] using q
          refine Yields.congr ?_ (delMap_yield hn hr ho hT (ty := ty) ht0 p.2.1 e)
          simp only [execOp, resolve, hc, hargs]
          rfl
        · cases e
      · cases e
    · cases e
end Go.Proofs.YtkeckbmhaplkpaaGreatDoor.Ev
/- The evaluator's control: regions in one order and in any, code, calls. -/
namespace Go.Proofs.YtkeckbmhaplkpaaGreatDoor.Ev
open Go
noncomputable section

inductive Ex where
  | normal
  | exit (i : Nat)
  | ret
structure St where
  a : Fr
  h : Heap
  n : Nat
structure X where
  e : Ex
  s : St
/-- What is known of an operation of a region that is run in any order: those ahead of it; where it reads the heap: behind how many effects at least, at most. -/
structure Pl where
  mask : Nat
  rd : Option (Nat × Nat)
abbrev Plans := PT (List Pl)
structure FX where
  fn : Func
  plans : Plans
structure Fns where
  c : Plans → Code → St → Option X
  f : Nat → List MV → Heap → Nat → Option R

/-! ### One operation -/
def putK {β : Type} (a : Fr) (o : Oper) (v : MV) (k : Fr → β) : β := match o.dst with
  | some d => force v fun v => a.setK d v k
  | none => k a
inductive Cls where
  | pure
  | fresh
  | eff
  | call (c : Call) (x : Operand)
def clsCall (c : Call) : Cls := match c.callee with
  | .value x => .call c x
  | .builtin b => (match b with | .append => .eff | .copy => .eff | .delete => .eff | _ => .pure)
  | .invoke _ _ => .eff
def cls (op : Op) : Cls := match op with
  | .call c => clsCall c
  | .alloc _ => .fresh
  | .box _ _ => .fresh
  | .buildSlice _ _ _ => .fresh
  | .makeMap _ _ => .fresh
  | .makeSlice _ _ _ => .fresh
  | .store _ _ _ => .eff
  | .mapUpdate _ _ _ _ => .eff
  | _ => .pure
def wantV (b : Bool) (v : Option MV) : Option Bool := match v with
  | none => none
  | some v => match v with
    | .bool c => (match b with | true => some c | false => (match c with | true => some false | false => some true))
    | _ => some false
def wants (a : Fr) (all : List Oper) (o : Oper) : Option Bool := match o.guard with
  | none => some true
  | some g => match lget all g.1 with
    | none => none
    | some oj => match oj.dst with
      | none => none
      | some d => wantV g.2 (a.get d)
def callArgs (s : Fns) (h : Heap) (n f : Nat) (first cap : List MV) (args : Option (List MV)) : Option R := match args with
  | none => none
  | some l => lappK l cap fun l => lappK first l fun l => s.f f l h n
def callR (s : Fns) (a : Fr) (h : Heap) (n : Nat) (c : Call) (f : Option MV) : Option R := match f with
  | some v => (match v with
    | .func f first cap => callArgs s h n f first cap (opds a c.args.toList)
    | _ => none)
  | none => none
def kPutR (a : Fr) (o : Oper) (r : Option R) (k : Fr → Heap → Nat → Option X) : Option X := match r with
  | none => none
  | some r => putK a o r.v fun a => k a r.h r.n
def kPut (a : Fr) (o : Oper) (v : Option MV) (k : Fr → Option X) : Option X := match v with
  | none => none
  | some v => putK a o v k

/-- The same, where the names must not grow less. -/
def kPutN1 (b : Bool) (a : Fr) (o : Oper) (r : R) (k : Fr → Heap → Nat → Option X) : Option X := match b with
  | false => none
  | true => putK a o r.v fun a => k a r.h r.n
def kPutN (n : Nat) (a : Fr) (o : Oper) (r : Option R) (k : Fr → Heap → Nat → Option X) : Option X := match r with
  | none => none
  | some r => kPutN1 (Nat.ble n r.n) a o r k

/-! ### A region in its one order -/
def sStep (T : Types) (s : Fns) (o : Oper) (t : St) (k : St → Option X) : Option X := match cls o.op with
  | .pure => kPut t.a o (pureOp T t.a t.h o.op) fun a => k ⟨a, t.h, t.n⟩
  | .call c x => kPutR t.a o (callR s t.a t.h t.n c (opd t.a x)) fun a h n => k ⟨a, h, n⟩
  | .fresh => kPutR t.a o (effOp T t.a t.h t.n o.op) fun a h n => k ⟨a, h, n⟩
  | .eff => kPutR t.a o (effOp T t.a t.h t.n o.op) fun a h n => k ⟨a, h, n⟩
def sWant (T : Types) (s : Fns) (w : Option Bool) (o : Oper) (t : St) (k : St → Option X) : Option X := match w with
  | none => none
  | some b => match b with
    | true => sStep T s o t k
    | false => putK t.a o .undef fun a => k ⟨a, t.h, t.n⟩
def sOps (T : Types) (s : Fns) (all l : List Oper) : St → Option X :=
  List.rec (motive := fun _ => St → Option X) (fun t => some ⟨.normal, t⟩) (fun o _ ih t => sWant T s (wants t.a all o) o t ih) l

/-! ### A region in any order -/
structure Pd where
  i : Nat
  y : Nat
  o : MObj
structure Rd where
  a : Fr
  op : Op
  v : MV
  lo : Nat
  hi : Nat
structure Dt where
  a : Fr
  h : Heap
  n : Nat
  ps : List Pd
  hs : List Heap
  rs : List Rd
def bitOf (m i : Nat) : Bool := Nat.beq (Nat.land (Nat.shiftRight m i) 1) 1
def relPut {β : Type} (b : Bool) (p : Pd) (h : Heap) (hit : Heap → β) (miss : β) : β := match b with
  | true => h.setK p.y p.o hit
  | false => miss
def relK {β : Type} (mask : Nat) (ps : List Pd) : Heap → (Heap → List Pd → β) → β :=
  List.rec (motive := fun _ => Heap → (Heap → List Pd → β) → β) (fun h k => k h [])
    (fun p _ ih h k => relPut (bitOf mask p.i) p h (fun h => ih h k) (ih h fun h ps => k h (p :: ps))) ps
def relAllK {β : Type} (ps : List Pd) : Heap → (Heap → β) → β :=
  List.rec (motive := fun _ => Heap → (Heap → β) → β) (fun h k => k h) (fun p _ ih h k => h.setK p.y p.o fun h => ih h k) ps
def capEq (a b : Cap) : Bool := match a with
  | .just n => (match b with | .just m => Nat.beq n m | _ => false)
  | .more n x => (match b with | .more m y => Bool.and (Nat.beq n m) (Nat.beq x y) | _ => false)
def isNil (l : List MV) : Bool := match l with | [] => true | _ => false
def mvEq1 (a b : MV) : Bool := match a with
  | .bool x => (match b with | .bool y => (match x with | true => y | false => (match y with | true => false | false => true)) | _ => false)
  | .int q n => (match b with | .int q' m => Bool.and (kindEq q q') (intEq n m) | _ => false)
  | .str l => (match b with | .str m => strEq l m | _ => false)
  | .nilPtr => (match b with | .nilPtr => true | _ => false)
  | .ptr y o => (match b with | .ptr z p => Bool.and (Nat.beq y z) (Nat.beq o p) | _ => false)
  | .nilSlice => (match b with | .nilSlice => true | _ => false)
  | .slice y o n c => (match b with | .slice z p m d => Bool.and (Nat.beq y z) (Bool.and (Nat.beq o p) (Bool.and (Nat.beq n m) (capEq c d))) | _ => false)
  | .nilMap => (match b with | .nilMap => true | _ => false)
  | .map y => (match b with | .map z => Nat.beq y z | _ => false)
  | .nilFunc => (match b with | .nilFunc => true | _ => false)
  | .nilIface => (match b with | .nilIface => true | _ => false)
  | .num y m c => (match b with | .num z q d => Bool.and (Nat.beq y z) (Bool.and (Nat.beq m q) (Nat.beq c d)) | _ => false)
  | _ => false
def mvsEq (a : List MV) : List MV → Bool :=
  List.rec (motive := fun _ => List MV → Bool) (fun b => isNil b) (fun x _ ih b => match b with | [] => false | y :: r => Bool.and (mvEq1 x y) (ih r)) a
def mvEq (a b : MV) : Bool := match a with
  | .agg l => (match b with | .agg m => mvsEq l m | _ => false)
  | .tuple l => (match b with | .tuple m => mvsEq l m | _ => false)
  | .func f l c => (match b with | .func g m d => Bool.and (Nat.beq f g) (Bool.and (mvsEq l m) (mvsEq c d)) | _ => false)
  | _ => mvEq1 a b
def mvIs (v : MV) (o : Option MV) : Bool := match o with | none => false | some u => mvEq u v
def chk1 (T : Types) (r : Rd) (h : Heap) (b : Bool) : Bool := match b with
  | true => mvIs r.v (pureOp T r.a h r.op)
  | false => true
def chk (T : Types) (rs : List Rd) (h : Heap) (k : Nat) : Bool :=
  List.rec (motive := fun _ => Bool) true (fun r _ ih => Bool.and (chk1 T r h (Bool.and (Nat.ble r.lo k) (Nat.ble k r.hi))) ih) rs
def chkAll (T : Types) (rs : List Rd) (hs : List Heap) : Nat → Bool :=
  List.rec (motive := fun _ => Nat → Bool) (fun _ => true) (fun h _ ih k => Bool.and (chk T rs h k) (ih (Nat.pred k))) hs
def dEnd (T : Types) (t : Dt) : Option X := match chkAll T t.rs (t.h :: t.hs) (llen t.hs) with
  | false => none
  | true => relAllK t.ps t.h fun h => some ⟨.normal, ⟨t.a, h, t.n⟩⟩
def dRead (p : Pl) (o : Oper) (v : MV) (t : Dt) : List Rd := match p.rd with
  | none => t.rs
  | some r => ⟨t.a, o.op, v, r.1, r.2⟩ :: t.rs
def dPure (o : Oper) (p : Pl) (t : Dt) (v : Option MV) (k : Dt → Option X) : Option X := match v with
  | none => none
  | some v => putK t.a o v fun a => k ⟨a, t.h, t.n, t.ps, t.hs, dRead p o v t⟩
def dFresh1 (i : Nat) (o : Oper) (t : Dt) (v : MV) (n : Nat) (ob : Option MObj) (k : Dt → Option X) : Option X := match ob with
  | none => none
  | some ob => putK t.a o v fun a => k ⟨a, t.h, n, ⟨i, t.n, ob⟩ :: t.ps, t.hs, t.rs⟩
def dFresh (i : Nat) (o : Oper) (t : Dt) (r : Option R) (k : Dt → Option X) : Option X := match r with
  | none => none
  | some r => dFresh1 i o t r.v r.n (r.h.get t.n) k
def dStep (T : Types) (s : Fns) (i : Nat) (o : Oper) (p : Pl) (t : Dt) (k : Dt → Option X) : Option X := match cls o.op with
  | .pure => dPure o p t (pureOp T t.a t.h o.op) k
  | .fresh => dFresh i o t (effOp T t.a t.h t.n o.op) k
  | .eff => relK p.mask t.ps t.h fun h ps => kPutN t.n t.a o (effOp T t.a h t.n o.op) fun a h' n => k ⟨a, h', n, ps, t.h :: t.hs, t.rs⟩
  | .call c x => relK p.mask t.ps t.h fun h ps => kPutN t.n t.a o (callR s t.a h t.n c (opd t.a x)) fun a h' n => k ⟨a, h', n, ps, t.h :: t.hs, t.rs⟩
/-- An operation not wanted: an effect counts all the same. -/
def dNot (o : Oper) (t : Dt) (k : Dt → Option X) : Option X := match cls o.op with
  | .pure => putK t.a o .undef fun a => k ⟨a, t.h, t.n, t.ps, t.hs, t.rs⟩
  | .fresh => putK t.a o .undef fun a => k ⟨a, t.h, t.n, t.ps, t.hs, t.rs⟩
  | _ => putK t.a o .undef fun a => k ⟨a, t.h, t.n, t.ps, t.h :: t.hs, t.rs⟩
def dWant (T : Types) (s : Fns) (w : Option Bool) (i : Nat) (o : Oper) (p : Pl) (t : Dt) (k : Dt → Option X) : Option X := match w with
  | none => none
  | some b => match b with
    | true => dStep T s i o p t k
    | false => dNot o t k
def dOps (T : Types) (s : Fns) (all l : List Oper) : List Pl → Nat → Dt → Option X :=
  List.rec (motive := fun _ => List Pl → Nat → Dt → Option X) (fun _ _ t => dEnd T t)
    (fun o _ ih ps i t => match ps with
      | [] => none
      | p :: ps => dWant T s (wants t.a all o) i o p t (ih ps (Nat.succ i))) l
def dRegion (T : Types) (s : Fns) (all : List Oper) (pl : Option (List Pl)) (t : St) : Option X := match pl with
  | none => none
  | some pl => dOps T s all all pl 0 ⟨t.a, t.h, t.n, [], [], []⟩

/-! ### Code, calls -/
def kSeq (q : St → Option X) (r : Option X) : Option X := match r with
  | none => none
  | some p => match p.e with
    | .normal => q p.s
    | .exit i => some ⟨.exit i, p.s⟩
    | .ret => some ⟨.ret, p.s⟩
def kCond (v : Option MV) (x y : Option X) : Option X := match v with
  | some v => (match v with | .bool b => (match b with | true => x | false => y) | _ => none)
  | none => none
def kBlock (id : Nat) (r : Option X) : Option X := match r with
  | none => none
  | some p => match p.e with
    | .normal => some ⟨.normal, p.s⟩
    | .exit i => (match Nat.beq i id with | true => some ⟨.normal, p.s⟩ | false => some ⟨.exit i, p.s⟩)
    | .ret => some ⟨.ret, p.s⟩
def kRegion (T : Types) (s : Fns) (pl : Plans) (id : Nat) (ops : List Oper) (draw : Bool) (t : St) : Option X := match draw with
  | true => dRegion T s ops (pl.get id) t
  | false => sOps T s ops ops t
def sC (T : Types) (s : Fns) (pl : Plans) (c : Code) (t : St) : Option X := match c with
  | .skip => some ⟨.normal, t⟩
  | .region id ops d => kRegion T s pl id ops.toList d t
  | .seq x y => kSeq (s.c pl y) (s.c pl x t)
  | .cond c x y => kCond (opd t.a c) (s.c pl x t) (s.c pl y t)
  | .block id b => kBlock id (s.c pl b t)
  | .loop b => kSeq (s.c pl (.loop b)) (s.c pl b t)
  | .exit id => some ⟨.exit id, t⟩
  | .ret => some ⟨.ret, t⟩
  | _ => none
def resV (T : Types) (a : Fr) (h : Heap) (x : ResultVar) : Option MV := match x with
  | .tmp t => a.get t
  | .cell p t => pLoad T h t (a.get p)
def ress (T : Types) (a : Fr) (h : Heap) (l : List ResultVar) : Option (List MV) :=
  List.rec (motive := fun _ => Option (List MV)) (some []) (fun x _ ih => ocons (resV T a h x) ih) l
def oneOf (l : List MV) : MV := match l with
  | [v] => v
  | l => .tuple l
def kRes1 (h : Heap) (n : Nat) (l : Option (List MV)) : Option R := match l with
  | none => none
  | some l => some ⟨oneOf l, h, n⟩
def kRes (T : Types) (fn : Func) (r : Option X) : Option R := match r with
  | none => none
  | some p => match p.e with
    | .exit _ => none
    | _ => kRes1 p.s.h p.s.n (ress T p.s.a p.s.h fn.results.toList)
/-- The frame's first slots. -/
def argsK {β : Type} (l : List MV) : Nat → Fr → (Fr → β) → β :=
  List.rec (motive := fun _ => Nat → Fr → (Fr → β) → β) (fun _ a k => k a) (fun v _ ih i a k => a.setK i v fun a => ih (Nat.succ i) a k) l
def frame0 : Fr := PT.fill (some .undef) 9
def kFunc (T : Types) (s : Fns) (args : List MV) (h : Heap) (n : Nat) (fx : Option FX) : Option R := match fx with
  | none => none
  | some fx => match fx.fn.body with
    | none => none
    | some b => argsK args 0 frame0 fun a => kRes T fx.fn (s.c fx.plans b ⟨a, h, n⟩)
abbrev Orc := Nat → List MV → Heap → Nat → Option (Option R)
def kOrc (T : Types) (F : PT FX) (s : Fns) (f : Nat) (args : List MV) (h : Heap) (n : Nat) (r : Option (Option R)) : Option R := match r with
  | some r => r
  | none => kFunc T s args h n (F.get f)
def stepF (T : Types) (F : PT FX) (orc : Orc) (s : Fns) : Fns where
  c := sC T s
  f f args h n := kOrc T F s f args h n (orc f args h n)
def Fns.zero : Fns := ⟨fun _ _ _ => none, fun _ _ _ _ => none⟩
def fns (T : Types) (F : PT FX) (orc : Orc) (n : Nat) : Fns := Nat.rec (motive := fun _ => Fns) Fns.zero (fun _ s => stepF T F orc s) n
end
end Go.Proofs.YtkeckbmhaplkpaaGreatDoor.Ev
/- What some functions answer, by other means than running them: the definitions. -/
namespace Go.Proofs.YtkeckbmhaplkpaaGreatDoor.Ev
open Go
noncomputable section

/-! ### lead.Adapt -/
def adK {β : Type} (lead unit s : List Nat) : Bool → (List Nat → β) → β :=
  List.rec (motive := fun _ => Bool → (List Nat → β) → β) (fun _ k => k [])
    (fun b _ ih f k => match Nat.beq b 10 with
      | true => ih true fun r => lappK lead r fun r => k (b :: r)
      | false => match Nat.beq b 9 with
        | false => ih false fun r => k (b :: r)
        | true => match f with
          | false => ih false fun r => k (b :: r)
          | true => match unit with
            | [] => ih true fun r => k (b :: r)
            | c :: u => ih true fun r => lappK (c :: u) r k) s
def oAdapt (args : List MV) (h : Heap) (n : Nat) : Option R := match args with
  | [.str s, .str l, .str u] => (match Bool.and (Nat.ble (llen s) 100000) (Bool.and (Nat.ble (llen l) 1024) (Nat.ble (llen u) 1024)) with
    | true => adK l u s false fun r => some ⟨.str r, h, n⟩
    | false => none)
  | _ => none

/-! ### bytealg.IndexByteString -/
def idxB (c : Nat) (l : List Nat) : Nat → Option Nat := List.rec (motive := fun _ => Nat → Option Nat) (fun _ => none) (fun b _ ih i => match Nat.beq b c with | true => some i | false => ih (Nat.succ i)) l
def idxI (o : Option Nat) : MV := match o with | some i => fnat i fun i => .int .i64 (.ofNat i) | none => .int .i64 (.negSucc 0)
def oIndex (args : List MV) (h : Heap) (n : Nat) : Option R := match args with
  | [.str s, .int .u8 (.ofNat c)] => (match Nat.ble c 255 with
    | true => some ⟨idxI (idxB c s 0), h, n⟩
    | false => none)
  | _ => none

/-! ### slices.Sorted(maps.Keys(m)) -/
def insI (x : Int) (l : List Int) : List Int := List.rec (motive := fun _ => List Int) [x] (fun y r ih => match intLe x y with | true => x :: y :: r | false => y :: ih) l
def srtI (l : List Int) : List Int := List.rec (motive := fun _ => List Int) [] (fun x _ ih => insI x ih) l
def keysI (es : List Entry) : Option (List Int) := List.rec (motive := fun _ => Option (List Int)) (some []) (fun e _ ih => match e.key with
  | .int .i64 k => (match ih with | some r => some (k :: r) | none => none)
  | _ => none) es
def cellsI {β : Type} (l : List Int) : (List MV → β) → β := List.rec (motive := fun _ => (List MV → β) → β) (fun k => k []) (fun x _ ih k => fint x fun x => ih fun r => k (.int .i64 x :: r)) l
def smallI (l : List Int) : Bool := List.rec (motive := fun _ => Bool) true (fun x _ ih => Bool.and (small x) ih) l
/-- Each more than the one ahead of it. -/
def upI (l : List Int) : Bool := List.rec (motive := fun _ => Bool) true (fun x r ih => match r with | [] => true | y :: _ => Bool.and (Bool.not (intLe y x)) ih) l
def sortedOf (h : Heap) (n : Nat) (ks : Option (List Int)) : Option R := match ks with
  | none => none
  | some ks => match Bool.and (smallI ks) (upI (srtI ks)) with
    | false => none
    | true => match srtI ks with
      | [] => some ⟨.nilSlice, h, n⟩
      | x :: l => cellsI (x :: l) fun cs => newRoom h n 1 cs (.slice n 0 (llen cs) (.more (llen cs) n))
def bornB (c : Nat) (es : List Entry) : Nat → Bool := List.rec (motive := fun _ => Nat → Bool) (fun _ => true) (fun e _ ih lo => Bool.and (Nat.ble lo e.born) (Bool.and (Nat.ble (Nat.succ e.born) c) (ih (Nat.succ e.born)))) es
def entriesOf (o : Option MObj) : Option (List Entry) := match o with | some (.map es c) => (match Bool.and (Nat.ble (llen es) 1000000) (bornB c es 0) with | true => some es | false => none) | _ => none
def keysAt (h : Heap) (v : Option MV) : Option (List Int) := match v with
  | some (.map y) => (match entriesOf (h.get y) with | some es => keysI es | none => none)
  | _ => none
def cellAt (h : Heap) (z o : Nat) : Option MV := match cellsAt h z with | some l => lget l o | none => none
/-- What stands in a box. -/
def boxAt (o : Option MObj) : Option MV := match o with | some (.cells [v] none) => some v | _ => none
def oSorted (args : List MV) (h : Heap) (n : Nat) : Option R := match args with
  | [.func f [] [.ptr z 0]] => (match Bool.or (Nat.beq f 189) (Nat.beq f 274) with
    | true => sortedOf h n (keysAt h (boxAt (h.get z)))
    | false => none)
  | _ => none
/-! ### Heaps held against what they should be; what burns -/
def lEq (q : MV → MV → Bool) (a : List MV) : List MV → Bool := List.rec (motive := fun _ => List MV → Bool) (fun b => isNil b) (fun x _ ih b => match b with | [] => false | y :: r => Bool.and (q x y) (ih r)) a
def vEq1 (q : MV → MV → Bool) (a b : MV) : Bool := match a with
  | .agg l => (match b with | .agg m => lEq q l m | _ => false)
  | .tuple l => (match b with | .tuple m => lEq q l m | _ => false)
  | .func f l c => (match b with | .func g m d => Bool.and (Nat.beq f g) (Bool.and (lEq q l m) (lEq q c d)) | _ => false)
  | a => mvEq1 a b
def vEq (k : Nat) : MV → MV → Bool := Nat.rec (motive := fun _ => MV → MV → Bool) mvEq1 (fun _ q => vEq1 q) k
def roomEq (a b : Option (Nat × Nat)) : Bool := match a with
  | none => (match b with | none => true | some _ => false)
  | some x => (match b with | none => false | some y => Bool.and (Nat.beq x.1 y.1) (Nat.beq x.2 y.2))
def enEq (a : List Entry) : List Entry → Bool := List.rec (motive := fun _ => List Entry → Bool) (fun b => match b with | [] => true | _ => false)
  (fun x _ ih b => match b with | [] => false | y :: r => Bool.and (mvEq1 x.key y.key) (Bool.and (vEq 4 x.val y.val) (Bool.and (Nat.beq x.born y.born) (ih r)))) a
def obEq (a b : MObj) : Bool := match a with
  | .cells l r => (match b with | .cells m s => Bool.and (lEq (vEq 4) l m) (roomEq r s) | _ => false)
  | .map es c => (match b with | .map fs d => Bool.and (enEq es fs) (Nat.beq c d) | _ => false)
  | .dead => (match b with | .dead => true | _ => false)
def oEq (a b : Option MObj) : Bool := match a with
  | none => true
  | some x => (match b with | none => false | some y => obEq x y)
/-- A heap's part. -/
def partT (f : Heap) : Heap → Bool := PT.rec (motive := fun _ => Heap → Bool) (fun _ => true)
  (fun _ v _ il ir h => match h with | .lf => false | .nd l' v' r' => Bool.and (oEq v v') (Bool.and (il l') (ir r'))) f
/-- Room for new names. -/
def fillT (t : Heap) : Nat → Heap := PT.rec (motive := fun _ => Nat → Heap) (fun d => PT.fill none d) (fun _ v _ il ir d => .nd (il (Nat.pred d)) v (ir (Nat.pred d))) t
def okR (o : Option R) (v : MV) (f : Heap) (n : Nat) : Bool := match o with
  | none => false
  | some r => Bool.and (vEq 4 v r.v) (Bool.and (Nat.beq n r.n) (partT f r.h))
/-- A function that burns: its place in a run's heap. -/
structure Ag where
  f : Nat
  N0 : Nat
  yr : Nat
  rest : Nat → Heap
  pre : List MV
  post : List MV
  args : Nat → List MV
  hi : Nat
def Ag.N (G : Ag) (k : Nat) : Nat := Nat.add G.N0 (Nat.mul 1000 k)
def Ag.T (G : Ag) (k : Nat) : Nat := Nat.mul 4 (Nat.pred (Nat.pow 2 (Nat.succ (Nat.sub G.hi k))))
def Ag.m (G : Ag) (k : Nat) : Nat := Nat.sub 65536 (Nat.mul 2 (G.T k))
def Ag.run (G : Ag) (u : MV) : List MV := lapp G.pre (u :: G.post)
def Ag.heap (G : Ag) (k : Nat) (u : MV) : Heap := (G.rest k).set G.yr (.cells (G.run u) none)
def okE (o : Option R) (v : MV) (f : Heap) : Bool := match o with
  | none => false
  | some r => Bool.and (vEq 4 v r.v) (partT f r.h)
/-- A level's check: run with a number not known. -/
def lvlB (s : Fns) (G : Ag) (k d : Nat) : Bool := okE (s.f G.f (G.args k) (fillT (G.heap k (.num (G.N k) (G.m k) (G.T k))) d) (Nat.succ (G.N k))) (.bool false) (G.heap k (.num (G.N k) (G.m k) 0))
def lessN (u : MV) (t m : Nat) : Option MV := match u with
  | .int .i64 (.ofNat F) => (match Bool.and (Nat.ble t F) (Nat.ble (Nat.succ F) (Nat.add m t)) with | true => fnat (Nat.sub F t) fun F => some (.int .i64 (.ofNat F)) | false => none)
  | .num y q c => (match Bool.and (Nat.ble t c) (Bool.and (Nat.ble 1 q) (Nat.ble (Nat.add q c) (Nat.add m t))) with | true => fnat (Nat.sub c t) fun c => some (.num y q c) | false => none)
  | _ => none
def agN (args : List MV) : Option Nat := match args with
  | [_, _, .int .i64 (.ofNat k), _, _] => some k
  | _ => none
def oAg3 (G : Ag) (h : Heap) (n k : Nat) (u u' : Option MV) : Option (Option R) := match u with
  | none => none
  | some u => match u' with
    | none => none
    | some u' => match partT (G.heap k u) h with
      | false => none
      | true => h.setK G.yr (.cells (G.run u') none) fun h => some (some ⟨.bool false, h, n⟩)
def oAg2 (G : Ag) (h : Heap) (n k : Nat) (u : Option MV) : Option (Option R) := oAg3 G h n k u (match u with | some u => lessN u (G.T k) (G.m k) | none => none)
def oAgain (G : Ag) (lo : Nat) (args : List MV) (h : Heap) (n : Nat) : Option (Option R) := match agN args with
  | none => none
  | some k => match Bool.and (Nat.ble lo k) (Bool.and (Nat.ble k G.hi) (Bool.and (Nat.ble n (G.N k)) (lEq (vEq 4) (G.args k) args))) with
    | false => none
    | true => oAg2 G h n k (cellAt h G.yr (llen G.pre))
/-! ### All of them -/
def orcS : Orc := fun f args h n => match Nat.beq f 127 with
  | true => some (oSorted args h n)
  | false => match Nat.beq f 309 with
    | true => some (oIndex args h n)
    | false => match Nat.beq f 15 with
      | true => some (oAdapt args h n)
      | false => none
def orcA (G : Ag) (lo : Nat) : Orc := fun f args h n => match Nat.beq f G.f with
  | true => oAgain G lo args h n
  | false => orcS f args h n
end
end Go.Proofs.YtkeckbmhaplkpaaGreatDoor.Ev
/- Control is sound: one operation, regions in one order. -/
namespace Go.Proofs.YtkeckbmhaplkpaaGreatDoor.Ev
open Go
variable {P : Program} {T : Types}

/-- Names, heap and world agree. -/
structure Inv (D : Nat → Prop) (n : Nat) (θ : Env) (h : Heap) (w : World) : Prop where
  lt : ∀ y, D y → y < n
  rel : Rel θ h w
  ok : okH D h
/-- The frame agrees, and has m slots at least. -/
structure FrOk (D : Nat → Prop) (θ : Env) (a : Fr) (A : Act) (m : Nat) : Prop where
  ok : okF D a
  rel : RelF θ a A
  size : m ≤ A.tmps.size
theorem Leads.inv {D : Nat → Prop} {n n' : Nat} {θ θ' : Env} {h h' : Heap} {w w' : World} (hi : Inv D n θ h w) (l : Leads D n θ h w n' θ' h' w') : Inv (Up D n n') n' θ' h' w' where
  lt := by
    rintro y (hy | hy)
    · exact Nat.lt_of_lt_of_le (hi.lt y hy) l.le
    · exact hy.2
  rel := l.rel
  ok := l.ok
theorem Leads.env {D : Nat → Prop} {n n' : Nat} {θ θ' : Env} {h h' : Heap} {w w' : World} (hi : Inv D n θ h w) (l : Leads D n θ h w n' θ' h' w') : Env.same D θ θ' := fun y hy => l.same y (hi.lt y hy)
theorem FrOk.env {D D' : Nat → Prop} {θ θ' : Env} {a : Fr} {A : Act} {m : Nat} (hD : ∀ y, D y → D' y) (hs : Env.same D θ θ') (f : FrOk D θ a A m) : FrOk D' θ' a A m where
  ok := fun t v e => MV.ok_mono hD (f.ok t v e)
  rel := ⟨fun t v e => by rw [MV.real_same hs (f.ok t v e)]; exact f.rel.1 t v e, f.rel.2⟩
  size := f.size
theorem putK_eq {β : Type} (a : Fr) (o : Oper) (v : MV) (k : Fr → β) : putK a o v k = k (match o.dst with | some d => a.set d v | none => a) := by
  unfold putK
  cases o.dst with
  | none => rfl
  | some d => simp only [force_eq, PT.setK_eq]
def putFr (a : Fr) (dst : Option Nat) (v : MV) : Fr := match dst with
  | some d => a.set d v
  | none => a
theorem putK_put {β : Type} (a : Fr) (o : Oper) (v : MV) (k : Fr → β) : putK a o v k = k (putFr a o.dst v) := by
  rw [putK_eq]; cases o.dst <;> rfl
theorem FrOk.put {D : Nat → Prop} {θ : Env} {a : Fr} {A : Act} {m : Nat} (f : FrOk D θ a A m) {dst : Option Nat} (hd : ∀ d, dst = some d → d < m) {v : MV} (hv : v.ok D) : FrOk D θ (putFr a dst v) (A.put dst (v.real θ)) m := by
  cases dst with
  | none => exact f
  | some d =>
    have hdm := hd d rfl
    have hsz := f.size
    refine ⟨fun t u e => ?_, ⟨fun t u e => ?_, f.rel.2⟩, by simpa [Act.put] using hsz⟩
    · rcases PT.get_set e with ⟨_, rfl⟩ | ⟨_, e'⟩
      · exact hv
      · exact f.ok t u e'
    · rcases PT.get_set e with ⟨rfl, rfl⟩ | ⟨hne, e'⟩
      · simp only [Act.put]
        rw [Array.getD_eq_getD_getElem?, Array.getElem?_setIfInBounds_self_of_lt (by omega)]
        rfl
      · have := f.rel.1 t u e'
        simp only [Act.put]
        rw [Array.getD_eq_getD_getElem?, Array.getElem?_setIfInBounds_ne (Ne.symm hne), ← Array.getD_eq_getD_getElem?]
        exact this
def Ex.real : Ex → Exit
  | .normal => .normal
  | .exit i => .exit i
  | .ret => .ret
/-- Where a text is left as the evaluator says. -/
def Post (D : Nat → Prop) (n : Nat) (θ : Env) (h : Heap) (w : World) (m : Nat) (x : X) : Exit → Act → World → Prop := fun e A w' =>
  e = x.e.real ∧ ∃ θ', Leads D n θ h w x.s.n θ' x.s.h w' ∧ FrOk (Up D n x.s.n) θ' x.s.a A m
/-- What a call yields as the evaluator says. -/
def Ret (D : Nat → Prop) (n : Nat) (θ : Env) (h : Heap) (w : World) (r : R) : Ending → World → Prop := fun e w' =>
  ∃ θ', e = .returned (r.v.real θ') ∧ Leads D n θ h w r.n θ' r.h w' ∧ r.v.ok (Up D n r.n)
/-- The evaluator's function part is sound. -/
def SoundF (P : Program) (s : Fns) : Prop := ∀ f args h n r, s.f f args h n = some r → ∀ D θ w, Inv D n θ h w → oks D args →
  ((callFunc f (reals θ args).toArray).run P w = .ok (.enter f (reals θ args).toArray) w ∧ Calls P f (reals θ args).toArray w (Ret D n θ h w r)) ∨
  Yields P D n θ h w (callFunc f (reals θ args).toArray) r
theorem Post.lead {D : Nat → Prop} {n n1 : Nat} {θ θ1 : Env} {h h1 : Heap} {w w1 : World} {m : Nat} {x : X} (l : Leads D n θ h w n1 θ1 h1 w1) {e : Exit} {A : Act} {w' : World} (p : Post (Up D n n1) n1 θ1 h1 w1 m x e A w') : Post D n θ h w m x e A w' := by
  obtain ⟨he, θ', l', f⟩ := p
  refine ⟨he, θ', l.trans l', ?_⟩
  have : (Up (Up D n n1) n1 x.s.n) = Up D n x.s.n := funext fun y => propext (up_up l.le l'.le y)
  rw [this] at f
  exact f
/-- An operation that yields what the evaluator says. -/
theorem Yields.wp {D : Nat → Prop} {n : Nat} {θ : Env} {h : Heap} {w : World} {o : Oper} {A : Act} {r : R} {K : Act → World → Prop} {Q : Exit → Act → World → Prop} (y : Yields P D n θ h w (execOp A.eval o) r)
    (hk : ∀ θ' w', Leads D n θ h w r.n θ' r.h w' → r.v.ok (Up D n r.n) → K (A.put o.dst (r.v.real θ')) w') : o.wp P A w K Q := by
  obtain ⟨θ', w', x, h1, h2, h3, h4⟩ := y
  unfold Oper.wp
  rw [h1]
  rcases h2 with rfl | ⟨rfl, hv⟩
  · rw [Oper.upon_value]; exact hk θ' w' h3 h4
  · rw [Oper.upon_skip]
    have := hk θ' w' h3 h4
    rw [hv, real_undef] at this
    exact this
theorem call_wp {s : Fns} (hs : SoundF P s) {D : Nat → Prop} {n : Nat} {θ : Env} {h : Heap} {w : World} {a : Fr} {A : Act} {m : Nat} (hi : Inv D n θ h w) (hf : FrOk D θ a A m) {o : Oper} {c : Call} {x : Operand} (ho : o.op = .call c) (hc : c.callee = .value x) {r : R}
    (e : callR s a h n c (opd a x) = some r) {K : Act → World → Prop} {Q : Exit → Act → World → Prop}
    (hk : ∀ θ' w', Leads D n θ h w r.n θ' r.h w' → r.v.ok (Up D n r.n) → K (A.put o.dst (r.v.real θ')) w') : o.wp P A w K Q := by
  unfold callR at e
  split at e
  · rename_i v hv
    obtain ⟨p, q⟩ := opd_ok hf.ok hf.rel hv
    split at e
    · rename_i f first cap
      unfold callArgs at e
      split at e
      · cases e
      rename_i l hl
      rw [lappK_eq, lappK_eq] at e
      obtain ⟨p', q'⟩ := opds_ok hf.ok hf.rel hl
      simp only [MV.ok] at p
      have hok : oks D (first ++ (l ++ cap)) := (oks_iff D _).2 fun v hv => by
        rcases List.mem_append.1 hv with h1 | h1
        · exact (oks_iff D _).1 p.1 v h1
        · rcases List.mem_append.1 h1 with h2 | h2
          · exact (oks_iff D _).1 p' v h2
          · exact (oks_iff D _).1 p.2 v h2
      have hargs : c.args.map A.eval = (reals θ l).toArray := by apply Array.ext'; simpa using q'
      have hx : A.eval x = .func (.func f) (reals θ first).toArray (reals θ cap).toArray := by rw [q]; simp [MV.real]
      have hrun : (execOp A.eval o).run P w = (callFunc f (reals θ (first ++ (l ++ cap))).toArray).run P w := by
        obtain ⟨dst, op, ty, pos, after, guard⟩ := o
        simp only at ho
        subst ho
        simp only [execOp, resolve, hc, hargs, hx, Deferred.ofValue]
        have : ((reals θ first).toArray ++ (reals θ l).toArray ++ (reals θ cap).toArray) = (reals θ (first ++ (l ++ cap))).toArray := by
          apply Array.ext'; simp [reals_map]
        rw [← this]
        rfl
      rcases hs f _ h n r e D θ w hi hok with ⟨h1, h2⟩ | h2
      · unfold Oper.wp
        rw [hrun, h1, Oper.upon_enter]
        refine Calls.mono h2 ?_
        rintro e w' ⟨θ', rfl, l1, l2⟩
        exact hk θ' w' l1 l2
      · exact Yields.wp (Yields.congr hrun h2) hk
    · cases e
  · cases e
end Go.Proofs.YtkeckbmhaplkpaaGreatDoor.Ev
/- Control is sound: regions in their one order. -/
namespace Go.Proofs.YtkeckbmhaplkpaaGreatDoor.Ev
open Go
variable {P : Program} {T : Types}

theorem real_bool {θ : Env} {v : MV} {c : Bool} (h : v.real θ = .bool c) : v = .bool c := by
  cases v <;> simp [MV.real] at h
  rw [h]
theorem wants_ok {D : Nat → Prop} {θ : Env} {a : Fr} {A : Act} {m : Nat} (f : FrOk D θ a A m) {ops : Array Oper} {o : Oper} {b : Bool} (h : wants a ops.toList o = some b) : Region.wanted o (yielded ops A.tmps) = b := by
  unfold wants at h
  split at h
  · rename_i hg
    obtain rfl := Option.some.inj h
    simp [Region.wanted, hg]
  · rename_i g hg
    obtain ⟨j, wb⟩ := g
    split at h
    · cases h
    rename_i oj hj
    rw [lget_eq, Array.getElem?_toList] at hj
    split at h
    · cases h
    rename_i d hd
    unfold wantV at h
    split at h
    · cases h
    rename_i v hv
    have hr := f.rel.1 d v hv
    simp only [Region.wanted, hg]
    have hy : yielded ops A.tmps j = match A.tmps[d]? with | some (.bool b) => some b | _ => none := by
      unfold yielded
      simp only [hj, Option.bind_some, hd]
      rfl
    rw [hy]
    split at h
    · rename_i c
      have : A.tmps[d]? = some (.bool c) := by
        rw [Array.getD_eq_getD_getElem?] at hr
        cases hq : A.tmps[d]? with
        | none => rw [hq] at hr; simp [undef, MV.real] at hr
        | some u => rw [hq] at hr; simp [MV.real] at hr; rw [hr]
      rw [this]
      cases wb <;> simp only at h
      · split at h <;> obtain rfl := Option.some.inj h <;> rfl
      · obtain rfl := Option.some.inj h; cases c <;> rfl
    · rename_i hnb
      obtain rfl := Option.some.inj h
      have : ∀ c, A.tmps[d]? ≠ some (.bool c) := by
        intro c hc
        rw [Array.getD_eq_getD_getElem?, hc] at hr
        exact hnb c (real_bool hr.symm)
      split
      · rename_i c hc; exact absurd hc (this c)
      · rfl
def DstOk (m : Nat) (o : Oper) : Prop := ∀ d, o.dst = some d → d < m
theorem cls_call {op : Op} {c : Call} {x : Operand} (h : cls op = .call c x) : op = .call c ∧ c.callee = .value x := by
  unfold cls at h
  split at h <;> try cases h
  unfold clsCall at h
  split at h
  · rename_i hc
    cases h
    exact ⟨rfl, hc⟩
  · split at h <;> cases h
  · cases h
theorem kPutR_some {a : Fr} {o : Oper} {r : Option R} {k : Fr → Heap → Nat → Option X} {x : X} (h : kPutR a o r k = some x) : ∃ q, r = some q ∧ k (putFr a o.dst q.v) q.h q.n = some x := by
  unfold kPutR at h
  split at h
  · cases h
  · rw [putK_put] at h
    exact ⟨_, rfl, h⟩
theorem kPut_some {a : Fr} {o : Oper} {v : Option MV} {k : Fr → Option X} {x : X} (h : kPut a o v k = some x) : ∃ u, v = some u ∧ k (putFr a o.dst u) = some x := by
  unfold kPut at h
  split at h
  · cases h
  · rw [putK_put] at h
    exact ⟨_, rfl, h⟩
section
variable {s : Fns}
theorem sStep_sound (hT : TyOk P T) (hs : SoundF P s) {o : Oper} {t : St} {k : St → Option X} {x : X} (e : sStep T s o t k = some x) {m : Nat} (hd : DstOk m o) {D : Nat → Prop} {θ : Env} {w : World} {A : Act} (hi : Inv D t.n θ t.h w) (hf : FrOk D θ t.a A m)
    {K : Act → World → Prop} {Q : Exit → Act → World → Prop}
    (hk : ∀ t' θ' w' A', k t' = some x → Leads D t.n θ t.h w t'.n θ' t'.h w' → FrOk (Up D t.n t'.n) θ' t'.a A' m → K A' w') : o.wp P A w K Q := by
  have eff : ∀ r, effOp T t.a t.h t.n o.op = some r → k ⟨putFr t.a o.dst r.v, r.h, r.n⟩ = some x → o.wp P A w K Q := by
    intro r h1 h2
    refine Yields.wp (eff_sound hT hi.lt hf.ok hf.rel hi.rel hi.ok h1) fun θ' w' l hv => ?_
    exact hk ⟨_, r.h, r.n⟩ θ' w' _ h2 l ((hf.env up_mono (l.env hi)).put hd hv)
  unfold sStep at e
  split at e
  · obtain ⟨v, h1, h2⟩ := kPut_some e
    obtain ⟨p, q⟩ := pure_sound hT hf.ok hf.rel hi.rel hi.ok h1
    unfold Oper.wp
    rw [q, Oper.upon_value]
    have hup : (Up D t.n t.n) = D := funext fun y => propext (up_self y)
    refine hk ⟨_, t.h, t.n⟩ θ w _ h2 (Leads.refl hi.rel hi.ok) ?_
    rw [show Up D t.n (St.mk (putFr t.a o.dst v) t.h t.n).n = D from hup]
    exact hf.put hd p
  · rename_i c y hc
    obtain ⟨ho, hcv⟩ := cls_call hc
    obtain ⟨r, h1, h2⟩ := kPutR_some e
    refine call_wp hs hi hf ho hcv h1 fun θ' w' l hv => ?_
    exact hk ⟨_, r.h, r.n⟩ θ' w' _ h2 l ((hf.env up_mono (l.env hi)).put hd hv)
  · obtain ⟨r, h1, h2⟩ := kPutR_some e
    exact eff r h1 h2
  · obtain ⟨r, h1, h2⟩ := kPutR_some e
    exact eff r h1 h2
theorem sOps_sound (hT : TyOk P T) (hs : SoundF P s) {ops : Array Oper} {m : Nat} {x : X} (l : List Oper) : ∀ {t : St}, sOps T s ops.toList l t = some x → (∀ o ∈ l, DstOk m o) → ∀ {D : Nat → Prop} {θ : Env} {w : World} {A : Act} {Q : Exit → Act → World → Prop},
    Inv D t.n θ t.h w → FrOk D θ t.a A m → (∀ e A' w', Post D t.n θ t.h w m x e A' w' → Q e A' w') → wpList P ops Q l A w := by
  induction l with
  | nil =>
    intro t e _ D θ w A Q hi hf hQ
    obtain rfl := Option.some.inj e
    refine hQ _ _ _ ⟨rfl, θ, Leads.refl hi.rel hi.ok, ?_⟩
    have hup : (Up D t.n t.n) = D := funext fun y => propext (up_self y)
    show FrOk (Up D t.n t.n) θ t.a A m
    rw [hup]; exact hf
  | cons o r ih =>
    intro t e hd D θ w A Q hi hf hQ
    change sWant T s (wants t.a ops.toList o) o t (sOps T s ops.toList r) = some x at e
    have next : ∀ t' θ' w' A', sOps T s ops.toList r t' = some x → Leads D t.n θ t.h w t'.n θ' t'.h w' → FrOk (Up D t.n t'.n) θ' t'.a A' m → wpList P ops Q r A' w' := by
      intro t' θ' w' A' h1 h2 h3
      exact ih h1 (fun o ho => hd o (by simp [ho])) (h2.inv hi) h3 fun e A' w' p => hQ e A' w' (p.lead h2)
    unfold sWant at e
    split at e
    · cases e
    rename_i b hb
    have hw := wants_ok hf hb
    unfold wpList
    split at e
    · rw [if_pos hw]
      exact .inl (sStep_sound hT hs e (hd o (by simp)) hi hf next)
    · rw [if_neg (by rw [hw]; decide)]
      rw [putK_put] at e
      have hup : (Up D t.n t.n) = D := funext fun y => propext (up_self y)
      refine next ⟨_, t.h, t.n⟩ θ w _ e (Leads.refl hi.rel hi.ok) ?_
      show FrOk (Up D t.n t.n) θ _ _ m
      rw [hup, ← real_undef θ]
      exact hf.put (hd o (by simp)) (by simp [MV.ok, oks])
end
end Go.Proofs.YtkeckbmhaplkpaaGreatDoor.Ev
/- Control is sound: code and calls. -/
namespace Go.Proofs.YtkeckbmhaplkpaaGreatDoor.Ev
open Go
variable {P : Program} {T : Types}

/-- A region run in any order is sound. -/
def Drawn (P : Program) (T : Types) (ops : Array Oper) (pl : List Pl) : Prop := ∀ s, SoundF P s → ∀ m id t x, dRegion T s ops.toList (some pl) t = some x → (∀ o ∈ ops.toList, DstOk m o) →
  ∀ D θ w A Q, Inv D t.n θ t.h w → FrOk D θ t.a A m → (∀ e A' w', Post D t.n θ t.h w m x e A' w' → Q e A' w') → (Code.region id ops true).wp P Q A w
/-- A text that the evaluator may run. -/
def Fit (P : Program) (T : Types) (m : Nat) (pl : Plans) : Code → Prop
  | .region id ops d => (∀ o ∈ ops.toList, DstOk m o) ∧ (d = true → ∀ l, pl.get id = some l → Drawn P T ops l)
  | .seq a b => Fit P T m pl a ∧ Fit P T m pl b
  | .cond _ a b => Fit P T m pl a ∧ Fit P T m pl b
  | .block _ b => Fit P T m pl b
  | .loop b => Fit P T m pl b
  | _ => True
def SoundC (P : Program) (T : Types) (s : Fns) : Prop := ∀ pl c t x, s.c pl c t = some x → ∀ m, Fit P T m pl c → ∀ D θ w A Q, Inv D t.n θ t.h w → FrOk D θ t.a A m →
  (∀ e A' w', Post D t.n θ t.h w m x e A' w' → Q e A' w') → c.wp P Q A w
/-- What a function yields. -/
def FnOk (P : Program) (f : Nat) (args : List MV) (h : Heap) (n : Nat) (r : R) : Prop := ∀ D θ w, Inv D n θ h w → oks D args →
  ((callFunc f (reals θ args).toArray).run P w = .ok (.enter f (reals θ args).toArray) w ∧ Calls P f (reals θ args).toArray w (Ret D n θ h w r)) ∨
  Yields P D n θ h w (callFunc f (reals θ args).toArray) r
theorem kSeq_some {q : St → Option X} {r : Option X} {x : X} (h : kSeq q r = some x) : ∃ p, r = some p ∧ (p.e = .normal ∧ q p.s = some x ∨ p.e ≠ .normal ∧ x = p) := by
  unfold kSeq at h
  split at h
  · cases h
  rename_i p
  obtain ⟨e, st⟩ := p
  refine ⟨_, rfl, ?_⟩
  cases e
  · exact .inl ⟨rfl, h⟩
  · obtain rfl := Option.some.inj h; exact .inr ⟨by simp, rfl⟩
  · obtain rfl := Option.some.inj h; exact .inr ⟨by simp, rfl⟩
/-- What follows a text, by the way it is left. -/
theorem then_of {Q : Exit → Act → World → Prop} {K : Act → World → Prop} {D : Nat → Prop} {n : Nat} {θ : Env} {h : Heap} {w : World} {m : Nat} {p x : X} (hx : p.e = .normal ∨ p.e ≠ .normal ∧ x = p)
    (hQ : ∀ e A' w', Post D n θ h w m x e A' w' → Q e A' w') (hK : p.e = .normal → ∀ A' w' θ', Leads D n θ h w p.s.n θ' p.s.h w' → FrOk (Up D n p.s.n) θ' p.s.a A' m → K A' w') (e : Exit) (A' : Act) (w' : World) (hp : Post D n θ h w m p e A' w') : Exit.then K Q e A' w' := by
  obtain ⟨he, θ', l, f⟩ := hp
  cases hpe : p.e with
  | normal =>
    rw [hpe] at he; subst he
    exact hK hpe A' w' θ' l f
  | exit i =>
    rcases hx with h1 | ⟨_, rfl⟩
    · rw [h1] at hpe; cases hpe
    · rw [hpe] at he
      have : e ≠ .normal := by rw [he]; simp [Ex.real]
      have q := hQ e A' w' ⟨by rw [hpe]; exact he, θ', l, f⟩
      subst he; exact q
  | ret =>
    rcases hx with h1 | ⟨_, rfl⟩
    · rw [h1] at hpe; cases hpe
    · rw [hpe] at he
      have q := hQ e A' w' ⟨by rw [hpe]; exact he, θ', l, f⟩
      subst he; exact q
section
/-- All texts but loops, one step down. -/
theorem code_step (hT : TyOk P T) {s : Fns} (hc : SoundC P T s) (hf : SoundF P s) (pl : Plans) (c : Code) (hl : ∀ b, c ≠ .loop b) : ∀ t x, sC T s pl c t = some x → ∀ m, Fit P T m pl c → ∀ D θ w A Q, Inv D t.n θ t.h w → FrOk D θ t.a A m →
    (∀ e A' w', Post D t.n θ t.h w m x e A' w' → Q e A' w') → c.wp P Q A w := by
  intro t x e m hfit D θ w A Q hi hfr hQ
  have hup : (Up D t.n t.n) = D := funext fun y => propext (up_self y)
  have here : ∀ ex : Ex, x = ⟨ex, t⟩ → Q ex.real A w := by
    rintro ex rfl
    refine hQ _ _ _ ⟨rfl, θ, Leads.refl hi.rel hi.ok, ?_⟩
    show FrOk (Up D t.n t.n) θ t.a A m
    rw [hup]; exact hfr
  cases c <;> simp only [sC] at e <;> first | (cases e; done) | skip
  case skip => exact wp_skip (here .normal (Option.some.inj e).symm)
  case region id ops d =>
    obtain ⟨h1, h2⟩ := hfit
    unfold kRegion at e
    cases d
    · simp only at e
      exact wp_region_list (sOps_sound hT hf _ e h1 hi hfr hQ)
    · simp only at e
      cases hp : pl.get id with
      | none => rw [hp] at e; cases e
      | some l =>
        rw [hp] at e
        exact h2 rfl l hp s hf m id t x e h1 D θ w A Q hi hfr hQ
  case seq a b =>
    obtain ⟨p, h1, h2⟩ := kSeq_some e
    refine wp_seq ?_
    refine hc pl a t p h1 m hfit.1 D θ w A _ hi hfr ?_
    refine then_of (h2.imp And.left id) hQ fun hn A' w' θ' l f => ?_
    rcases h2 with ⟨_, h3⟩ | ⟨h3, _⟩
    · exact hc pl b p.s x h3 m hfit.2 _ θ' w' A' Q (l.inv hi) f fun e A' w' q => hQ e A' w' (q.lead l)
    · exact absurd hn h3
  case cond y a b =>
    unfold kCond at e
    split at e
    · rename_i v hv
      obtain ⟨_, q⟩ := opd_ok hfr.ok hfr.rel hv
      split at e
      · rename_i c
        simp only [MV.real] at q
        split at e
        · exact wp_cond_true q (hc pl a t x e m hfit.1 D θ w A Q hi hfr hQ)
        · exact wp_cond_false q (hc pl b t x e m hfit.2 D θ w A Q hi hfr hQ)
      · cases e
    · cases e
  case block id b =>
    unfold kBlock at e
    split at e
    · cases e
    rename_i p hp
    refine wp_block ?_
    refine hc pl b t p hp m hfit D θ w A _ hi hfr ?_
    rintro ex A' w' ⟨he, θ', l, f⟩
    obtain ⟨pe, ps⟩ := p
    cases pe with
    | normal =>
      obtain rfl := Option.some.inj e
      subst he
      exact hQ _ _ _ ⟨rfl, θ', l, f⟩
    | exit i =>
      simp only at e
      subst he
      show (if i = id then Q .normal A' w' else Q (.exit i) A' w')
      split at e
      · rename_i hb
        rw [natBeq, decide_eq_true_eq] at hb
        obtain rfl := Option.some.inj e
        rw [if_pos hb]
        exact hQ _ _ _ ⟨rfl, θ', l, f⟩
      · rename_i hb
        rw [natBeq, decide_eq_false_iff_not] at hb
        obtain rfl := Option.some.inj e
        rw [if_neg hb]
        exact hQ _ _ _ ⟨rfl, θ', l, f⟩
    | ret =>
      obtain rfl := Option.some.inj e
      subst he
      exact hQ _ _ _ ⟨rfl, θ', l, f⟩
  case loop b => exact absurd rfl (hl b)
  case exit id => exact wp_exit (here (.exit id) (Option.some.inj e).symm)
  case ret => exact wp_ret (here .ret (Option.some.inj e).symm)
end
end Go.Proofs.YtkeckbmhaplkpaaGreatDoor.Ev
/- Control is sound: calls, loops, the whole. -/
namespace Go.Proofs.YtkeckbmhaplkpaaGreatDoor.Ev
open Go
variable {P : Program} {T : Types}

theorem argsK_some {β : Type} (l : List MV) : ∀ (i : Nat) (a : Fr) (k : Fr → Option β) (y : β), argsK l i a k = some y →
    ∃ b : Fr, k b = some y ∧ ∀ t u, b.get t = some u → (i ≤ t ∧ l[t - i]? = some u) ∨ (¬ (i ≤ t ∧ t < i + l.length) ∧ a.get t = some u) := by
  induction l with
  | nil => exact fun i a k y h => ⟨a, h, fun t u e => .inr ⟨by simp only [List.length_nil]; omega, e⟩⟩
  | cons v r ih =>
    intro i a k y h
    change a.setK i v (fun a => argsK r (Nat.succ i) a k) = some y at h
    rw [PT.setK_eq] at h
    obtain ⟨b, h1, h2⟩ := ih _ _ _ _ h
    refine ⟨b, h1, fun t u e => ?_⟩
    rcases h2 t u e with ⟨h3, h4⟩ | ⟨h3, h4⟩
    · refine .inl ⟨by omega, ?_⟩
      rw [show t - i = (t - (i + 1)) + 1 by omega, List.getElem?_cons_succ]
      exact h4
    · rcases PT.get_set h4 with ⟨rfl, rfl⟩ | ⟨hne, h5⟩
      · exact .inl ⟨Nat.le_refl _, by simp⟩
      · refine .inr ⟨?_, h5⟩
        rintro ⟨h6, h7⟩
        simp only [List.length_cons] at h7
        exact h3 ⟨by omega, by omega⟩
theorem res_ok (hT : TyOk P T) {D : Nat → Prop} {n : Nat} {θ : Env} {h : Heap} {w : World} {a : Fr} {A : Act} {m : Nat} (hi : Inv D n θ h w) (hf : FrOk D θ a A m) : ∀ (l : List ResultVar) (vs : List MV), ress T a h l = some vs →
    oks D vs ∧ (l.mapM fun
      | .tmp t => pure (A.tmps.getD t undef)
      | .cell a t => do loadVar t (← asAddr (A.tmps.getD a undef)) : Sem (List Value)).run P w = .ok (reals θ vs) w := by
  intro l
  induction l with
  | nil => intro vs e; obtain rfl := Option.some.inj e; exact ⟨trivial, rfl⟩
  | cons x r ih =>
    intro vs e
    change ocons (resV T a h x) (ress T a h r) = some vs at e
    unfold ocons at e
    split at e
    · cases e
    rename_i v hv
    split at e
    · cases e
    rename_i us hus
    obtain rfl := Option.some.inj e
    obtain ⟨i1, i2⟩ := ih us hus
    have one : v.ok D ∧ ((fun (x : ResultVar) => match x with
      | .tmp t => pure (A.tmps.getD t undef)
      | .cell a t => do loadVar t (← asAddr (A.tmps.getD a undef)) : ResultVar → Sem Value) x).run P w = .ok (v.real θ) w := by
      cases x with
      | tmp t =>
        have hv : a.get t = some v := hv
        refine ⟨hf.ok t v hv, ?_⟩
        simp only [Sem.run_pure]
        rw [hf.rel.1 t v hv]
      | cell p t =>
        have hv : pLoad T h t (a.get p) = some v := hv
        unfold pLoad at hv
        split at hv
        · cases hv
        rename_i q hq
        split at hv
        · cases hv
        rename_i ti hti
        obtain ⟨l1, l2⟩ := load_ok hT hti hi.rel hi.ok hv
        refine ⟨l1, ?_⟩
        have hrel := hf.rel.1 p q hq
        unfold loadV at hv
        split at hv
        · simp only [hrel, MV.real] at l2 ⊢
          exact l2
        · cases hv
    refine ⟨by simp only [oks]; exact ⟨one.1, i1⟩, ?_⟩
    rw [List.mapM_cons, Sem.run_bind, one.2]
    simp only [Result.andThen_ok, Sem.run_bind, i2, Sem.run_pure, reals]
theorem results_ok (hT : TyOk P T) {D : Nat → Prop} {n : Nat} {θ : Env} {h : Heap} {w : World} {a : Fr} {A : Act} {m : Nat} (hi : Inv D n θ h w) (hf : FrOk D θ a A m) {fn : Func} {vs : List MV} (e : ress T a h fn.results.toList = some vs) :
    (oneOf vs).ok D ∧ (results fn A.tmps).run P w = .ok ((oneOf vs).real θ) w := by
  obtain ⟨h1, h2⟩ := res_ok hT hi hf _ _ e
  refine ⟨?_, ?_⟩
  · unfold oneOf
    split
    · simp only [oks] at h1; exact h1.1
    · simp only [MV.ok]; exact h1
  · unfold results
    rw [Array.mapM_eq_mapM_toList, Sem.run_bind]
    have : ∀ {α : Type} (f : Sem (List α)) (v : List α), f.run P w = .ok v w → (List.toArray <$> f).run P w = .ok v.toArray w := by
      intro α f v hf
      rw [map_eq_pure_bind, Sem.run_bind, hf]; rfl
    refine (congrArg (fun q => Result.andThen q fun (vs : Array Value) w' => (pure (if h : vs.size = 1 then vs[0] else .tuple vs) : Sem Value).run P w') (this _ _ h2)).trans ?_
    simp only [Result.andThen_ok, Sem.run_pure]
    congr 1
    by_cases hl : vs.length = 1
    · obtain ⟨v, rfl⟩ := List.length_eq_one_iff.1 hl
      rfl
    · rw [dif_neg (by simp [reals_len]; exact hl)]
      have : oneOf vs = .tuple vs := by
        unfold oneOf
        split
        · exact absurd rfl hl
        · rfl
      rw [this]
      simp [MV.real]
/-- What the table of functions says. -/
def FxOk (P : Program) (T : Types) (F : PT FX) : Prop := ∀ f fx, F.get f = some fx → P.funcs[f]? = some fx.fn ∧ (fx.fn.name == "runtime.NumGoroutine") = false ∧ ∀ b, fx.fn.body = some b → Fit P T fx.fn.ntmps fx.plans b
def OrcOk (P : Program) (orc : Orc) : Prop := ∀ f args h n r, orc f args h n = some (some r) → FnOk P f args h n r
theorem fn_step (hT : TyOk P T) {F : PT FX} (hF : FxOk P T F) {orc : Orc} (hO : OrcOk P orc) {s : Fns} (hc : SoundC P T s) : SoundF P (stepF T F orc s) := by
  intro f args h n r e
  change kOrc T F s f args h n (orc f args h n) = some r at e
  unfold kOrc at e
  split at e
  · rename_i q hq
    subst e
    exact hO f args h n r hq
  intro D θ w hi hargs
  unfold kFunc at e
  split at e
  · cases e
  rename_i fx hfx
  split at e
  · cases e
  rename_i b hb
  obtain ⟨h1, h2, h3⟩ := hF f fx hfx
  obtain ⟨a, e2, ha⟩ := argsK_some _ _ _ _ _ e
  refine .inl ⟨?_, ?_⟩
  · simp only [callFunc, program, bind, Sem.bind, Sem.run, h1, h2, hb]
    rfl
  refine calls_of_wp h1 hb ?_
  unfold kRes at e2
  split at e2
  · cases e2
  rename_i x hx
  have hfr : FrOk D θ a { tmps := (reals θ args).toArray ++ Array.replicate (fx.fn.ntmps - (reals θ args).toArray.size) undef, defers := [] } fx.fn.ntmps := by
    refine ⟨fun t v e => ?_, ⟨fun t v e => ?_, rfl⟩, by simp; omega⟩
    · rcases ha t v e with ⟨_, h4⟩ | ⟨_, h4⟩
      · exact (oks_iff D _).1 hargs v (List.mem_of_getElem? h4)
      · obtain rfl := Option.some.inj (PT.get_fill _ _ _ _ h4)
        simp [MV.ok, oks]
    · rcases ha t v e with ⟨_, h4⟩ | ⟨h5, h4⟩
      · have hlt := (List.getElem?_eq_some_iff.1 h4).1
        simp only [Nat.sub_zero] at h4 hlt
        rw [Array.getD_eq_getD_getElem?, Array.getElem?_append_left (by simp [reals_len]; exact hlt), List.getElem?_toArray, reals_get, h4]
        rfl
      · obtain rfl := Option.some.inj (PT.get_fill _ _ _ _ h4)
        rw [Array.getD_eq_getD_getElem?, Array.getElem?_append_right (by simp [reals_len]; omega), Array.getElem?_replicate, real_undef]
        split <;> rfl
  refine hc fx.plans b ⟨a, h, n⟩ x hx fx.fn.ntmps (h3 b hb) D θ w _ _ hi hfr ?_
  rintro ex A' w' ⟨he, θ', l, f'⟩
  have fin : ∀ vs, ress T x.s.a x.s.h fx.fn.results.toList = some vs → r = ⟨oneOf vs, x.s.h, x.s.n⟩ → A'.defers = [] ∧ ∃ v, (results fx.fn A'.tmps).run P w' = .ok v w' ∧ Ret D n θ h w r (.returned v) w' := by
    intro vs h4 h5
    subst h5
    obtain ⟨r1, r2⟩ := results_ok hT (l.inv hi) f' h4
    exact ⟨f'.rel.2, _, r2, θ', rfl, l, r1⟩
  have got : ∀ o, kRes1 x.s.h x.s.n o = some r → ∃ vs, o = some vs ∧ r = ⟨oneOf vs, x.s.h, x.s.n⟩ := by
    intro o h4
    unfold kRes1 at h4
    split at h4
    · cases h4
    · exact ⟨_, rfl, (Option.some.inj h4).symm⟩
  obtain ⟨xe, xs⟩ := x
  cases xe with
  | normal =>
    obtain ⟨vs, g1, g2⟩ := got _ e2
    subst he
    exact fin vs g1 g2
  | exit i => cases e2
  | ret =>
    obtain ⟨vs, g1, g2⟩ := got _ e2
    subst he
    exact fin vs g1 g2
end Go.Proofs.YtkeckbmhaplkpaaGreatDoor.Ev
/- The evaluator is sound. -/
namespace Go.Proofs.YtkeckbmhaplkpaaGreatDoor.Ev
open Go
variable {P : Program} {T : Types} {F : PT FX} {orc : Orc}

theorem fns_succ (n : Nat) : fns T F orc (n + 1) = stepF T F orc (fns T F orc n) := rfl
theorem sound (hT : TyOk P T) (hF : FxOk P T F) (hO : OrcOk P orc) (N : Nat) : SoundC P T (fns T F orc N) ∧ SoundF P (fns T F orc N) := by
  induction N using Nat.strongRecOn with
  | _ N ih =>
  cases N with
  | zero => exact ⟨fun pl c t x e => (by cases e), fun f args h n r e => (by cases e)⟩
  | succ N =>
    obtain ⟨hc, hf⟩ := ih N (by omega)
    refine ⟨?_, by rw [fns_succ]; exact fn_step hT hF hO hc⟩
    intro pl c t x e m hfit D θ w A Q hi hfr hQ
    by_cases hl : ∀ b, c ≠ .loop b
    · rw [fns_succ] at e
      exact code_step hT hc hf pl c hl t x e m hfit D θ w A Q hi hfr hQ
    · obtain ⟨b, rfl⟩ : ∃ b, c = .loop b := by
        cases c with
        | loop b => exact ⟨b, rfl⟩
        | _ => exact absurd (fun b h => by cases h) hl
      refine wp_loop_ghost (fun k A' w' => k ≤ N + 1 ∧ ∃ t' θ', (fns T F orc k).c pl (.loop b) t' = some x ∧ Leads D t.n θ t.h w t'.n θ' t'.h w' ∧ FrOk (Up D t.n t'.n) θ' t'.a A' m) (N + 1) ?_ ?_
      · have hup : (Up D t.n t.n) = D := funext fun y => propext (up_self y)
        exact ⟨Nat.le_refl _, t, θ, e, Leads.refl hi.rel hi.ok, by rw [hup]; exact hfr⟩
      · rintro k A' w' ⟨hk, t', θ', e', l, f⟩
        cases k with
        | zero => cases e'
        | succ k =>
          obtain ⟨hc', _⟩ := ih k (by omega)
          change kSeq ((fns T F orc k).c pl (.loop b)) ((fns T F orc k).c pl b t') = some x at e'
          obtain ⟨p, h1, h2⟩ := kSeq_some e'
          refine hc' pl b t' p h1 m hfit _ θ' w' A' _ (l.inv hi) f ?_
          refine then_of (h2.imp And.left id) (fun e A' w' q => hQ e A' w' (q.lead l)) fun hn A1 w1 θ1 l1 f1 => ?_
          rcases h2 with ⟨_, h3⟩ | ⟨h3, _⟩
          · refine ⟨k, by omega, by omega, p.s, θ1, h3, l.trans l1, ?_⟩
            have : (Up (Up D t.n t'.n) t'.n p.s.n) = Up D t.n p.s.n := funext fun y => propext (up_up l.le l1.le y)
            rw [← this]; exact f1
          · exact absurd hn h3
end Go.Proofs.YtkeckbmhaplkpaaGreatDoor.Ev
/- What a contract of the kit's form says of names and heaps. -/
namespace Go.Proofs.YtkeckbmhaplkpaaGreatDoor.Ev
open Go Go.RowKit
theorem enter_fn {P : Program} {f : Nat} {fn : Func} (h1 : P.funcs[f]? = some fn) (h2 : (fn.name == "runtime.NumGoroutine") = false) {b : Code} (hb : fn.body = some b) (args : Array Value) (w : World) : (callFunc f args).run P w = .ok (.enter f args) w := by
  simp only [callFunc, program, bind, Sem.bind, Sem.run, h1, h2, hb]
  rfl
section
variable {D : Nat → Prop} {n : Nat} {θ : Env} {h : Heap} {w w' : World}
theorem leads_below (hi : Inv D n θ h w) (b : Below w.heap.size w w') : Leads D n θ h w n θ h w' where
  le := Nat.le_refl n
  same := fun _ _ => ⟨rfl, rfl, rfl⟩
  rel := {
    obj := fun y o hy => by
      by_cases hd : o = .dead
      · subst hd; trivial
      · exact ObjIs.move (fun _ _ => ⟨rfl, rfl, rfl⟩) (hi.ok y o hy).1 (hi.ok y o hy).2 (b.block _ (hi.rel.lt y ⟨o, hy, hd⟩)) (hi.rel.obj y o hy)
    sep := hi.rel.sep
    lt := fun y hy => Nat.lt_of_lt_of_le (hi.rel.lt y hy) b.size }
  ok := okH_iff (fun y => (up_self y).symm) hi.ok
  os := b.os
  tape := b.tape
  output := b.output
  size := b.size
  kept := fun k hk _ => b.block k hk
  born := fun y hy => .inl ⟨y, hy, rfl⟩
/-- A new name for a block that a call has made. -/
theorem lead_far (hi : Inv D n θ h w) (b : Below w.heap.size w w') {g : Nat} (hg1 : w.heap.size ≤ g) (hg2 : g < w'.heap.size) {mo : MObj} (c : Nat) (hobj : ObjIs (θ.upd n g 0 c) n w' mo) (hok : mo.ok (Up D n (n + 1))) :
    Leads D n θ h w (n + 1) (θ.upd n g 0 c) (h.set n mo) w' := by
  have hn := hi.lt
  have hr := hi.rel
  have ho := hi.ok
  have hs := upd_same (θ := θ) (b := g) (o := 0) (c := c) hn
  have live : ∀ y, Live (h.set n mo) y → y = n ∨ (y ≠ n ∧ Live h y) := by
    rintro y ⟨o, ho', hd⟩
    rcases PT.get_set ho' with ⟨rfl, _⟩ | ⟨hne, h2⟩
    · exact .inl rfl
    · exact .inr ⟨hne, o, h2, hd⟩
  have blk : ∀ y, Live h y → (θ.upd n g 0 c).blk y = θ.blk y := fun y ⟨o, h1, _⟩ => (hs y (ho y o h1).1).1
  exact {
    le := Nat.le_succ n
    same := fun y hy => by
      have : y ≠ n := by omega
      simp [Env.upd, this]
    rel := {
      obj := fun y o hy => by
        rcases PT.get_set hy with ⟨rfl, rfl⟩ | ⟨hne, h2⟩
        · exact hobj
        · by_cases hd : o = .dead
          · subst hd; trivial
          · exact ObjIs.move hs (ho y _ h2).1 (ho y _ h2).2 (b.block _ (hr.lt y ⟨_, h2, hd⟩)) (hr.obj y _ h2)
      sep := fun y z hy hz e => by
        rcases live y hy with rfl | ⟨hyn, hy'⟩ <;> rcases live z hz with rfl | ⟨hzn, hz'⟩
        · rfl
        · rw [blk z hz', (upd_self θ _ _ _ _).1] at e
          have := hr.lt z hz'; omega
        · rw [blk y hy', (upd_self θ _ _ _ _).1] at e
          have := hr.lt y hy'; omega
        · rw [blk y hy', blk z hz'] at e
          exact hr.sep y z hy' hz' e
      lt := fun y hy => by
        rcases live y hy with rfl | ⟨_, hy'⟩
        · rw [(upd_self θ _ _ _ _).1]; exact hg2
        · rw [blk y hy']; exact Nat.lt_of_lt_of_le (hr.lt y hy') b.size }
    ok := fun y o hy => by
      rcases PT.get_set hy with ⟨rfl, rfl⟩ | ⟨hne, h2⟩
      · exact ⟨.inr ⟨Nat.le_refl _, by omega⟩, hok⟩
      · exact ⟨.inl (ho y o h2).1, MObj.ok_mono up_mono (ho y o h2).2⟩
    os := b.os
    tape := b.tape
    output := b.output
    size := b.size
    kept := fun k hk _ => b.block k hk
    born := fun y hy => by
      rcases live y hy with rfl | ⟨_, hy'⟩
      · exact .inr (by rw [(upd_self θ _ _ _ _).1]; exact hg1)
      · exact .inl ⟨y, hy', (blk y hy').symm⟩ }
/-- Names in use may be taken for more. -/
theorem Leads.raise {n1 N : Nat} {θ' : Env} {h' : Heap} (l : Leads D n θ h w n1 θ' h' w') (hN : n1 ≤ N) : Leads D n θ h w N θ' h' w' where
  le := Nat.le_trans l.le hN
  same := l.same
  rel := l.rel
  ok := fun y o e => ⟨by
    rcases (l.ok y o e).1 with h1 | h1
    · exact .inl h1
    · exact .inr ⟨h1.1, Nat.lt_of_lt_of_le h1.2 hN⟩, MObj.ok_mono (fun y hy => by
    rcases hy with h1 | h1
    · exact .inl h1
    · exact .inr ⟨h1.1, Nat.lt_of_lt_of_le h1.2 hN⟩) (l.ok y o e).2⟩
  os := l.os
  tape := l.tape
  output := l.output
  size := l.size
  kept := l.kept
  born := l.born
end
end Go.Proofs.YtkeckbmhaplkpaaGreatDoor.Ev
/- The evaluator once more, its text turned into closures that the kernel keeps: it is the same, and runs faster. -/
namespace Go.Proofs.YtkeckbmhaplkpaaGreatDoor.Ev
open Go
noncomputable section

/-! ### A closure in a box: what stands in it is reckoned once -/
inductive Clo (α : Type) where
  | mk (a : α)
section
variable {α β : Type}
def Clo.on (c : Clo α) (k : α → β) : β := Clo.rec (motive := fun _ => β) k c
def Clo.run (c : Clo α) : α := Clo.rec (motive := fun _ => α) (fun a => a) c
theorem Clo.run_mk (a : α) : (Clo.mk a).run = a := rfl
theorem Clo.run_on (c : Clo α) (k : α → Clo β) : (c.on k).run = (k c.run).run := by cases c; rfl
def obO (o : Option α) (k : α → Option β) : Option β := Option.rec (motive := fun _ => Option β) none k o
def ofo (o : Option α) (k : Option α → β) : β := Option.rec (motive := fun _ => β) (k none) (fun a => k (some a)) o
theorem ofo_eq (o : Option α) (k : Option α → β) : ofo o k = k o := by cases o <;> rfl
end

/-! ### Frames: the way to a slot is known -/
section
variable {α β : Type}
def getC (d : Nat) : Nat → Clo (PT α → Option α) :=
  Nat.rec (motive := fun _ => Nat → Clo (PT α → Option α)) (fun n => .mk fun t => PT.get t n)
    (fun _ ih n => Bool.rec (motive := fun _ => Clo (PT α → Option α))
      (Bool.rec (motive := fun _ => Clo (PT α → Option α))
        ((ih (Nat.shiftRight (Nat.pred n) 1)).on fun g => .mk fun t => PT.rec (motive := fun _ => Option α) none (fun _ _ r _ _ => g r) t)
        ((ih (Nat.shiftRight n 1)).on fun g => .mk fun t => PT.rec (motive := fun _ => Option α) none (fun l _ _ _ _ => g l) t)
        (Nat.beq (Nat.land n 1) 1))
      (.mk fun t => PT.rec (motive := fun _ => Option α) none (fun _ v _ _ _ => v) t)
      (Nat.beq n 0)) d
def setC (d : Nat) : Nat → Clo (PT α → α → (PT α → β) → β) :=
  Nat.rec (motive := fun _ => Nat → Clo (PT α → α → (PT α → β) → β)) (fun n => .mk fun t x k => PT.setK t n x k)
    (fun _ ih n => Bool.rec (motive := fun _ => Clo (PT α → α → (PT α → β) → β))
      (Bool.rec (motive := fun _ => Clo (PT α → α → (PT α → β) → β))
        ((ih (Nat.shiftRight (Nat.pred n) 1)).on fun g => .mk fun t x k => PT.rec (motive := fun _ => β) (k .lf) (fun l v r _ _ => g r x fun r' => k (.nd l v r')) t)
        ((ih (Nat.shiftRight n 1)).on fun g => .mk fun t x k => PT.rec (motive := fun _ => β) (k .lf) (fun l v r _ _ => g l x fun l' => k (.nd l' v r)) t)
        (Nat.beq (Nat.land n 1) 1))
      (.mk fun t x k => PT.rec (motive := fun _ => β) (k .lf) (fun l _ r _ _ => k (.nd l (some x) r)) t)
      (Nat.beq n 0)) d
theorem getC_run (d : Nat) : ∀ (n : Nat) (t : PT α), (getC d n).run t = t.get n := by
  induction d with
  | zero => intro n t; rfl
  | succ d ih =>
    intro n t
    show Clo.run (Bool.rec (motive := fun _ => Clo (PT α → Option α)) (Bool.rec (motive := fun _ => Clo (PT α → Option α)) ((getC d _).on _) ((getC d _).on _) _) _ _) t = _
    cases t with
    | lf =>
      cases Nat.beq n 0
      · cases Nat.beq (Nat.land n 1) 1
        · simp only [Clo.run_on]; rfl
        · simp only [Clo.run_on]; rfl
      · rfl
    | nd l v r =>
      rw [PT.get_nd]
      cases Nat.beq n 0
      · cases Nat.beq (Nat.land n 1) 1
        · simp only [Clo.run_on]; exact ih _ r
        · simp only [Clo.run_on]; exact ih _ l
      · rfl
theorem setC_run (d : Nat) : ∀ (n : Nat) (t : PT α) (x : α) (k : PT α → β), (setC d n).run t x k = t.setK n x k := by
  induction d with
  | zero => intro n t x k; rfl
  | succ d ih =>
    intro n t x k
    show Clo.run (Bool.rec (motive := fun _ => Clo (PT α → α → (PT α → β) → β)) (Bool.rec (motive := fun _ => Clo (PT α → α → (PT α → β) → β)) ((setC d _).on _) ((setC d _).on _) _) _ _) t x k = _
    cases t with
    | lf =>
      cases Nat.beq n 0
      · cases Nat.beq (Nat.land n 1) 1
        · simp only [Clo.run_on]; rfl
        · simp only [Clo.run_on]; rfl
      · rfl
    | nd l v r =>
      show _ = Bool.rec (motive := fun _ => β) (Bool.rec (motive := fun _ => β) (r.setK _ x fun r' => k (.nd l v r')) (l.setK _ x fun l' => k (.nd l' v r)) _) _ _
      cases Nat.beq n 0
      · cases Nat.beq (Nat.land n 1) 1
        · simp only [Clo.run_on]; exact ih _ r x _
        · simp only [Clo.run_on]; exact ih _ l x _
      · rfl
end
def forceF {β : Type} (v : MV) (k : MV → β) : β := match v with
  | .int q n => fint n fun n => k (.int q n)
  | .ptr y o => fnat o fun o => k (.ptr y o)
  | .slice y o n c => fnat o fun o => fnat n fun n => k (.slice y o n c)
  | .num y m c => fnat c fun c => k (.num y m c)
  | v => k v
theorem forceF_eq {β : Type} (v : MV) (k : MV → β) : forceF v k = k v := by
  cases v <;> simp [forceF, fint_eq, fnat_eq]

/-! ### Operands -/
def opdC (x : Operand) : Clo (Fr → Option MV) := match x with
  | .tmp t => getC 12 t
  | .const v => ofo (cst v) fun r => .mk fun _ => r
  | .func f => .mk fun _ => some (.func f [] [])
  | .global _ => .mk fun _ => none
theorem opdC_run (x : Operand) (a : Fr) : (opdC x).run a = opd a x := by
  cases x with
  | tmp t => exact getC_run 12 t a
  | const v => unfold opdC; simp only [ofo_eq]; rfl
  | func f => rfl
  | global g => rfl
def opdsC (l : List Operand) : Clo (Fr → Option (List MV)) := List.rec (motive := fun _ => Clo (Fr → Option (List MV))) (.mk fun _ => some [])
  (fun x _ ih => (opdC x).on fun f => ih.on fun g => .mk fun a => obO (f a) fun v => obO (g a) fun r => some (v :: r)) l
theorem obO_cons {α : Type} (x : Option α) (r : Option (List α)) : (obO x fun v => obO r fun r => some (v :: r)) = ocons x r := by cases x <;> cases r <;> rfl
theorem opdsC_cons (x : Operand) (l : List Operand) : opdsC (x :: l) = (opdC x).on fun f => (opdsC l).on fun g => .mk fun a => obO (f a) fun v => obO (g a) fun r => some (v :: r) := rfl
theorem opdsC_run (l : List Operand) (a : Fr) : (opdsC l).run a = opds a l := by
  induction l with
  | nil => rfl
  | cons x l ih =>
    show _ = ocons (opd a x) (opds a l)
    rw [opdsC_cons, Clo.run_on, Clo.run_on, Clo.run_mk, opdC_run, ih, obO_cons]
def opdoC (x : Option Operand) : Clo (Fr → Option (Option MV)) := match x with
  | none => .mk fun _ => some none
  | some x => (opdC x).on fun f => .mk fun a => obO (f a) fun v => some (some v)
theorem opdoC_run (x : Option Operand) (a : Fr) : (opdoC x).run a = opdo a x := by
  cases x with
  | none => rfl
  | some x =>
    unfold opdoC
    simp only [Clo.run_on, Clo.run_mk, opdC_run]
    unfold opdo
    simp only
    generalize opd a x = v
    cases v <;> rfl

/-! ### Two values -/
def intC (op : BinOp) : Clo (IntKind → Int → Int → Option MV) := match op with
  | .add => .mk fun k a b => some (.int k (wrapK k (Int.add a b)))
  | .sub => .mk fun k a b => some (.int k (wrapK k (Int.sub a b)))
  | .mul => .mk fun k a b => some (.int k (wrapK k (Int.mul a b)))
  | .eql => .mk fun _ a b => some (.bool (intEq a b))
  | .neq => .mk fun _ a b => some (.bool (Bool.not (intEq a b)))
  | .lss => .mk fun _ a b => some (.bool (Bool.not (intLe b a)))
  | .leq => .mk fun _ a b => some (.bool (intLe a b))
  | .gtr => .mk fun _ a b => some (.bool (Bool.not (intLe a b)))
  | .geq => .mk fun _ a b => some (.bool (intLe b a))
  | .quo => .mk fun k a b => divBin (fun n m => wrapK k (.ofNat (Nat.div n m))) k a b
  | .rem => .mk fun k a b => divBin (fun n m => .ofNat (Nat.mod n m)) k a b
  | .and => .mk fun k a b => bitBin Nat.land k a b
  | .or => .mk fun k a b => bitBin Nat.lor k a b
  | _ => .mk fun _ _ _ => none
theorem intC_run (op : BinOp) (k : IntKind) (a b : Int) : (intC op).run k a b = intBin op k a b := by cases op <;> rfl
def strC (op : BinOp) : Clo (List Nat → List Nat → Option MV) := match op with
  | .add => .mk fun a b => lappK a b fun l => (match Nat.ble (llen l) 1048576 with | true => some (.str l) | false => none)
  | .eql => .mk fun a b => some (.bool (strEq a b))
  | .neq => .mk fun a b => some (.bool (Bool.not (strEq a b)))
  | .lss => .mk fun a b => some (.bool (strLt a b))
  | .leq => .mk fun a b => some (.bool (Bool.not (strLt b a)))
  | .gtr => .mk fun a b => some (.bool (strLt b a))
  | .geq => .mk fun a b => some (.bool (Bool.not (strLt a b)))
  | _ => .mk fun _ _ => none
theorem strC_run (op : BinOp) (a b : List Nat) : (strC op).run a b = strBin op a b := by cases op <;> rfl
def binF (T : Types) (op : BinOp) (t : Nat) (fi : IntKind → Int → Int → Option MV) (fs : List Nat → List Nat → Option MV) (x y : MV) : Option MV := match x with
  | .int k a => (match y with
    | .int q b => Bool.rec (motive := fun _ => Option MV) none (fi k a b) (kindEq k q)
    | _ => none)
  | .str a => (match y with | .str b => fs a b | _ => none)
  | .num z q c => (match y with | .int .i64 b => numBin op z q c b | _ => none)
  | x => otherBin T op t x y
def binC (T : Types) (op : BinOp) (t : Nat) : Clo (MV → MV → Option MV) := match isSh op with
  | true => .mk fun x y => binV T op t x y
  | false => (intC op).on fun fi => (strC op).on fun fs => .mk fun x y => binF T op t fi fs x y
theorem binC_run (T : Types) (op : BinOp) (t : Nat) (x y : MV) : (binC T op t).run x y = binV T op t x y := by
  unfold binC
  cases h : isSh op
  · simp only [Clo.run_on, Clo.run_mk]
    have hi : (intC op).run = intBin op := by funext k a b; exact intC_run op k a b
    have hs : (strC op).run = strBin op := by funext a b; exact strC_run op a b
    rw [hi, hs]
    cases x <;> try rfl
    cases y <;> try rfl
    rename_i k a q b
    simp only [binF, binV, h]
    cases kindEq k q <;> rfl
  · rfl

/-! ### Operations -/
def pickF (c x y : Option MV) : Option MV := match c with
  | some (.bool b) => Bool.rec (motive := fun _ => Option MV) y x b
  | _ => none
def partsC (T : Types) (t : Nat) (ps : List (Nat × Operand)) : Clo (Fr → List MV → (List MV → Option MV) → Option MV) :=
  List.rec (motive := fun _ => Clo (Fr → List MV → (List MV → Option MV) → Option MV)) (.mk fun _ cs k => k cs)
    (fun p _ ih => ofo (placeOf T t p.1) fun pl => (opdC p.2).on fun f => ih.on fun g => .mk fun a cs k => putPart pl (f a) cs fun cs' => g a cs' k) ps
theorem partsC_cons (T : Types) (t : Nat) (p : Nat × Operand) (ps : List (Nat × Operand)) : partsC T t (p :: ps) = ofo (placeOf T t p.1) fun pl => (opdC p.2).on fun f => (partsC T t ps).on fun g => .mk fun a cs k => putPart pl (f a) cs fun cs' => g a cs' k := rfl
theorem partsC_run (T : Types) (t : Nat) (ps : List (Nat × Operand)) (a : Fr) : ∀ (cs : List MV) (k : List MV → Option MV), (partsC T t ps).run a cs k = partsK T a t ps cs k := by
  induction ps with
  | nil => intro cs k; rfl
  | cons p ps ih =>
    intro cs k
    show _ = putPart (placeOf T t p.1) (opd a p.2) cs fun cs' => partsK T a t ps cs' k
    rw [partsC_cons, ofo_eq, Clo.run_on, Clo.run_on, Clo.run_mk, opdC_run]
    congr 1
    funext cs'
    exact ih cs' k
def buildC (T : Types) (t : Nat) (ps : List (Nat × Operand)) : Clo (Fr → Heap → Option MV) := match T.get t with
  | none => .mk fun _ _ => none
  | some ti => match ti.isAgg with
    | false => .mk fun _ _ => none
    | true => (partsC T t ps).on fun g => .mk fun a _ => g a ti.zero fun cs => some (.agg cs)
theorem buildC_run (T : Types) (t : Nat) (ps : List (Nat × Operand)) (a : Fr) (h : Heap) : (buildC T t ps).run a h = pBuild T a t ps := by
  unfold buildC pBuild
  cases T.get t with
  | none => rfl
  | some ti =>
    simp only
    cases ti.isAgg
    · rfl
    · simp only [Clo.run_on, Clo.run_mk, partsC_run]
def callP (T : Types) (c : Call) : Clo (Fr → Heap → Option MV) := match c.callee with
  | .builtin .len => (opdsC c.args.toList).on fun l => .mk fun a h => pLen T h c.argTypes.toList (l a)
  | .builtin .min => (opdsC c.args.toList).on fun l => .mk fun a _ => pMin false (l a)
  | .builtin .max => (opdsC c.args.toList).on fun l => .mk fun a _ => pMin true (l a)
  | _ => .mk fun _ _ => none
theorem callP_run (T : Types) (c : Call) (a : Fr) (h : Heap) : (callP T c).run a h = pCall T a h c := by
  unfold callP pCall
  cases c.callee with
  | value x => rfl
  | invoke r m => rfl
  | builtin b => cases b <;> simp only [Clo.run_on, Clo.run_mk, opdsC_run]
def pureC (T : Types) (op : Op) : Clo (Fr → Heap → Option MV) := match op with
  | .move x => (opdC x).on fun f => .mk fun a _ => f a
  | .assign x => (opdC x).on fun f => .mk fun a _ => f a
  | .pick c x y => (opdC c).on fun c => (opdC x).on fun x => (opdC y).on fun y => .mk fun a _ => pickF (c a) (x a) (y a)
  | .build t ps => buildC T t ps.toList
  | .load t p => (opdC p).on fun f => .mk fun a h => pLoad T h t (f a)
  | .nilCheck x => (opdC x).on fun f => .mk fun a _ => pNil (f a)
  | .binOp op t x y _ => (opdC x).on fun x => (opdC y).on fun y => (binC T op t).on fun b => .mk fun a _ => obO (x a) fun x => obO (y a) fun y => b x y
  | .unOp op _ x => (opdC x).on fun f => .mk fun a _ => pUn op (f a)
  | .convert s d x => (opdC x).on fun f => .mk fun a h => pConv T s d h (f a)
  | .makeFunc f first cap => (opdsC first.toList).on fun l => (opdsC cap.toList).on fun c => .mk fun a _ => pFunc f (l a) (c a)
  | .slice t x lo hi mx => (opdC x).on fun x => (opdoC lo).on fun lo => (opdoC hi).on fun hi => (opdoC mx).on fun mx => .mk fun a _ => pSlice T t (x a) (lo a) (hi a) (mx a)
  | .fieldAddr t x f => (opdC x).on fun g => ofo (fieldOf T t f) fun p => .mk fun a _ => pFieldAddr (g a) p
  | .field t x f => (opdC x).on fun g => ofo (fieldOf T t f) fun p => .mk fun a _ => pField (g a) p
  | .indexAddr t x i => (opdC x).on fun x => (opdC i).on fun i => .mk fun a _ => pIdxAddr T t (x a) (i a)
  | .index t x i => (opdC x).on fun x => (opdC i).on fun i => .mk fun a _ => pIdx T t (x a) (i a)
  | .lookup t x i ok => (opdC x).on fun x => (opdC i).on fun i => .mk fun a h => pLook T h t (x a) (i a) ok
  | .extract x i => (opdC x).on fun f => .mk fun a _ => pExt (f a) i
  | .call c => callP T c
  | _ => .mk fun _ _ => none
theorem pureC_run (T : Types) (op : Op) (a : Fr) (h : Heap) : (pureC T op).run a h = pureOp T a h op := by
  cases op <;> simp only [pureC, pureOp, Clo.run_on, Clo.run_mk, opdC_run, opdsC_run, opdoC_run, ofo_eq, buildC_run, callP_run]
  case pick c x y =>
    unfold pickF pPick
    generalize opd a c = v
    cases v with
    | none => rfl
    | some v => cases v <;> rfl
  case binOp op t x y yt =>
    unfold pBin
    cases opd a x with
    | none => rfl
    | some x => cases opd a y with
      | none => rfl
      | some y => exact binC_run T op t x y
def effC (T : Types) (op : Op) : Clo (Fr → Heap → Nat → Option R) := match op with
  | .alloc t => .mk fun _ h n => eAlloc h n (T.get t)
  | .box _ x => (opdC x).on fun x => .mk fun a h n => eBox h n (x a)
  | .store t p x => (opdC p).on fun p => (opdC x).on fun x => .mk fun a h n => eStore h n (T.get t) (p a) (x a)
  | .makeSlice t l c => (opdC l).on fun l => (opdC c).on fun c => .mk fun a h n => eMake h n (rowTI T t) (l a) (c a)
  | .mapUpdate t m k v => (opdC m).on fun m => (opdC k).on fun k => (opdC v).on fun v => .mk fun a h n => eMap T t h n (m a) (k a) (v a)
  | .call c => (match c.callee with
    | .builtin b => (opdsC c.args.toList).on fun l => .mk fun a h n => builtinV T h n b c.argTypes.toList (l a)
    | _ => .mk fun _ _ _ => none)
  | op => .mk fun a h n => effOp T a h n op
theorem effC_run (T : Types) (op : Op) (a : Fr) (h : Heap) (n : Nat) : (effC T op).run a h n = effOp T a h n op := by
  cases op <;> simp only [effC, effOp, Clo.run_on, Clo.run_mk, opdC_run]
  case call c =>
    unfold eCall
    cases c.callee <;> simp only [Clo.run_on, Clo.run_mk, opdsC_run]

/-! ### Steps -/
abbrev KF := Fr → Heap → Nat → Option X
abbrev FF := Nat → List MV → Heap → Nat → Option R
def putC (dst : Option Nat) : Clo (Fr → MV → (Fr → Option X) → Option X) := match dst with
  | none => .mk fun a _ k => k a
  | some d => (setC 12 d).on fun s => .mk fun a v k => forceF v fun v => s a v k
theorem putC_run (o : Oper) (a : Fr) (v : MV) (k : Fr → Option X) : (putC o.dst).run a v k = putK a o v k := by
  unfold putC putK
  split
  · rename_i h; rw [h]; rfl
  · rename_i d h
    rw [Clo.run_on, Clo.run_mk, forceF_eq, setC_run, h]
    simp only [force_eq]
def notC (dst : Option Nat) : Clo (Fr → (Fr → Option X) → Option X) := match dst with
  | none => .mk fun a k => k a
  | some d => (setC 12 d).on fun s => .mk fun a k => s a .undef k
theorem notC_run (o : Oper) (a : Fr) (k : Fr → Option X) : (notC o.dst).run a k = putK a o .undef k := by
  unfold notC putK
  split
  · rename_i h; rw [h]; rfl
  · rename_i d h
    rw [Clo.run_on, Clo.run_mk, setC_run, h]
    simp only [force_eq]
def obR (o : Option R) (k : MV → Heap → Nat → Option X) : Option X := Option.rec (motive := fun _ => Option X) none (fun r => R.rec (motive := fun _ => Option X) k r) o
def callF (f : FF) (h : Heap) (n : Nat) (x : Option MV) (args : Option (List MV)) : Option R := match x with
  | some (.func g first cap) => obO args fun l => lappK l cap fun l => lappK first l fun l => f g l h n
  | _ => none
def callC (c : Call) (x : Operand) : Clo (FF → Fr → Heap → Nat → Option R) := match x with
  | .func g => (opdsC c.args.toList).on fun as => .mk fun f a h n => obO (as a) fun l => f g l h n
  | x => (opdsC c.args.toList).on fun as => (opdC x).on fun x => .mk fun f a h n => callF f h n (x a) (as a)
theorem callF_eq (s : Fns) (a : Fr) (h : Heap) (n : Nat) (c : Call) (x : Option MV) : callF s.f h n x (opds a c.args.toList) = callR s a h n c x := by
  unfold callF callR
  cases x with
  | none => rfl
  | some v =>
    cases v <;> try rfl
    rename_i g first cap
    simp only [callArgs]
    cases opds a c.args.toList <;> rfl
theorem callC_run (s : Fns) (a : Fr) (h : Heap) (n : Nat) (c : Call) (x : Operand) : (callC c x).run s.f a h n = callR s a h n c (opd a x) := by
  unfold callC
  split
  · rename_i g
    rw [Clo.run_on, Clo.run_mk, opdsC_run, ← callF_eq]
    simp only [opd, callF]
    cases opds a c.args.toList with
    | none => rfl
    | some l => simp only [obO, lappK_eq, List.nil_append, List.append_nil]
  · rw [Clo.run_on, Clo.run_on, Clo.run_mk, opdsC_run, opdC_run, callF_eq]

/-! ### A region in its one order -/
def sStepC (T : Types) (o : Oper) : Clo (FF → Fr → Heap → Nat → KF → Option X) := match cls o.op with
  | .pure => (pureC T o.op).on fun p => (putC o.dst).on fun q => .mk fun _ a h n k => obO (p a h) fun v => q a v fun a => k a h n
  | .call c x => (callC c x).on fun p => (putC o.dst).on fun q => .mk fun f a h n k => obR (p f a h n) fun v h n => q a v fun a => k a h n
  | .fresh => (effC T o.op).on fun p => (putC o.dst).on fun q => .mk fun _ a h n k => obR (p a h n) fun v h n => q a v fun a => k a h n
  | .eff => (effC T o.op).on fun p => (putC o.dst).on fun q => .mk fun _ a h n k => obR (p a h n) fun v h n => q a v fun a => k a h n
theorem obR_put (o : Oper) (a : Fr) (r : Option R) (k : KF) : (obR r fun v h n => (putC o.dst).run a v fun a => k a h n) = kPutR a o r k := by
  cases r with
  | none => rfl
  | some r => exact putC_run o a r.v _
theorem sStepC_run (T : Types) (s : Fns) (o : Oper) (a : Fr) (h : Heap) (n : Nat) (k : KF) : (sStepC T o).run s.f a h n k = sStep T s o ⟨a, h, n⟩ fun t => k t.a t.h t.n := by
  unfold sStepC sStep
  generalize cls o.op = c
  cases c <;> simp only [Clo.run_on, Clo.run_mk]
  · rw [pureC_run]
    unfold kPut
    cases pureOp T a h o.op with
    | none => rfl
    | some v => exact putC_run o a v _
  · rw [effC_run]; exact obR_put o a _ k
  · rw [effC_run]; exact obR_put o a _ k
  · rw [callC_run]; exact obR_put o a _ k
def wantF (b : Bool) (v : Option MV) : Option Bool := match v with
  | some (.bool c) => some (Bool.rec (motive := fun _ => Bool) (Bool.not c) c b)
  | some _ => some false
  | none => none
theorem wantF_eq (b : Bool) (v : Option MV) : wantF b v = wantV b v := by
  cases v with
  | none => rfl
  | some v => cases v <;> try rfl
              rename_i c
              cases b <;> cases c <;> rfl
def guardC (all : List Oper) (g : Nat × Bool) : Clo (Fr → Option Bool) := match lget all g.1 with
  | none => .mk fun _ => none
  | some oj => match oj.dst with
    | none => .mk fun _ => none
    | some d => (getC 12 d).on fun f => .mk fun a => wantF g.2 (f a)
theorem guardC_run (all : List Oper) (o : Oper) (g : Nat × Bool) (hg : o.guard = some g) (a : Fr) : (guardC all g).run a = wants a all o := by
  unfold guardC wants
  rw [hg]
  simp only
  cases lget all g.1 with
  | none => rfl
  | some oj =>
    simp only
    cases oj.dst with
    | none => rfl
    | some d => simp only [Clo.run_on, Clo.run_mk, getC_run, wantF_eq]
def sOperC (T : Types) (all : List Oper) (o : Oper) : Clo (FF → Fr → Heap → Nat → KF → Option X) := match o.guard with
  | none => sStepC T o
  | some g => (sStepC T o).on fun st => (guardC all g).on fun w => (notC o.dst).on fun q => .mk fun f a h n k =>
    obO (w a) fun b => Bool.rec (motive := fun _ => Option X) (q a fun a => k a h n) (st f a h n k) b
theorem sOperC_run (T : Types) (s : Fns) (all : List Oper) (o : Oper) (a : Fr) (h : Heap) (n : Nat) (k : KF) :
    (sOperC T all o).run s.f a h n k = sWant T s (wants a all o) o ⟨a, h, n⟩ fun t => k t.a t.h t.n := by
  unfold sOperC
  split
  · rename_i hg
    rw [sStepC_run]
    simp only [wants, hg, sWant]
  · rename_i g hg
    rw [Clo.run_on, Clo.run_on, Clo.run_on, Clo.run_mk, guardC_run all o g hg]
    unfold sWant
    cases wants a all o with
    | none => rfl
    | some b =>
      cases b
      · exact notC_run o a _
      · exact sStepC_run T s o a h n k
def sOpsC (T : Types) (all l : List Oper) : Clo (FF → KF) :=
  List.rec (motive := fun _ => Clo (FF → KF)) (.mk fun _ a h n => some ⟨.normal, ⟨a, h, n⟩⟩)
    (fun o _ ih => (sOperC T all o).on fun p => ih.on fun q => .mk fun f a h n => p f a h n (q f)) l
theorem sOpsC_cons (T : Types) (all : List Oper) (o : Oper) (l : List Oper) : sOpsC T all (o :: l) = (sOperC T all o).on fun p => (sOpsC T all l).on fun q => .mk fun f a h n => p f a h n (q f) := rfl
theorem sOpsC_run (T : Types) (s : Fns) (all l : List Oper) : ∀ (a : Fr) (h : Heap) (n : Nat), (sOpsC T all l).run s.f a h n = sOps T s all l ⟨a, h, n⟩ := by
  induction l with
  | nil => intro a h n; rfl
  | cons o l ih =>
    intro a h n
    show _ = sWant T s (wants a all o) o ⟨a, h, n⟩ (sOps T s all l)
    rw [sOpsC_cons, Clo.run_on, Clo.run_on, Clo.run_mk, sOperC_run]
    congr 1
    funext t
    exact ih t.a t.h t.n

/-! ### A region in any order -/
abbrev KD := Fr → Heap → Nat → List Pd → List Heap → List Rd → Option X
def chk1F (T : Types) (r : Rd) (h : Heap) (b : Bool) : Bool := Bool.rec (motive := fun _ => Bool) true ((pureC T r.op).on fun p => mvIs r.v (p r.a h)) b
theorem chk1F_eq (T : Types) (r : Rd) (h : Heap) (b : Bool) : chk1F T r h b = chk1 T r h b := by
  cases b
  · rfl
  · change ((pureC T r.op).on fun p => mvIs r.v (p r.a h)) = _
    rw [show ((pureC T r.op).on fun p => mvIs r.v (p r.a h)) = mvIs r.v ((pureC T r.op).run r.a h) by cases pureC T r.op; rfl, pureC_run]
    rfl
def chkF (T : Types) (rs : List Rd) (h : Heap) (k : Nat) : Bool :=
  List.rec (motive := fun _ => Bool) true (fun r _ ih => Bool.and (chk1F T r h (Bool.and (Nat.ble r.lo k) (Nat.ble k r.hi))) ih) rs
theorem chkF_eq (T : Types) (rs : List Rd) (h : Heap) (k : Nat) : chkF T rs h k = chk T rs h k := by
  induction rs with
  | nil => rfl
  | cons r rs ih =>
    show Bool.and (chk1F T r h _) (chkF T rs h k) = Bool.and (chk1 T r h _) (chk T rs h k)
    rw [ih, chk1F_eq]
def chkAllF (T : Types) (rs : List Rd) (hs : List Heap) : Nat → Bool :=
  List.rec (motive := fun _ => Nat → Bool) (fun _ => true) (fun h _ ih k => Bool.and (chkF T rs h k) (ih (Nat.pred k))) hs
theorem chkAllF_eq (T : Types) (rs : List Rd) (hs : List Heap) : ∀ k, chkAllF T rs hs k = chkAll T rs hs k := by
  induction hs with
  | nil => intro k; rfl
  | cons h hs ih =>
    intro k
    show Bool.and (chkF T rs h k) (chkAllF T rs hs (Nat.pred k)) = Bool.and (chk T rs h k) (chkAll T rs hs (Nat.pred k))
    rw [ih, chkF_eq]
def okRd (T : Types) (rs : List Rd) (hs : List Heap) : Bool := match rs with
  | [] => true
  | r :: rs => chkAllF T (r :: rs) hs (Nat.pred (llen hs))
theorem chk_nil (T : Types) (hs : List Heap) : ∀ k, chkAll T [] hs k = true := by
  induction hs with
  | nil => intro k; rfl
  | cons h hs ih => intro k; show Bool.and true (chkAll T [] hs (Nat.pred k)) = true; rw [ih]; rfl
def dEndF (T : Types) (a : Fr) (h : Heap) (n : Nat) (ps : List Pd) (hs : List Heap) (rs : List Rd) : Option X :=
  Bool.rec (motive := fun _ => Option X) none (relAllK ps h fun h => some ⟨.normal, ⟨a, h, n⟩⟩) (okRd T rs (h :: hs))
theorem dEndF_eq (T : Types) (a : Fr) (h : Heap) (n : Nat) (ps : List Pd) (hs : List Heap) (rs : List Rd) : dEndF T a h n ps hs rs = dEnd T ⟨a, h, n, ps, hs, rs⟩ := by
  have e : okRd T rs (h :: hs) = chkAll T rs (h :: hs) (llen hs) := by
    cases rs with
    | nil => exact (chk_nil T _ _).symm
    | cons r rs => exact chkAllF_eq T (r :: rs) (h :: hs) (llen hs)
  unfold dEndF dEnd
  rw [e]
  simp only
  cases chkAll T rs (h :: hs) (llen hs) <;> rfl
def dReadF (p : Pl) (o : Op) : Fr → MV → List Rd → List Rd := match p.rd with
  | none => fun _ _ rs => rs
  | some r => fun a v rs => ⟨a, o, v, r.1, r.2⟩ :: rs
def dFreshF (i : Nat) (n : Nat) (a : Fr) (hs : List Heap) (h : Heap) (ps : List Pd) (rs : List Rd) (q : Fr → MV → (Fr → Option X) → Option X) (v : MV) (n' : Nat) (ob : Option MObj) (k : KD) : Option X :=
  obO ob fun ob => q a v fun a => k a h n' (⟨i, n, ob⟩ :: ps) hs rs
def leB (b : Bool) (x : Option X) : Option X := Bool.rec (motive := fun _ => Option X) none x b
def dStepC (T : Types) (i : Nat) (o : Oper) (p : Pl) : Clo (FF → Fr → Heap → Nat → List Pd → List Heap → List Rd → KD → Option X) := match cls o.op with
  | .pure => (pureC T o.op).on fun g => (putC o.dst).on fun q => .mk fun _ a h n ps hs rs k => obO (g a h) fun v => q a v fun a' => k a' h n ps hs (dReadF p o.op a v rs)
  | .fresh => (effC T o.op).on fun g => (putC o.dst).on fun q => .mk fun _ a h n ps hs rs k => obR (g a h n) fun v h' n' => dFreshF i n a hs h ps rs q v n' (h'.get n) k
  | .eff => (effC T o.op).on fun g => (putC o.dst).on fun q => .mk fun _ a h n ps hs rs k => relK p.mask ps h fun h1 ps => obR (g a h1 n) fun v h' n' => leB (Nat.ble n n') (q a v fun a => k a h' n' ps (h :: hs) rs)
  | .call c x => (callC c x).on fun g => (putC o.dst).on fun q => .mk fun f a h n ps hs rs k => relK p.mask ps h fun h1 ps => obR (g f a h1 n) fun v h' n' => leB (Nat.ble n n') (q a v fun a => k a h' n' ps (h :: hs) rs)
def KD.of (k : Dt → Option X) : KD := fun a h n ps hs rs => k ⟨a, h, n, ps, hs, rs⟩
theorem dRead_eq (p : Pl) (o : Oper) (v : MV) (a : Fr) (h : Heap) (n : Nat) (ps : List Pd) (hs : List Heap) (rs : List Rd) : dReadF p o.op a v rs = dRead p o v ⟨a, h, n, ps, hs, rs⟩ := by
  unfold dReadF dRead
  cases p.rd <;> rfl
theorem leB_put (n : Nat) (o : Oper) (a : Fr) (r : Option R) (k : KF) : (obR r fun v h' n' => leB (Nat.ble n n') ((putC o.dst).run a v fun a => k a h' n')) = kPutN n a o r k := by
  cases r with
  | none => rfl
  | some r =>
    show leB (Nat.ble n r.n) _ = kPutN1 (Nat.ble n r.n) a o r k
    cases Nat.ble n r.n
    · rfl
    · exact putC_run o a r.v _
theorem dStepC_run (T : Types) (s : Fns) (i : Nat) (o : Oper) (p : Pl) (a : Fr) (h : Heap) (n : Nat) (ps : List Pd) (hs : List Heap) (rs : List Rd) (k : Dt → Option X) :
    (dStepC T i o p).run s.f a h n ps hs rs (KD.of k) = dStep T s i o p ⟨a, h, n, ps, hs, rs⟩ k := by
  unfold dStepC dStep
  generalize cls o.op = c
  cases c <;> simp only [Clo.run_on, Clo.run_mk]
  · rw [pureC_run]
    unfold dPure
    cases pureOp T a h o.op with
    | none => rfl
    | some v =>
      simp only [obO, dRead_eq p o v a h n ps hs rs]
      exact putC_run o a v _
  · rw [effC_run]
    unfold dFresh
    cases effOp T a h n o.op with
    | none => rfl
    | some r =>
      show dFreshF i n a hs h ps rs _ r.v r.n (r.h.get n) _ = dFresh1 i o _ r.v r.n (r.h.get n) k
      unfold dFreshF dFresh1
      cases r.h.get n with
      | none => rfl
      | some ob => exact putC_run o a r.v _
  · congr 1
    funext h1 ps1
    rw [effC_run]
    exact leB_put n o a _ fun a h' n' => k ⟨a, h', n', ps1, h :: hs, rs⟩
  · congr 1
    funext h1 ps1
    rw [callC_run]
    exact leB_put n o a _ fun a h' n' => k ⟨a, h', n', ps1, h :: hs, rs⟩
def isEffB (c : Cls) : Bool := match c with | .pure => false | .fresh => false | _ => true
def dNotC (o : Oper) : Clo (Fr → Heap → Nat → List Pd → List Heap → List Rd → KD → Option X) := match isEffB (cls o.op) with
  | false => (notC o.dst).on fun q => .mk fun a h n ps hs rs k => q a fun a => k a h n ps hs rs
  | true => (notC o.dst).on fun q => .mk fun a h n ps hs rs k => q a fun a => k a h n ps (h :: hs) rs
theorem dNotC_run (o : Oper) (a : Fr) (h : Heap) (n : Nat) (ps : List Pd) (hs : List Heap) (rs : List Rd) (k : Dt → Option X) :
    (dNotC o).run a h n ps hs rs (KD.of k) = dNot o ⟨a, h, n, ps, hs, rs⟩ k := by
  unfold dNotC dNot
  cases cls o.op <;> simp only [isEffB, Clo.run_on, Clo.run_mk] <;> exact notC_run o a _
def dOperC (T : Types) (all : List Oper) (i : Nat) (o : Oper) (p : Pl) : Clo (FF → Fr → Heap → Nat → List Pd → List Heap → List Rd → KD → Option X) := match o.guard with
  | none => dStepC T i o p
  | some g => (dStepC T i o p).on fun st => (guardC all g).on fun w => (dNotC o).on fun q => .mk fun f a h n ps hs rs k =>
    obO (w a) fun b => Bool.rec (motive := fun _ => Option X) (q a h n ps hs rs k) (st f a h n ps hs rs k) b
theorem dOperC_run (T : Types) (s : Fns) (all : List Oper) (i : Nat) (o : Oper) (p : Pl) (a : Fr) (h : Heap) (n : Nat) (ps : List Pd) (hs : List Heap) (rs : List Rd) (k : Dt → Option X) :
    (dOperC T all i o p).run s.f a h n ps hs rs (KD.of k) = dWant T s (wants a all o) i o p ⟨a, h, n, ps, hs, rs⟩ k := by
  unfold dOperC
  split
  · rename_i hg
    rw [dStepC_run]
    simp only [wants, hg, dWant]
  · rename_i g hg
    rw [Clo.run_on, Clo.run_on, Clo.run_on, Clo.run_mk, guardC_run all o g hg]
    unfold dWant
    cases wants a all o with
    | none => rfl
    | some b =>
      cases b
      · exact dNotC_run o a h n ps hs rs k
      · exact dStepC_run T s i o p a h n ps hs rs k
def dOpsC (T : Types) (all l : List Oper) : List Pl → Nat → Clo (FF → KD) :=
  List.rec (motive := fun _ => List Pl → Nat → Clo (FF → KD)) (fun _ _ => .mk fun _ a h n ps hs rs => dEndF T a h n ps hs rs)
    (fun o _ ih pl i => List.rec (motive := fun _ => Clo (FF → KD)) (.mk fun _ _ _ _ _ _ _ => none)
      (fun p pl _ => (dOperC T all i o p).on fun g => (ih pl (Nat.succ i)).on fun q => .mk fun f a h n ps hs rs => g f a h n ps hs rs (q f)) pl) l
theorem dOpsC_cons (T : Types) (all : List Oper) (o : Oper) (l : List Oper) (p : Pl) (pl : List Pl) (i : Nat) : dOpsC T all (o :: l) (p :: pl) i = (dOperC T all i o p).on fun g => (dOpsC T all l pl (Nat.succ i)).on fun q => .mk fun f a h n ps hs rs => g f a h n ps hs rs (q f) := rfl
theorem dOpsC_run (T : Types) (s : Fns) (all l : List Oper) : ∀ (pl : List Pl) (i : Nat) (t : Dt), (dOpsC T all l pl i).run s.f t.a t.h t.n t.ps t.hs t.rs = dOps T s all l pl i t := by
  induction l with
  | nil => intro pl i t; exact dEndF_eq T t.a t.h t.n t.ps t.hs t.rs
  | cons o l ih =>
    intro pl i t
    cases pl with
    | nil => rfl
    | cons p pl =>
      show _ = dWant T s (wants t.a all o) i o p t (dOps T s all l pl (Nat.succ i))
      rw [dOpsC_cons, Clo.run_on, Clo.run_on, Clo.run_mk]
      rw [show (dOpsC T all l pl (Nat.succ i)).run s.f = KD.of (dOps T s all l pl (Nat.succ i)) from by
        funext a h n ps hs rs; exact ih pl (Nat.succ i) ⟨a, h, n, ps, hs, rs⟩]
      exact dOperC_run T s all i o p t.a t.h t.n t.ps t.hs t.rs _

/-! ### Code, calls -/
structure Gns where
  c : Plans → Code → Fr → Heap → Nat → Option X
  f : FF
def seqK (r : Option X) (q : KF) : Option X := Option.rec (motive := fun _ => Option X) none
  (fun x => X.rec (motive := fun _ => Option X) (fun e t => Ex.rec (motive := fun _ => Option X) (St.rec (motive := fun _ => Option X) (fun a h n => q a h n) t) (fun i => some ⟨.exit i, t⟩) (some ⟨.ret, t⟩) e) x) r
theorem seqK_eq (r : Option X) (q : St → Option X) : (seqK r fun a h n => q ⟨a, h, n⟩) = kSeq q r := by
  cases r with
  | none => rfl
  | some x => obtain ⟨e, t⟩ := x; cases e <;> rfl
def blockK (id : Nat) (r : Option X) : Option X := Option.rec (motive := fun _ => Option X) none
  (fun x => X.rec (motive := fun _ => Option X) (fun e t => Ex.rec (motive := fun _ => Option X) (some ⟨.normal, t⟩) (fun i => Bool.rec (motive := fun _ => Option X) (some ⟨.exit i, t⟩) (some ⟨.normal, t⟩) (Nat.beq i id)) (some ⟨.ret, t⟩) e) x) r
theorem blockK_eq (id : Nat) (r : Option X) : blockK id r = kBlock id r := by
  cases r with
  | none => rfl
  | some x =>
    obtain ⟨e, t⟩ := x
    cases e <;> try rfl
    rename_i i
    show Bool.rec (motive := fun _ => Option X) _ _ (Nat.beq i id) = _
    unfold kBlock
    simp only
    cases Nat.beq i id <;> rfl
def condF (v : Option MV) (x y : Option X) : Option X := match v with
  | some (.bool b) => Bool.rec (motive := fun _ => Option X) y x b
  | _ => none
theorem condF_eq (v : Option MV) (x y : Option X) : condF v x y = kCond v x y := by
  cases v with
  | none => rfl
  | some v =>
    cases v <;> try rfl
    rename_i b
    cases b <;> rfl
def codeC (T : Types) (pl : Plans) (c : Code) : Clo (Gns → KF) := match c with
  | .skip => .mk fun _ a h n => some ⟨.normal, ⟨a, h, n⟩⟩
  | .region id ops d => (match d with
    | true => (match pl.get id with
      | none => .mk fun _ _ _ _ => none
      | some l => (dOpsC T ops.toList ops.toList l 0).on fun g => .mk fun s a h n => g s.f a h n [] [] [])
    | false => (sOpsC T ops.toList ops.toList).on fun g => .mk fun s a h n => g s.f a h n)
  | .seq x y => .mk fun s a h n => seqK (s.c pl x a h n) (s.c pl y)
  | .cond c x y => (opdC c).on fun c => .mk fun s a h n => condF (c a) (s.c pl x a h n) (s.c pl y a h n)
  | .block id b => .mk fun s a h n => blockK id (s.c pl b a h n)
  | .loop b => .mk fun s a h n => seqK (s.c pl b a h n) (s.c pl (.loop b))
  | .exit id => .mk fun _ a h n => some ⟨.exit id, ⟨a, h, n⟩⟩
  | .ret => .mk fun _ a h n => some ⟨.ret, ⟨a, h, n⟩⟩
  | _ => .mk fun _ _ _ _ => none
def Same (g : Gns) (s : Fns) : Prop := (∀ pl c a h n, g.c pl c a h n = s.c pl c ⟨a, h, n⟩) ∧ g.f = s.f
theorem codeC_run (T : Types) {g : Gns} {s : Fns} (hs : Same g s) (pl : Plans) (c : Code) (a : Fr) (h : Heap) (n : Nat) : (codeC T pl c).run g a h n = sC T s pl c ⟨a, h, n⟩ := by
  have hc : ∀ pl c, (g.c pl c) = fun a h n => s.c pl c ⟨a, h, n⟩ := fun pl c => by funext a h n; exact hs.1 pl c a h n
  have hf := hs.2
  cases c <;> simp only [codeC, sC, Clo.run_on, Clo.run_mk, opdC_run, hc, seqK_eq, condF_eq, blockK_eq]
  case region id ops d =>
    cases d
    · simp only [kRegion, Clo.run_on, Clo.run_mk, hf]
      exact sOpsC_run T s _ _ a h n
    · simp only [kRegion, dRegion]
      cases pl.get id with
      | none => rfl
      | some l =>
        simp only [Clo.run_on, Clo.run_mk, hf]
        exact dOpsC_run T s _ _ l 0 ⟨a, h, n, [], [], []⟩
def resC (T : Types) (x : ResultVar) : Clo (Fr → Heap → Option MV) := match x with
  | .tmp t => (getC 12 t).on fun f => .mk fun a _ => f a
  | .cell p t => (getC 12 p).on fun f => .mk fun a h => pLoad T h t (f a)
theorem resC_run (T : Types) (x : ResultVar) (a : Fr) (h : Heap) : (resC T x).run a h = resV T a h x := by
  cases x <;> simp only [resC, resV, Clo.run_on, Clo.run_mk, getC_run]
def ressC (T : Types) (l : List ResultVar) : Clo (Fr → Heap → Option (List MV)) :=
  List.rec (motive := fun _ => Clo (Fr → Heap → Option (List MV))) (.mk fun _ _ => some [])
    (fun x _ ih => (resC T x).on fun f => ih.on fun g => .mk fun a h => obO (f a h) fun v => obO (g a h) fun r => some (v :: r)) l
theorem ressC_cons (T : Types) (x : ResultVar) (l : List ResultVar) : ressC T (x :: l) = (resC T x).on fun f => (ressC T l).on fun g => .mk fun a h => obO (f a h) fun v => obO (g a h) fun r => some (v :: r) := rfl
theorem ressC_run (T : Types) (l : List ResultVar) (a : Fr) (h : Heap) : (ressC T l).run a h = ress T a h l := by
  induction l with
  | nil => rfl
  | cons x l ih =>
    show _ = ocons (resV T a h x) (ress T a h l)
    rw [ressC_cons, Clo.run_on, Clo.run_on, Clo.run_mk, resC_run, ih, obO_cons]
def resK (rs : Fr → Heap → Option (List MV)) (a : Fr) (h : Heap) (n : Nat) : Option R := obO (rs a h) fun l => some ⟨oneOf l, h, n⟩
def resG (rs : Fr → Heap → Option (List MV)) (r : Option X) : Option R := Option.rec (motive := fun _ => Option R) none
  (fun x => X.rec (motive := fun _ => Option R) (fun e t => Ex.rec (motive := fun _ => Option R) (St.rec (motive := fun _ => Option R) (fun a h n => resK rs a h n) t) (fun _ => none) (St.rec (motive := fun _ => Option R) (fun a h n => resK rs a h n) t) e) x) r
theorem resG_eq (T : Types) (fn : Func) (r : Option X) : resG (ressC T fn.results.toList).run r = kRes T fn r := by
  cases r with
  | none => rfl
  | some x =>
    obtain ⟨e, t⟩ := x
    have key : resK (ressC T fn.results.toList).run t.a t.h t.n = kRes1 t.h t.n (ress T t.a t.h fn.results.toList) := by
      unfold resK kRes1
      rw [ressC_run]
      cases ress T t.a t.h fn.results.toList <;> rfl
    cases e
    · exact key
    · rfl
    · exact key
def funC (T : Types) (fx : Option FX) : Clo (Gns → List MV → Heap → Nat → Option R) := match fx with
  | none => .mk fun _ _ _ _ => none
  | some fx => match fx.fn.body with
    | none => .mk fun _ _ _ _ => none
    | some b => (ressC T fx.fn.results.toList).on fun rs => .mk fun s args h n => argsK args 0 frame0 fun a => resG rs (s.c fx.plans b a h n)
theorem funC_run (T : Types) {g : Gns} {s : Fns} (hs : Same g s) (fx : Option FX) (args : List MV) (h : Heap) (n : Nat) : (funC T fx).run g args h n = kFunc T s args h n fx := by
  unfold funC kFunc
  cases fx with
  | none => rfl
  | some fx =>
    simp only
    generalize fx.fn.body = ob
    cases ob with
    | none => rfl
    | some b =>
      simp only [Clo.run_on, Clo.run_mk, resG_eq]
      congr 1
      funext a
      rw [hs.1]
def stepG (T : Types) (F : PT FX) (orc : Orc) (s : Gns) : Gns where
  c pl c a h n := (codeC T pl c).on fun g => g s a h n
  f f args h n := Option.rec (motive := fun _ => Option R) ((funC T (F.get f)).on fun g => g s args h n) (fun r => r) (orc f args h n)
def Gns.zero : Gns := ⟨fun _ _ _ _ _ => none, fun _ _ _ _ => none⟩
def gns (T : Types) (F : PT FX) (orc : Orc) (n : Nat) : Gns := Nat.rec (motive := fun _ => Gns) Gns.zero (fun _ s => stepG T F orc s) n
theorem on_run {α β : Type} (c : Clo α) (k : α → β) : c.on k = k c.run := by cases c; rfl
theorem gns_same (T : Types) (F : PT FX) (orc : Orc) (N : Nat) : Same (gns T F orc N) (fns T F orc N) := by
  induction N with
  | zero => exact ⟨fun _ _ _ _ _ => rfl, rfl⟩
  | succ N ih =>
    refine ⟨fun pl c a h n => ?_, ?_⟩
    · change ((codeC T pl c).on fun g => g (gns T F orc N) a h n) = sC T (fns T F orc N) pl c ⟨a, h, n⟩
      rw [on_run, codeC_run T ih]
    · funext f args h n
      change Option.rec (motive := fun _ => Option R) ((funC T (F.get f)).on fun g => g (gns T F orc N) args h n) (fun r => r) (orc f args h n) = kOrc T F (fns T F orc N) f args h n (orc f args h n)
      rw [on_run, funC_run T ih]
      unfold kOrc
      cases orc f args h n <;> rfl
theorem gns_f (T : Types) (F : PT FX) (orc : Orc) (N : Nat) : (gns T F orc N).f = (fns T F orc N).f := (gns_same T F orc N).2
end
end Go.Proofs.YtkeckbmhaplkpaaGreatDoor.Ev
