/- Regions in any order, first part: what an operation looks at. -/
import Derived.Test.YtkeckbmhaplkpaaGreatDoorNEvB
import Derived.Orders
import Derived.Laws.StructEq
import Derived.Below
namespace Go.Proofs.YtkeckbmhaplkpaaGreatDoor.Ln
open Go
variable {P : Program} {T : Types}

def Agree (a b : Fr) (op : Op) : Prop := ∀ x ∈ op.operands.toList, opd a x = opd b x
theorem opds_congr {a b : Fr} {l : List Operand} (h : ∀ x ∈ l, opd a x = opd b x) : opds a l = opds b l := by
  induction l with
  | nil => rfl
  | cons x r ih =>
    change ocons (opd a x) (opds a r) = ocons (opd b x) (opds b r)
    rw [h x (by simp), ih fun y hy => h y (by simp [hy])]
theorem opdo_congr {a b : Fr} {x : Option Operand} (h : ∀ y, x = some y → opd a y = opd b y) : opdo a x = opdo b x := by
  cases x with
  | none => rfl
  | some y => simp only [opdo, h y rfl]
theorem partsK_congr {β : Type} {a b : Fr} {t : Nat} {ps : List (Nat × Operand)} (h : ∀ p ∈ ps, opd a p.2 = opd b p.2) (cs : List MV) (k : List MV → Option β) : partsK T a t ps cs k = partsK T b t ps cs k := by
  induction ps generalizing cs k with
  | nil => rfl
  | cons p r ih =>
    change putPart (placeOf T t p.1) (opd a p.2) cs (fun cs => partsK T a t r cs k) = putPart (placeOf T t p.1) (opd b p.2) cs (fun cs => partsK T b t r cs k)
    rw [h p (by simp)]
    congr 1
    funext cs
    exact ih (fun q hq => h q (by simp [hq])) cs k
theorem pureOp_congr {a b : Fr} {h : Heap} {op : Op} (e : Agree a b op) : pureOp T a h op = pureOp T b h op := by
  unfold Agree at e
  cases op <;> simp only [Op.operands] at e <;> simp only [pureOp]
  case pick c x y => unfold pPick; rw [e c (by simp), e x (by simp), e y (by simp)]
  case build t ps =>
    unfold pBuild
    split
    · rfl
    · split
      · rfl
      · exact partsK_congr (fun p hp => e p.2 (by simp; exact ⟨p.1, by simpa using hp⟩)) _ _
  case makeFunc f x y =>
    rw [opds_congr (a := a) (b := b) (l := x.toList) fun z hz => e z (by simp at hz ⊢; exact .inl hz), opds_congr (a := a) (b := b) (l := y.toList) fun z hz => e z (by simp at hz ⊢; exact .inr hz)]
  case slice t x l hh m =>
    rw [e x (by simp), opdo_congr (a := a) (b := b) (x := l) fun y hy => e y (by subst hy; simp), opdo_congr (a := a) (b := b) (x := hh) fun y hy => e y (by subst hy; simp), opdo_congr (a := a) (b := b) (x := m) fun y hy => e y (by subst hy; simp)]
  case call c =>
    unfold pCall
    have : opds a c.args.toList = opds b c.args.toList := opds_congr fun z hz => e z (by simp only [Call.operands, Array.toList_append, List.mem_append]; exact .inr hz)
    rw [this]
  all_goals first
    | rfl
    | (rw [e _ (by simp)]; done)
    | (rw [e _ (by simp), e _ (by simp)]; done)
    | (rename_i x y; rw [e x (by simp), e y (by simp)])
    | (rename_i x y z; rw [e x (by simp), e y (by simp)])
    | (rename_i x y z; rw [e y (by simp), e z (by simp)])
    | (rename_i t x y z; rw [e x (by simp), e y (by simp)])
theorem effOp_congr {a b : Fr} {h : Heap} {n : Nat} {op : Op} (e : Agree a b op) : effOp T a h n op = effOp T b h n op := by
  unfold Agree at e
  cases op <;> simp only [Op.operands] at e <;> simp only [effOp]
  case box t x => rw [e x (by simp)]
  case buildSlice t len ps =>
    unfold eRow
    split
    · rfl
    · split
      · rfl
      · congr 1
        funext z
        exact partsK_congr (fun p hp => e p.2 (by simp; exact ⟨p.1, by simpa using hp⟩)) _ _
  case store t p x => rw [e p (by simp), e x (by simp)]
  case makeSlice t l c => rw [e l (by simp), e c (by simp)]
  case mapUpdate t m k v => rw [e m (by simp), e k (by simp), e v (by simp)]
  case makeMap t r => cases r <;> rfl
  case call c =>
    unfold eCall
    have : opds a c.args.toList = opds b c.args.toList := opds_congr fun z hz => e z (by simp only [Call.operands, Array.toList_append, List.mem_append]; exact .inr hz)
    rw [this]
theorem callR_congr {s : Fns} {a b : Fr} {h : Heap} {n : Nat} {c : Call} {x : Operand} (hc : c.callee = .value x) (e : Agree a b (.call c)) : callR s a h n c (opd a x) = callR s b h n c (opd b x) := by
  unfold Agree at e
  simp only [Op.operands, Call.operands, hc, Array.toList_append, List.mem_append] at e
  rw [e x (by simp)]
  unfold callR
  rw [opds_congr (a := a) (b := b) (l := c.args.toList) fun z hz => e z (.inr hz)]
/-- Whether a pure operation looks at the heap. -/
def reads (op : Op) : Bool := match op with
  | .load _ _ => true
  | .lookup _ _ _ _ => true
  | .convert _ _ _ => true
  | .call _ => true
  | _ => false
theorem pureOp_still {a : Fr} {op : Op} (e : reads op = false) (h h' : Heap) : pureOp T a h op = pureOp T a h' op := by
  cases op <;> first | rfl | (cases e; done)
end Go.Proofs.YtkeckbmhaplkpaaGreatDoor.Ln
/- Regions in any order, second part: tables cut down; operations that make one new object. -/
namespace Go.Proofs.YtkeckbmhaplkpaaGreatDoor.Ln
open Go
variable {P : Program} {T : Types}

def PT.filt {α : Type} : PT α → (Nat → Bool) → PT α
  | .lf, _ => .lf
  | .nd l v r, p => .nd (l.filt fun n => p (2 * n + 1)) (if p 0 then v else none) (r.filt fun n => p (2 * n + 2))
theorem PT.get_filt {α : Type} (t : PT α) : ∀ (p : Nat → Bool) (n : Nat), (t.filt p).get n = if p n then t.get n else none := by
  induction t with
  | lf => intro p n; simp [PT.filt, PT.get_lf]
  | nd l v r ihl ihr =>
    intro p n
    rw [PT.filt, PT.get_nd, PT.get_nd]
    cases hn : Nat.beq n 0
    · have h0 := Nat.ne_of_beq_eq_false hn
      cases ho : Nat.beq (Nat.land n 1) 1
      · have e1 : Nat.land n 1 = n % 2 := Nat.and_one_is_mod n
        have e3 : Nat.shiftRight (Nat.pred n) 1 = (n - 1) / 2 := Nat.shiftRight_eq_div_pow _ 1
        have h1 := Nat.ne_of_beq_eq_false ho
        simp only [cond_false]
        rw [ihr, e3, show 2 * ((n - 1) / 2) + 2 = n by omega]
      · have e1 : Nat.land n 1 = n % 2 := Nat.and_one_is_mod n
        have e3 : Nat.shiftRight n 1 = n / 2 := Nat.shiftRight_eq_div_pow n 1
        have h1 := Nat.eq_of_beq_eq_true ho
        simp only [cond_false, cond_true]
        rw [ihl, e3, show 2 * (n / 2) + 1 = n by omega]
    · have h0 := Nat.eq_of_beq_eq_true hn
      subst h0
      rfl
/-- A write and a look at the same place: only the shape counts. -/
theorem PT.get_set_filt {α : Type} (t : PT α) : ∀ (p : Nat → Bool) (n : Nat) (x : α), ((t.filt p).set n x).get n = (t.set n x).get n := by
  induction t with
  | lf => intro p n x; rfl
  | nd l v r ihl ihr =>
    intro p n x
    rw [PT.filt, PT.set_nd, PT.set_nd]
    cases hn : Nat.beq n 0
    · cases ho : Nat.beq (Nat.land n 1) 1
      · simp only [cond_false]
        rw [PT.get_nd, PT.get_nd, hn, ho]
        simp only [cond_false]
        exact ihr _ _ _
      · simp only [cond_false, cond_true]
        rw [PT.get_nd, PT.get_nd, hn, ho]
        simp only [cond_false, cond_true]
        exact ihl _ _ _
    · simp only [cond_true]
      rw [PT.get_nd, PT.get_nd, hn]
      rfl
theorem lsetK_bind {α : Type} (l : List α) : ∀ {β : Type} (n : Nat) (x : α) (k : List α → Option β), lsetK l n x k = (lsetK l n x some).bind k := by
  induction l with
  | nil => intro β n x k; rfl
  | cons y r ih =>
    intro β n x k
    change Bool.rec (motive := fun _ => Option β) (lsetK r (Nat.pred n) x fun r' => k (y :: r')) (k (x :: r)) (Nat.beq n 0) =
      (Bool.rec (motive := fun _ => Option (List α)) (lsetK r (Nat.pred n) x fun r' => some (y :: r')) (some (x :: r)) (Nat.beq n 0)).bind k
    cases Nat.beq n 0
    · show lsetK r (Nat.pred n) x (fun r' => k (y :: r')) = (lsetK r (Nat.pred n) x fun r' => some (y :: r')).bind k
      rw [ih _ _ (fun r' => k (y :: r')), ih _ _ (fun r' => some (y :: r')), Option.bind_assoc]
      rfl
    · rfl
theorem fillK_bind {β : Type} (vs : List MV) : ∀ (cs : List MV) (o : Nat) (k : List MV → Option β), fillK vs cs o k = (fillK vs cs o some).bind k := by
  induction vs with
  | nil => intro cs o k; rfl
  | cons v r ih =>
    intro cs o k
    change lsetK cs o v (fun cs' => fillK r cs' (Nat.succ o) k) = (lsetK cs o v fun cs' => fillK r cs' (Nat.succ o) some).bind k
    rw [lsetK_bind, lsetK_bind cs o v (fun cs' => fillK r cs' (Nat.succ o) some), Option.bind_assoc]
    congr 1
    funext cs'
    exact ih _ _ _
theorem partsK_bind {β : Type} {a : Fr} {t : Nat} (ps : List (Nat × Operand)) : ∀ (cs : List MV) (k : List MV → Option β), partsK T a t ps cs k = (partsK T a t ps cs some).bind k := by
  induction ps with
  | nil => intro cs k; rfl
  | cons p r ih =>
    intro cs k
    change putPart (placeOf T t p.1) (opd a p.2) cs (fun cs => partsK T a t r cs k) = (putPart (placeOf T t p.1) (opd a p.2) cs fun cs => partsK T a t r cs some).bind k
    unfold putPart
    cases placeOf T t p.1 with
    | none => rfl
    | some pl =>
      cases opd a p.2 with
      | none => rfl
      | some v =>
        simp only
        cases v.cells with
        | none => rfl
        | some vs =>
          simp only
          cases Bool.and (Nat.beq (llen vs) pl.2.size) (Nat.ble (Nat.add pl.1 (llen vs)) (llen cs)) with
          | false => rfl
          | true =>
            simp only
            rw [fillK_bind, fillK_bind vs cs pl.1 (fun cs => partsK T a t r cs some), Option.bind_assoc]
            congr 1
            funext cs'
            exact ih _ _
theorem repK_eq {β : Type} (z : List MV) (n : Nat) : ∀ (k : List MV → Option β), repK z n k = k (List.replicate n z).flatten := by
  induction n with
  | zero => intro k; rfl
  | succ n ih =>
    intro k
    change repK z n (fun r => lappK z r k) = _
    rw [ih, lappK_eq, List.replicate_succ, List.flatten_cons]
/-- A heap of the same shape with nothing in it. -/
def bare (h : Heap) : Heap := h.filt fun _ => false
theorem bare_get (h : Heap) (y : Nat) : (bare h).get y = none := by unfold bare; rw [PT.get_filt]; rfl
/-- What makes an object needs no heap. -/
theorem fresh_some {a : Fr} {h : Heap} {n : Nat} {op : Op} {r : R} (hc : cls op = .fresh) (e : effOp T a h n op = some r) : ∃ o, r = ⟨r.v, h.set n o, n + 1⟩ ∧ ∀ h', effOp T a h' n op = some ⟨r.v, h'.set n o, n + 1⟩ := by
  have base : ∀ (g : Heap → Option R), (∃ o v, ∀ h', g h' = some ⟨v, h'.set n o, n + 1⟩) → g h = some r → ∃ o, r = ⟨r.v, h.set n o, n + 1⟩ ∧ ∀ h', g h' = some ⟨r.v, h'.set n o, n + 1⟩ := by
    rintro g ⟨o, v, h1⟩ h2
    rw [h1] at h2
    obtain rfl := Option.some.inj h2
    exact ⟨o, rfl, h1⟩
  have put : ∀ (o : MObj) (v : MV) (h' : Heap), put1 h' n o v (Nat.succ n) = some ⟨v, h'.set n o, n + 1⟩ := by
    intro o v h'
    unfold put1
    rw [PT.setK_eq, fnat_eq]
  cases op <;> simp only [cls] at hc <;> first | (cases hc; done) | skip
  case alloc t =>
    refine base (fun h => effOp T a h n (.alloc t)) ?_ e
    simp only [effOp] at e ⊢
    unfold eAlloc at e ⊢
    cases ht : T.get t with
    | none => rw [ht] at e; cases e
    | some ti => exact ⟨_, _, fun h' => put _ _ h'⟩
  case box t x =>
    refine base (fun h => effOp T a h n (.box t x)) ?_ e
    simp only [effOp] at e ⊢
    cases hx : opd a x with
    | none => rw [hx] at e; cases e
    | some v =>
      rw [hx] at e
      unfold eBox at e ⊢
      simp only at e ⊢
      cases hv : v.cells with
      | none => rw [hv] at e; cases e
      | some vs => exact ⟨_, _, fun h' => put _ _ h'⟩
  case buildSlice t len ps =>
    refine base (fun h => effOp T a h n (.buildSlice t len ps)) ?_ e
    simp only [effOp] at e ⊢
    unfold eRow at e ⊢
    cases ht : rowTI T t with
    | none => rw [ht] at e; cases e
    | some te =>
      rw [ht] at e
      simp only at e ⊢
      cases hb : Nat.ble (Nat.mul len te.size) 16777216 with
      | false => rw [hb] at e; cases e
      | true =>
        rw [hb] at e
        simp only [repK_eq] at e ⊢
        rw [partsK_bind] at e
        cases hp : partsK T a t ps.toList (List.replicate len te.zero).flatten some with
        | none => rw [hp] at e; cases e
        | some cs => exact ⟨_, _, fun h' => by rw [partsK_bind, hp]; exact put _ _ h'⟩
  case makeMap t k =>
    cases k with
    | some k => cases e
    | none => exact base (fun h => effOp T a h n (.makeMap t none)) ⟨_, _, fun h' => put _ _ h'⟩ e
  case makeSlice t l c =>
    refine base (fun h => effOp T a h n (.makeSlice t l c)) ?_ e
    simp only [effOp] at e ⊢
    unfold eMake at e ⊢
    cases ht : rowTI T t with
    | none => rw [ht] at e; cases e
    | some te =>
      rw [ht] at e
      simp only at e ⊢
      cases hb : Nat.ble (Nat.succ te.bytes) 4096 with
      | false => rw [hb] at e; cases e
      | true =>
        rw [hb] at e
        simp only at e ⊢
        cases hl : opd a l with
        | none => rw [hl] at e; cases e
        | some l1 =>
          rw [hl] at e
          simp only at e ⊢
          cases hc : opd a c with
          | none => rw [hc] at e; cases e
          | some c1 =>
            rw [hc] at e
            simp only at e ⊢
            cases hl1 : natOf l1 with
            | none => rw [hl1] at e; cases e
            | some l2 =>
              rw [hl1] at e
              simp only at e ⊢
              cases hc1 : natOf c1 with
              | none => rw [hc1] at e; cases e
              | some c2 =>
                rw [hc1] at e
                simp only at e ⊢
                cases h1 : Nat.ble c2 1048576 with
                | false => rw [h1] at e; cases e
                | true =>
                  rw [h1] at e
                  simp only at e ⊢
                  cases h2 : Nat.ble l2 c2 with
                  | false => rw [h2] at e; cases e
                  | true => exact ⟨_, _, fun h' => by simp only [repK_eq]; exact put _ _ h'⟩
  case call c =>
    unfold clsCall at hc
    split at hc
    · cases hc
    · split at hc <;> cases hc
    · cases hc
end Go.Proofs.YtkeckbmhaplkpaaGreatDoor.Ln
/- Regions in any order, third part: heaps as functions; one part of a heap turned, the rest as it was. -/
namespace Go.Proofs.YtkeckbmhaplkpaaGreatDoor.Ln
open Go
variable {P : Program} {T : Types}

abbrev HF := Nat → Option MObj
def LiveG (g : HF) (y : Nat) : Prop := ∃ o, g y = some o ∧ o ≠ .dead
structure RelG (θ : Env) (g : HF) (w : World) : Prop where
  obj : ∀ y o, g y = some o → ObjIs θ y w o
  sep : ∀ y z, LiveG g y → LiveG g z → θ.blk y = θ.blk z → y = z
  lt : ∀ y, LiveG g y → θ.blk y < w.heap.size
def okG (D : Nat → Prop) (g : HF) : Prop := ∀ y o, g y = some o → D y ∧ o.ok D
theorem relG_iff {θ : Env} {h : Heap} {w : World} : Rel θ h w ↔ RelG θ h.get w :=
  ⟨fun r => ⟨r.obj, r.sep, r.lt⟩, fun r => ⟨r.obj, r.sep, r.lt⟩⟩
theorem okG_iff {D : Nat → Prop} {h : Heap} : okH D h ↔ okG D h.get := Iff.rfl
/-- A part of a heap. -/
def Part (f g : HF) : Prop := ∀ y o, f y = some o → g y = some o
theorem RelG.part {θ : Env} {f g : HF} {w : World} (hp : Part f g) (r : RelG θ g w) : RelG θ f w := by
  have live : ∀ y, LiveG f y → LiveG g y := fun y ⟨o, h1, h2⟩ => ⟨o, hp y o h1, h2⟩
  exact ⟨fun y o h => r.obj y o (hp y o h), fun y z hy hz e => r.sep y z (live y hy) (live z hz) e, fun y hy => r.lt y (live y hy)⟩
theorem RelG.env {D : Nat → Prop} {θ θ' : Env} {g : HF} {w : World} (ho : okG D g) (hs : Env.same D θ θ') (r : RelG θ g w) : RelG θ' g w := by
  have blk : ∀ y, LiveG g y → θ'.blk y = θ.blk y := fun y ⟨o, h1, _⟩ => (hs y (ho y o h1).1).1
  refine ⟨fun y o h => ObjIs.move hs (ho y o h).1 (ho y o h).2 rfl (r.obj y o h), fun y z hy hz e => ?_, fun y hy => ?_⟩
  · rw [blk y hy, blk z hz] at e; exact r.sep y z hy hz e
  · rw [blk y hy]; exact r.lt y hy
/-- One heap ahead of another. -/
def over (f g : HF) : HF := fun y => match f y with
  | some o => some o
  | none => g y
/-- Names below n as the one environment has them, the rest as the other. -/
def Env.cut (n : Nat) (θ' θ : Env) : Env where
  blk := fun y => if y < n then θ'.blk y else θ.blk y
  off := fun y => if y < n then θ'.off y else θ.off y
  cap := fun y => if y < n then θ'.cap y else θ.cap y
  sym := θ'.sym
  thick := θ'.thick
  txt := θ'.txt
theorem cut_lo (n : Nat) (θ' θ : Env) : Env.same (· < n) θ' (Env.cut n θ' θ) where
  at' := fun y hy => by
    have hy : y < n := hy
    simp [Env.cut, hy]
  txt := rfl
  sym := rfl
theorem cut_hi {n : Nat} {θ' θ : Env} {y : Nat} (hy : ¬ y < n) : (Env.cut n θ' θ).blk y = θ.blk y ∧ (Env.cut n θ' θ).off y = θ.off y ∧ (Env.cut n θ' θ).cap y = θ.cap y := by simp [Env.cut, hy]
/-- Names that stay: those below n, and those from n' on. -/
theorem cut_same {n n' : Nat} {θ θ' : Env} {K : Nat → Prop} (hs : Env.same (· < n) θ θ') (hK : ∀ y, K y → y < n ∨ n' ≤ y) (hle : n ≤ n') : Env.same K θ (Env.cut n' θ' θ) where
  at' := fun y hy => by
    rcases hK y hy with h1 | h1
    · have : y < n' := by omega
      simp only [Env.cut, this, if_true]
      exact hs y h1
    · exact cut_hi (by omega)
  txt := hs.txt
  sym := hs.sym
/-- WHAT A REGION'S STEP DOES: the part f of the heap is turned into f', the rest q stays. -/
theorem frame_step {D : Nat → Prop} {n n' : Nat} {θ θ' : Env} {h h' : Heap} {w w' : World} (hD : ∀ y, D y → y < n) (l : Leads D n θ h w n' θ' h' w') {q : HF} {K : Nat → Prop}
    (hq : okG K q) (hK : ∀ y, K y → y < n ∨ n' ≤ y) (hr : RelG θ (over h.get q) w) (hdis : ∀ y, q y ≠ none → h.get y = none) (_hdis' : ∀ y, q y ≠ none → h'.get y = none) :
    RelG (Env.cut n' θ' θ) (over h'.get q) w' ∧ Env.same K θ (Env.cut n' θ' θ) := by
  have hs := cut_same l.same hK l.le
  have lo : Env.same (Up D n n') θ' (Env.cut n' θ' θ) := (cut_lo n' θ' θ).mono fun y hy => (by
    rcases hy with h1 | h1
    · exact Nat.lt_of_lt_of_le (hD y h1) l.le
    · exact h1.2)
  have r1 : RelG (Env.cut n' θ' θ) h'.get w' := RelG.env l.ok lo (relG_iff.1 l.rel)
  have qn : ∀ y o, q y = some o → over h.get q y = some o := fun y o e => by
    unfold over; rw [hdis y (by rw [e]; simp)]; exact e
  have hlive : ∀ z, Live h z → LiveG (over h.get q) z := fun z ⟨o, h1, h2⟩ => ⟨o, by unfold over; rw [h1], h2⟩
  have qlive : ∀ y o, q y = some o → o ≠ .dead → LiveG (over h.get q) y := fun y o e hd => ⟨o, qn y o e, hd⟩
  have qk : ∀ y o, q y = some o → o ≠ .dead → w'.heap[θ.blk y]? = w.heap[θ.blk y]? := fun y o e hd => by
    refine l.kept _ (hr.lt y (qlive y o e hd)) fun z hz ez => ?_
    have := hr.sep z y (hlive z hz) (qlive y o e hd) ez
    subst this
    obtain ⟨o', h1, _⟩ := hz
    rw [hdis z (by rw [e]; simp)] at h1
    cases h1
  have cases' : ∀ y o, over h'.get q y = some o → h'.get y = some o ∨ (h'.get y = none ∧ q y = some o) := fun y o e => by
    unfold over at e
    split at e
    · rename_i o' h1
      exact .inl (by rw [h1]; exact e)
    · rename_i h1
      exact .inr ⟨h1, e⟩
  have apart : ∀ y z, Live h' y → (∃ o, q z = some o ∧ o ≠ .dead) → (Env.cut n' θ' θ).blk y ≠ (Env.cut n' θ' θ).blk z := by
    rintro y z hy ⟨o, hz, hd⟩ e
    obtain ⟨oy, hy1, hy2⟩ := hy
    rw [(lo y (l.ok y oy hy1).1).1, (hs z (hq z o hz).1).1] at e
    rcases l.born y ⟨oy, hy1, hy2⟩ with ⟨x, hx, ex⟩ | hge
    · have := hr.sep x z (hlive x hx) (qlive z o hz hd) (ex.trans e)
      subst this
      obtain ⟨o', h1, _⟩ := hx
      rw [hdis x (by rw [hz]; simp)] at h1
      cases h1
    · have := hr.lt z (qlive z o hz hd)
      omega
  refine ⟨⟨fun y o e => ?_, fun y z hy hz e => ?_, fun y hy => ?_⟩, hs⟩
  · rcases cases' y o e with h1 | ⟨_, h1⟩
    · exact r1.obj y o h1
    · by_cases hd : o = .dead
      · subst hd; trivial
      · exact ObjIs.move hs (hq y o h1).1 (hq y o h1).2 (qk y o h1 hd) (hr.obj y o (qn y o h1))
  · obtain ⟨o1, y1, y2⟩ := hy
    obtain ⟨o2, z1, z2⟩ := hz
    rcases cases' y o1 y1 with h1 | ⟨_, h1⟩ <;> rcases cases' z o2 z1 with h2 | ⟨_, h2⟩
    · exact r1.sep y z ⟨o1, h1, y2⟩ ⟨o2, h2, z2⟩ e
    · exact absurd e (apart y z ⟨o1, h1, y2⟩ ⟨o2, h2, z2⟩)
    · exact absurd e.symm (apart z y ⟨o2, h2, z2⟩ ⟨o1, h1, y2⟩)
    · rw [(hs y (hq y o1 h1).1).1, (hs z (hq z o2 h2).1).1] at e
      exact hr.sep y z (qlive y o1 h1 y2) (qlive z o2 h2 z2) e
  · obtain ⟨o1, y1, y2⟩ := hy
    rcases cases' y o1 y1 with h1 | ⟨_, h1⟩
    · exact r1.lt y ⟨o1, h1, y2⟩
    · rw [(hs y (hq y o1 h1).1).1]
      exact Nat.lt_of_lt_of_le (hr.lt y (qlive y o1 h1 y2)) l.size
end Go.Proofs.YtkeckbmhaplkpaaGreatDoor.Ln
/- Regions in any order, fourth part: from a region's start; the evaluator's steps, one by one. -/
namespace Go.Proofs.YtkeckbmhaplkpaaGreatDoor.Ln
open Go
variable {P : Program} {T : Types}

structure From (n : Nat) (θ : Env) (h : Heap) (w : World) (θ' : Env) (g' : HF) (w' : World) : Prop where
  same : Env.same (· < n) θ θ'
  os : w'.os = w.os
  tape : w'.tape = w.tape
  output : w'.output = w.output
  size : w.heap.size ≤ w'.heap.size
  kept : ∀ b, b < w.heap.size → (∀ y, Live h y → θ.blk y ≠ b) → w'.heap[b]? = w.heap[b]?
  born : ∀ y, LiveG g' y → (∃ z, Live h z ∧ θ.blk z = θ'.blk y) ∨ w.heap.size ≤ θ'.blk y
theorem From.refl {n : Nat} {θ : Env} {h : Heap} {w : World} : From n θ h w θ h.get w :=
  ⟨Env.same.refl _ _, rfl, rfl, rfl, Nat.le_refl _, fun _ _ _ => rfl, fun y hy => .inl ⟨y, hy, rfl⟩⟩
theorem From.step {D : Nat → Prop} {n0 : Nat} {θ0 : Env} {h0 : Heap} {w0 : World} {n n' : Nat} {θ θ' : Env} {h h' : Heap} {w w' : World} {q : HF} {K : Nat → Prop} (hn : n0 ≤ n)
    (f : From n0 θ0 h0 w0 θ (over h.get q) w) (hD : ∀ y, D y → y < n) (l : Leads D n θ h w n' θ' h' w') (hq : okG K q) (hK : ∀ y, K y → y < n ∨ n' ≤ y) (hdis : ∀ y, q y ≠ none → h.get y = none) :
    From n0 θ0 h0 w0 (Env.cut n' θ' θ) (over h'.get q) w' := by
  have hs := cut_same l.same hK l.le
  have lo : Env.same (Up D n n') θ' (Env.cut n' θ' θ) := (cut_lo n' θ' θ).mono fun y hy => (by
    rcases hy with h1 | h1
    · exact Nat.lt_of_lt_of_le (hD y h1) l.le
    · exact h1.2)
  have hlive : ∀ z, Live h z → LiveG (over h.get q) z := fun z ⟨o, h1, h2⟩ => ⟨o, by unfold over; rw [h1], h2⟩
  refine ⟨f.same.trans ((l.same.mono (fun y hy => Nat.lt_of_lt_of_le hy hn)).trans ((cut_lo n' θ' θ).mono (fun y hy => Nat.lt_of_lt_of_le (Nat.lt_of_lt_of_le hy hn) l.le)) fun _ hy => hy) fun _ hy => hy, l.os.trans f.os, l.tape.trans f.tape, l.output.trans f.output, Nat.le_trans f.size l.size, fun b hb hne => ?_, fun y hy => ?_⟩
  · refine (l.kept b (Nat.lt_of_lt_of_le hb f.size) fun z hz e => ?_).trans (f.kept b hb hne)
    rcases f.born z (hlive z hz) with ⟨x, hx, ex⟩ | hge
    · exact hne x hx (ex.trans e)
    · omega
  · obtain ⟨o, e, hd⟩ := hy
    unfold over at e
    split at e
    · rename_i o' h1
      obtain rfl := Option.some.inj e
      have hy : Live h' y := ⟨o', h1, hd⟩
      rw [(lo y (l.ok y o' h1).1).1]
      rcases l.born y hy with ⟨x, hx, ex⟩ | hge
      · rcases f.born x (hlive x hx) with ⟨z, hz, ez⟩ | hge
        · exact .inl ⟨z, hz, ez.trans ex⟩
        · exact .inr (by omega)
      · exact .inr (Nat.le_trans f.size hge)
    · have : LiveG (over h.get q) y := ⟨o, by unfold over; rw [hdis y (by rw [e]; simp)]; exact e, hd⟩
      rw [(hs y (hq y o e).1).1]
      exact f.born y this

/-! ### The evaluator's steps -/
noncomputable def isE (op : Op) : Bool := match cls op with
  | .eff => true
  | .call _ _ => true
  | _ => false
/-- What an effect yields. -/
noncomputable def effV (T : Types) (s : Fns) (a : Fr) (h : Heap) (n : Nat) (op : Op) : Option R := match cls op with
  | .call c x => callR s a h n c (opd a x)
  | _ => effOp T a h n op
noncomputable def relH (mask : Nat) (ps : List Pd) (h : Heap) : Heap := match ps with
  | [] => h
  | p :: r => match bitOf mask p.i with
    | true => relH mask r (h.set p.y p.o)
    | false => relH mask r h
theorem relK_eq {β : Type} (mask : Nat) (ps : List Pd) : ∀ (h : Heap) (k : Heap → List Pd → β), relK mask ps h k = k (relH mask ps h) (ps.filter fun p => !bitOf mask p.i) := by
  induction ps with
  | nil => intro h k; rfl
  | cons p r ih =>
    intro h k
    change relPut (bitOf mask p.i) p h (fun h => relK mask r h k) (relK mask r h fun h ps => k h (p :: ps)) = _
    unfold relPut
    cases hb : bitOf mask p.i
    · simp only
      rw [ih]
      simp [relH, hb]
    · simp only
      rw [PT.setK_eq, ih]
      simp [relH, hb]
theorem relAllK_eq {β : Type} (ps : List Pd) : ∀ (h : Heap) (k : Heap → β), relAllK ps h k = k (ps.foldl (fun h p => h.set p.y p.o) h) := by
  induction ps with
  | nil => intro h k; rfl
  | cons p r ih =>
    intro h k
    change h.setK p.y p.o (fun h => relAllK r h k) = _
    rw [PT.setK_eq, ih]
    rfl
inductive DS (T : Types) (s : Fns) (all : List Oper) (i : Nat) (o : Oper) (p : Pl) (t : Dt) : Dt → Prop
  | no : wants t.a all o = some false → isE o.op = false → DS T s all i o p t ⟨putFr t.a o.dst .undef, t.h, t.n, t.ps, t.hs, t.rs⟩
  | noE : wants t.a all o = some false → isE o.op = true → DS T s all i o p t ⟨putFr t.a o.dst .undef, t.h, t.n, t.ps, t.h :: t.hs, t.rs⟩
  | pure (v : MV) : wants t.a all o = some true → cls o.op = .pure → pureOp T t.a t.h o.op = some v → DS T s all i o p t ⟨putFr t.a o.dst v, t.h, t.n, t.ps, t.hs, dRead p o v t⟩
  | fresh (r : R) (ob : MObj) : wants t.a all o = some true → cls o.op = .fresh → effOp T t.a t.h t.n o.op = some r → r.h.get t.n = some ob → DS T s all i o p t ⟨putFr t.a o.dst r.v, t.h, r.n, ⟨i, t.n, ob⟩ :: t.ps, t.hs, t.rs⟩
  | eff (r : R) : wants t.a all o = some true → isE o.op = true → effV T s t.a (relH p.mask t.ps t.h) t.n o.op = some r → t.n ≤ r.n → DS T s all i o p t ⟨putFr t.a o.dst r.v, r.h, r.n, t.ps.filter fun q => !bitOf p.mask q.i, t.h :: t.hs, t.rs⟩
theorem kPutN_some {n : Nat} {a : Fr} {o : Oper} {r : Option R} {k : Fr → Heap → Nat → Option X} {x : X} (h : kPutN n a o r k = some x) : ∃ q, r = some q ∧ n ≤ q.n ∧ k (putFr a o.dst q.v) q.h q.n = some x := by
  unfold kPutN at h
  split at h
  · cases h
  unfold kPutN1 at h
  split at h
  · cases h
  · rename_i hb
    rw [natBle, decide_eq_true_eq] at hb
    rw [putK_put] at h
    exact ⟨_, rfl, hb, h⟩
theorem dWant_some {s : Fns} {all : List Oper} {i : Nat} {o : Oper} {p : Pl} {t : Dt} {k : Dt → Option X} {x : X} (e : dWant T s (wants t.a all o) i o p t k = some x) : ∃ t', DS T s all i o p t t' ∧ k t' = some x := by
  unfold dWant at e
  split at e
  · cases e
  rename_i b hb
  split at e
  · unfold dStep at e
    split at e
    · rename_i hc
      unfold dPure at e
      split at e
      · cases e
      rename_i v hv
      rw [putK_put] at e
      exact ⟨_, .pure v hb hc hv, e⟩
    · rename_i hc
      unfold dFresh at e
      split at e
      · cases e
      rename_i r hr
      unfold dFresh1 at e
      split at e
      · cases e
      rename_i ob hob
      rw [putK_put] at e
      exact ⟨_, .fresh r ob hb hc hr hob, e⟩
    · rename_i hc
      rw [relK_eq] at e
      obtain ⟨r, h1, hle, h2⟩ := kPutN_some e
      exact ⟨_, .eff r hb (by unfold isE; rw [hc]) (by unfold effV; rw [hc]; exact h1) hle, h2⟩
    · rename_i c y hc
      rw [relK_eq] at e
      obtain ⟨r, h1, hle, h2⟩ := kPutN_some e
      exact ⟨_, .eff r hb (by unfold isE; rw [hc]) (by unfold effV; rw [hc]; exact h1) hle, h2⟩
  · unfold dNot at e
    split at e
    · rename_i hc
      rw [putK_put] at e
      exact ⟨_, .no hb (by unfold isE; rw [hc]), e⟩
    · rename_i hc
      rw [putK_put] at e
      exact ⟨_, .no hb (by unfold isE; rw [hc]), e⟩
    · rename_i h1 h2
      rw [putK_put] at e
      refine ⟨_, .noE hb ?_, e⟩
      unfold isE
      cases hc : cls o.op with
      | pure => exact absurd hc h1
      | fresh => exact absurd hc h2
      | eff => rfl
      | call c x => rfl
/-- A run of the evaluator through a region, step by step. -/
theorem dOps_some {s : Fns} {all : List Oper} (l : List Oper) : ∀ (ps : List Pl) (i : Nat) (t : Dt) (x : X), dOps T s all l ps i t = some x →
    ∃ tr : Nat → Dt, tr 0 = t ∧ dEnd T (tr l.length) = some x ∧ l.length ≤ ps.length ∧ ∀ j o p, l[j]? = some o → ps[j]? = some p → DS T s all (i + j) o p (tr j) (tr (j + 1)) := by
  induction l with
  | nil => exact fun ps i t x e => ⟨fun _ => t, rfl, e, Nat.zero_le _, fun j o p h => by simp at h⟩
  | cons o r ih =>
    intro ps i t x e
    cases ps with
    | nil => cases e
    | cons p ps =>
      obtain ⟨t', h1, h2⟩ := dWant_some e
      obtain ⟨tr, e1, e2, e3, e4⟩ := ih ps (Nat.succ i) t' x h2
      refine ⟨fun j => match j with | 0 => t | j + 1 => tr j, rfl, e2, by simpa using e3, fun j o' p' ho hp => ?_⟩
      cases j with
      | zero =>
        obtain rfl := Option.some.inj ho
        obtain rfl := Option.some.inj hp
        simp only [e1]
        exact h1
      | succ j =>
        have := e4 j o' p' ho hp
        rwa [show Nat.succ i + j = i + (j + 1) by omega] at this
end Go.Proofs.YtkeckbmhaplkpaaGreatDoor.Ln
/- Regions in any order, fifth part: what a plan must be; what the evaluator's run through a region leaves where. -/
namespace Go.Proofs.YtkeckbmhaplkpaaGreatDoor.Ln
open Go
variable {P : Program} {T : Types}

/-- How many effects stand ahead of an operation. -/
noncomputable def cE (ops : Array Oper) : Nat → Nat
  | 0 => 0
  | i + 1 => cE ops i + (if (ops[i]?).any (fun o => isE o.op) then 1 else 0)
structure PlanOk (ops : Array Oper) (pl : List Pl) : Prop where
  len : pl.length = ops.size
  back : ∀ (i : Nat) (o : Oper), ops[i]? = some o → ∀ e ∈ o.after, Region.binds .any e = true → e.on < i
  closed : ∀ (i : Nat) (o : Oper) (p : Pl), ops[i]? = some o → pl[i]? = some p → ∀ j, bitOf p.mask j = true → ∃ e ∈ o.after, Region.binds .any e = true ∧ (e.on = j ∨ ∃ p' : Pl, pl[e.on]? = some p' ∧ bitOf p'.mask j = true)
  dst : ∀ (i j : Nat) (oi oj : Oper) (d : Nat), ops[i]? = some oi → ops[j]? = some oj → oi.dst = some d → oj.dst = some d → i = j
  opd : ∀ (j : Nat) (oj : Oper) (q : Nat) (oq : Oper) (d : Nat), ops[j]? = some oj → ops[q]? = some oq → oq.dst = some d → d ∈ oj.looksAt ops → q ≠ j →
    (q < j ∧ ∃ p : Pl, pl[j]? = some p ∧ bitOf p.mask q = true) ∨ (j < q ∧ ∃ p : Pl, pl[q]? = some p ∧ bitOf p.mask j = true)
  chain : ∀ (i j : Nat) (oi oj : Oper) (p : Pl), i < j → ops[i]? = some oi → ops[j]? = some oj → isE oi.op = true → isE oj.op = true → pl[j]? = some p → bitOf p.mask i = true
  read : ∀ (i : Nat) (oi : Oper) (p : Pl), ops[i]? = some oi → pl[i]? = some p → cls oi.op = .pure → reads oi.op = true → ∀ (e : Nat) (oe : Oper) (pe : Pl), ops[e]? = some oe → isE oe.op = true → pl[e]? = some pe →
    (cE ops e < (p.rd.getD (cE ops i, cE ops i)).1 → bitOf p.mask e = true) ∧ ((p.rd.getD (cE ops i, cE ops i)).2 ≤ cE ops e → bitOf pe.mask i = true)
  low : ∀ (i : Nat) (p : Pl), pl[i]? = some p → ∀ j, bitOf p.mask j = true → j < i
  trans : ∀ (i j : Nat) (p p' : Pl), pl[i]? = some p → bitOf p.mask j = true → pl[j]? = some p' → ∀ l, bitOf p'.mask l = true → bitOf p.mask l = true
  top : ∀ (i : Nat) (p : Pl), pl[i]? = some p → (p.rd.getD (cE ops i, cE ops i)).1 ≤ cE ops ops.size
/-- The evaluator's run through a region. -/
structure Run (T : Types) (s : Fns) (ops : Array Oper) (pl : List Pl) (tr : Nat → Dt) : Prop where
  plan : PlanOk ops pl
  ps0 : (tr 0).ps = []
  hs0 : (tr 0).hs = []
  fin : chkAll T (tr ops.size).rs ((tr ops.size).h :: (tr ops.size).hs) (llen (tr ops.size).hs) = true
  step : ∀ (j : Nat) (o : Oper) (p : Pl), ops[j]? = some o → pl[j]? = some p → DS T s ops.toList j o p (tr j) (tr (j + 1))
section
variable {s : Fns} {ops : Array Oper} {pl : List Pl} {tr : Nat → Dt}
theorem Run.pl_some (R : Run T s ops pl tr) {j : Nat} {o : Oper} (h : ops[j]? = some o) : ∃ p : Pl, pl[j]? = some p := by
  have := (Array.getElem?_eq_some_iff.1 h).1
  exact ⟨pl[j]'(by rw [R.plan.len]; exact this), List.getElem?_eq_getElem _⟩
theorem Run.n_le (R : Run T s ops pl tr) {j : Nat} {o : Oper} (h : ops[j]? = some o) : (tr j).n ≤ (tr (j + 1)).n := by
  obtain ⟨p, hp⟩ := R.pl_some h
  have := R.step j o p h hp
  generalize tr (j + 1) = t' at this
  cases this with
  | no => exact Nat.le_refl _
  | noE => exact Nat.le_refl _
  | pure v => exact Nat.le_refl _
  | fresh r ob _ hc hr _ =>
    obtain ⟨o, h1, _⟩ := fresh_some hc hr
    show (tr j).n ≤ r.n
    rw [h1]
    exact Nat.le_succ _
  | eff r _ _ _ hle => exact hle
theorem Run.n_mono (R : Run T s ops pl tr) {i j : Nat} (hij : i ≤ j) (hj : j ≤ ops.size) : (tr i).n ≤ (tr j).n := by
  induction j with
  | zero => rw [Nat.le_zero.1 hij]; exact Nat.le_refl _
  | succ j ih =>
    rcases Nat.lt_or_ge i (j + 1) with h | h
    · exact Nat.le_trans (ih (by omega) (by omega)) (R.n_le (Array.getElem?_eq_getElem (by omega)))
    · rw [Nat.le_antisymm hij h]; exact Nat.le_refl _
theorem putFr_get  {a : Fr} {dst : Option Nat} {v u : MV} {t : Nat} (h : (putFr a dst v).get t = some u) : (dst = some t ∧ u = v) ∨ (dst ≠ some t ∧ a.get t = some u) := by
  cases dst with
  | none => exact .inr ⟨by simp, h⟩
  | some d =>
    rcases PT.get_set h with ⟨rfl, rfl⟩ | ⟨hne, h'⟩
    · exact .inl ⟨rfl, rfl⟩
    · exact .inr ⟨fun e => hne (Option.some.inj e).symm, h'⟩
/-- What a step leaves in the frame. -/
theorem Run.a_step (R : Run T s ops pl tr) {j : Nat} {o : Oper} (h : ops[j]? = some o) : ∃ v, (tr (j + 1)).a = putFr (tr j).a o.dst v := by
  obtain ⟨p, hp⟩ := R.pl_some h
  have := R.step j o p h hp
  generalize tr (j + 1) = t' at this
  cases this <;> exact ⟨_, rfl⟩
/-- A slot that no operation between writes. -/
theorem Run.a_keep (R : Run T s ops pl tr) {i j : Nat} {t : Nat} {u : MV} (hij : i ≤ j) (hj : j ≤ ops.size) (hw : ∀ q o, i ≤ q → q < j → ops[q]? = some o → o.dst ≠ some t) (h : (tr j).a.get t = some u) : (tr i).a.get t = some u := by
  induction j with
  | zero => rw [Nat.le_zero.1 hij]; exact h
  | succ j ih =>
    rcases Nat.lt_or_ge i (j + 1) with h1 | h1
    · have ho : ops[j]? = some ops[j] := Array.getElem?_eq_getElem (by omega)
      obtain ⟨v, hv⟩ := R.a_step ho
      rw [hv] at h
      rcases putFr_get h with ⟨e, _⟩ | ⟨_, h2⟩
      · exact absurd e (hw j _ (by omega) (by omega) ho)
      · exact ih (by omega) (by omega) (fun q o a b c => hw q o a (by omega) c) h2
    · rw [Nat.le_antisymm hij h1]; exact h
/-- Where what an operation looks at comes from: an operation ahead of it, or the region's start. -/
theorem Run.a_from (R : Run T s ops pl tr) {j : Nat} {oj : Oper} (hj : ops[j]? = some oj) {t : Nat} (ht : t ∈ oj.looksAt ops) {u : MV} (h : (tr j).a.get t = some u) :
    (∃ (q : Nat) (oq : Oper) (p : Pl), q < j ∧ ops[q]? = some oq ∧ oq.dst = some t ∧ pl[j]? = some p ∧ bitOf p.mask q = true ∧ (tr (q + 1)).a.get t = some u) ∨
    ((∀ (q : Nat) (oq : Oper), ops[q]? = some oq → oq.dst = some t → q = j ∨ (j < q ∧ ∃ p : Pl, pl[q]? = some p ∧ bitOf p.mask j = true)) ∧ (tr 0).a.get t = some u) := by
  have hjs : j < ops.size := (Array.getElem?_eq_some_iff.1 hj).1
  by_cases hq : ∃ (q : Nat) (oq : Oper), q < j ∧ ops[q]? = some oq ∧ oq.dst = some t
  · obtain ⟨q, oq, h1, h2, h3⟩ := hq
    rcases R.plan.opd j oj q oq t hj h2 h3 ht (by omega) with ⟨_, p, hp, hb⟩ | ⟨h4, _⟩
    · refine .inl ⟨q, oq, p, h1, h2, h3, hp, hb, R.a_keep (by omega) (by omega) (fun r o h5 h6 h7 h8 => ?_) h⟩
      have := R.plan.dst q r oq o t h2 h7 h3 h8
      omega
    · omega
  · refine .inr ⟨fun q oq h2 h3 => ?_, R.a_keep (Nat.zero_le _) (by omega) (fun r o _ h6 h7 h8 => hq ⟨r, o, h6, h7, h8⟩) h⟩
    by_cases e : q = j
    · exact .inl e
    · rcases R.plan.opd j oj q oq t hj h2 h3 ht e with ⟨h4, _⟩ | h4
      · exact absurd ⟨q, oq, h4, h2, h3⟩ hq
      · exact .inr h4
end
end Go.Proofs.YtkeckbmhaplkpaaGreatDoor.Ln
/- Regions in any order, sixth part: effects by number, heaps and reads along a run, what is pending. -/
namespace Go.Proofs.YtkeckbmhaplkpaaGreatDoor.Ln
open Go
variable {P : Program} {T : Types}

/-! ### Values held against one another -/
theorem mvEq1_eq {a b : MV} (h : mvEq1 a b = true) : a = b := by
  cases a <;> cases b <;> simp only [mvEq1] at h <;> first | (cases h; done) | rfl | skip
  case bool.bool x y => cases x <;> cases y <;> first | rfl | (cases h; done)
  case int.int q n q' m =>
    simp only [Bool.and_eq_true] at h
    rw [kindEq_eq h.1, of_decide_eq_true ((intEq_eq n m).symm.trans h.2)]
  case str.str l m => rw [of_decide_eq_true ((strEq_eq l m).symm.trans h)]
  case ptr.ptr y o z p =>
    simp only [Bool.and_eq_true] at h
    rw [Nat.eq_of_beq_eq_true h.1, Nat.eq_of_beq_eq_true h.2]
  case slice.slice y o n c z p m d =>
    simp only [Bool.and_eq_true] at h
    rw [Nat.eq_of_beq_eq_true h.1, Nat.eq_of_beq_eq_true h.2.1, Nat.eq_of_beq_eq_true h.2.2.1]
    have := h.2.2.2
    cases c <;> cases d <;> simp only [capEq] at this <;> first | (cases this; done) | skip
    · rw [Nat.eq_of_beq_eq_true this]
    · simp only [Bool.and_eq_true] at this
      rw [Nat.eq_of_beq_eq_true this.1, Nat.eq_of_beq_eq_true this.2]
  case map.map y z => rw [Nat.eq_of_beq_eq_true h]
  case sym.sym y z => rw [Nat.eq_of_beq_eq_true h]
  case lin.lin y lo hi c z lo' hi' d =>
    simp only [Bool.and_eq_true] at h
    obtain ⟨rfl, rfl, rfl⟩ := sameL_ok h.1
    rw [of_decide_eq_true ((intEq_eq c d).symm.trans h.2)]
  case txt.txt t u => rw [txtEq_ok h]
  case tsl.tsl y t z u =>
    simp only [Bool.and_eq_true] at h
    rw [Nat.eq_of_beq_eq_true h.1, txtEq_ok h.2]
  case num.num y m c z q d =>
    simp only [Bool.and_eq_true] at h
    rw [Nat.eq_of_beq_eq_true h.1, Nat.eq_of_beq_eq_true h.2.1, Nat.eq_of_beq_eq_true h.2.2]
theorem mvsEq_eq {a : List MV} : ∀ {b : List MV}, mvsEq a b = true → a = b := by
  induction a with
  | nil =>
    intro b h
    cases b with
    | nil => rfl
    | cons y r => cases h
  | cons x l ih =>
    intro b h
    cases b with
    | nil => cases h
    | cons y r =>
      change Bool.and (mvEq1 x y) (mvsEq l r) = true at h
      simp only [Bool.and_eq_true] at h
      rw [mvEq1_eq h.1, ih h.2]
theorem mvEq_eq {a b : MV} (h : mvEq a b = true) : a = b := by
  cases a <;> simp only [mvEq] at h <;> first | exact mvEq1_eq h | skip
  case agg l =>
    cases b <;> simp only at h <;> first | (cases h; done) | skip
    rw [mvsEq_eq h]
  case tuple l =>
    cases b <;> simp only at h <;> first | (cases h; done) | skip
    rw [mvsEq_eq h]
  case func f l c =>
    cases b <;> simp only at h <;> first | (cases h; done) | skip
    simp only [Bool.and_eq_true] at h
    rw [Nat.eq_of_beq_eq_true h.1, mvsEq_eq h.2.1, mvsEq_eq h.2.2]
theorem chk_some {h : Heap} {k : Nat} {rs : List Rd} (e : chk T rs h k = true) : ∀ r ∈ rs, r.lo ≤ k → k ≤ r.hi → pureOp T r.a h r.op = some r.v := by
  induction rs with
  | nil => intro r hr; cases hr
  | cons x rs ih =>
    change Bool.and (chk1 T x h (Bool.and (Nat.ble x.lo k) (Nat.ble k x.hi))) (chk T rs h k) = true at e
    simp only [Bool.and_eq_true] at e
    intro r hr h1 h2
    rcases List.mem_cons.1 hr with rfl | hr
    · have e1 := e.1
      rw [natBle, natBle, decide_eq_true h1, decide_eq_true h2] at e1
      change mvIs r.v (pureOp T r.a h r.op) = true at e1
      unfold mvIs at e1
      split at e1
      · cases e1
      · rename_i u hu
        rw [hu, mvEq_eq e1]
    · exact ih e.2 r hr h1 h2
theorem chkAll_some {rs : List Rd} {hs : List Heap} : ∀ {k : Nat}, chkAll T rs hs k = true → ∀ (p : Nat) (h : Heap), hs[p]? = some h → chk T rs h (k - p) = true := by
  induction hs with
  | nil => intro k _ p h hp; simp at hp
  | cons x r ih =>
    intro k e p h hp
    change Bool.and (chk T rs x k) (chkAll T rs r (Nat.pred k)) = true at e
    simp only [Bool.and_eq_true] at e
    cases p with
    | zero =>
      obtain rfl := Option.some.inj hp
      exact e.1
    | succ p =>
      have := ih e.2 p h (by simpa using hp)
      rwa [show Nat.pred k - p = k - (p + 1) by simp [Nat.pred_eq_sub_one]; omega] at this

/-! ### Effects by number -/
section
variable {ops : Array Oper}
theorem cE_E {i : Nat} {o : Oper} (ho : ops[i]? = some o) (he : isE o.op = true) : cE ops (i + 1) = cE ops i + 1 := by
  simp [cE, ho, he]
theorem cE_N {i : Nat} {o : Oper} (ho : ops[i]? = some o) (he : isE o.op = false) : cE ops (i + 1) = cE ops i := by
  simp [cE, ho, he]
theorem cE_mono {i j : Nat} (h : i ≤ j) : cE ops i ≤ cE ops j := by
  induction j with
  | zero => rw [Nat.le_zero.1 h]; exact Nat.le_refl _
  | succ j ih =>
    rcases Nat.lt_or_ge i (j + 1) with h1 | h1
    · exact Nat.le_trans (ih (by omega)) (by simp only [cE]; omega)
    · rw [Nat.le_antisymm h h1]; exact Nat.le_refl _
theorem cE_lt {e j : Nat} {o : Oper} (h : e < j) (ho : ops[e]? = some o) (he : isE o.op = true) : cE ops e < cE ops j := by
  have := cE_mono (ops := ops) (show e + 1 ≤ j by omega)
  rw [cE_E ho he] at this
  omega
theorem cE_at {k : Nat} : ∀ {j : Nat}, j ≤ ops.size → k < cE ops j → ∃ (e : Nat) (o : Oper), e < j ∧ ops[e]? = some o ∧ isE o.op = true ∧ cE ops e = k := by
  intro j
  induction j with
  | zero => intro _ h; simp [cE] at h
  | succ j ih =>
    intro hj h
    have ho : ops[j]? = some ops[j] := Array.getElem?_eq_getElem (by omega)
    cases he : isE ops[j].op
    · rw [cE_N ho he] at h
      obtain ⟨e, o, h1, h2⟩ := ih (by omega) h
      exact ⟨e, o, by omega, h2⟩
    · rw [cE_E ho he] at h
      by_cases hk : k < cE ops j
      · obtain ⟨e, o, h1, h2⟩ := ih (by omega) hk
        exact ⟨e, o, by omega, h2⟩
      · exact ⟨j, _, by omega, ho, he, by omega⟩
theorem cE_idx {k : Nat} (h : k ≤ cE ops ops.size) : ∃ i, i ≤ ops.size ∧ cE ops i = k := by
  rcases Nat.lt_or_ge k (cE ops ops.size) with h1 | h1
  · obtain ⟨e, o, h2, _, _, h3⟩ := cE_at (Nat.le_refl _) h1
    exact ⟨e, by omega, h3⟩
  · exact ⟨ops.size, Nat.le_refl _, by omega⟩
end

/-! ### Along a run -/
/-- An operation made an object. -/
def Made (ops : Array Oper) (tr : Nat → Dt) (f y : Nat) (ob : MObj) : Prop :=
  ∃ o, ops[f]? = some o ∧ cls o.op = .fresh ∧ (tr (f + 1)).ps = ⟨f, y, ob⟩ :: (tr f).ps ∧ y = (tr f).n ∧ (tr (f + 1)).n = (tr f).n + 1
/-- One of the first k effects, a wanted one, put an object into the heap. -/
def Freed (ops : Array Oper) (pl : List Pl) (tr : Nat → Dt) (f k : Nat) : Prop :=
  ∃ (e : Nat) (o : Oper) (p : Pl), ops[e]? = some o ∧ pl[e]? = some p ∧ isE o.op = true ∧ wants (tr e).a ops.toList o = some true ∧ bitOf p.mask f = true ∧ cE ops e < k
theorem Freed.mono {ops : Array Oper} {pl : List Pl} {tr : Nat → Dt} {f k k' : Nat} (h : k ≤ k') (e : Freed ops pl tr f k) : Freed ops pl tr f k' := by
  obtain ⟨e, o, p, h1, h2, h3, h4, h5, h6⟩ := e
  exact ⟨e, o, p, h1, h2, h3, h4, h5, by omega⟩
section
variable {s : Fns} {ops : Array Oper} {pl : List Pl} {tr : Nat → Dt}
theorem Run.h_keep (R : Run T s ops pl tr) {i j : Nat} (hij : i ≤ j) (hj : j ≤ ops.size) (h : cE ops i = cE ops j) : (tr j).h = (tr i).h := by
  induction j with
  | zero => rw [Nat.le_zero.1 hij]
  | succ j ih =>
    rcases Nat.lt_or_ge i (j + 1) with h1 | h1
    · have ho : ops[j]? = some ops[j] := Array.getElem?_eq_getElem (by omega)
      obtain ⟨p, hp⟩ := R.pl_some ho
      have m1 := cE_mono (ops := ops) (show i ≤ j by omega)
      have m2 := cE_mono (ops := ops) (show j ≤ j + 1 by omega)
      have hs := R.step j _ p ho hp
      cases he : isE ops[j].op
      · rw [← ih (by omega) (by omega) (by omega)]
        generalize tr (j + 1) = t' at hs
        cases hs with
        | no => rfl
        | noE => rfl
        | pure v => rfl
        | fresh r ob => rfl
        | eff r _ h2 => rw [he] at h2; cases h2
      · have := cE_E ho he
        omega
    · rw [Nat.le_antisymm hij h1]
theorem Run.h_same (R : Run T s ops pl tr) {i j : Nat} (hi : i ≤ ops.size) (hj : j ≤ ops.size) (h : cE ops i = cE ops j) : (tr j).h = (tr i).h := by
  rcases Nat.le_total i j with h1 | h1
  · exact R.h_keep h1 hj h
  · exact (R.h_keep h1 hi h.symm).symm
theorem Run.hs_at (R : Run T s ops pl tr) {j : Nat} (hj : j ≤ ops.size) : (tr j).hs.length = cE ops j ∧ ∀ i, i ≤ j → ((tr j).h :: (tr j).hs)[cE ops j - cE ops i]? = some (tr i).h := by
  induction j with
  | zero =>
    rw [R.hs0]
    refine ⟨rfl, fun i hi => ?_⟩
    rw [Nat.le_zero.1 hi, Nat.sub_self]; rfl
  | succ j ih =>
    have ho : ops[j]? = some ops[j] := Array.getElem?_eq_getElem (by omega)
    obtain ⟨p, hp⟩ := R.pl_some ho
    have hs := R.step j _ p ho hp
    obtain ⟨i1, i2⟩ := ih (by omega)
    cases he : isE ops[j].op
    · have hc := cE_N ho he
      have : (tr (j + 1)).h = (tr j).h ∧ (tr (j + 1)).hs = (tr j).hs := by
        generalize tr (j + 1) = t' at hs
        cases hs with
        | no => exact ⟨rfl, rfl⟩
        | noE _ h2 => rw [he] at h2; cases h2
        | pure v => exact ⟨rfl, rfl⟩
        | fresh r ob => exact ⟨rfl, rfl⟩
        | eff r _ h2 => rw [he] at h2; cases h2
      rw [this.1, this.2, hc]
      refine ⟨i1, fun i hi => ?_⟩
      rcases Nat.lt_or_ge i (j + 1) with h1 | h1
      · exact i2 i (by omega)
      · rw [Nat.le_antisymm hi h1, hc, this.1]; simp
    · have hc := cE_E ho he
      have : (tr (j + 1)).hs = (tr j).h :: (tr j).hs := by
        generalize tr (j + 1) = t' at hs
        cases hs with
        | no _ h2 => rw [he] at h2; cases h2
        | noE => rfl
        | pure v _ h2 => unfold isE at he; rw [h2] at he; cases he
        | fresh r ob _ h2 => unfold isE at he; rw [h2] at he; cases he
        | eff r => rfl
      rw [this, hc]
      refine ⟨by simp [i1], fun i hi => ?_⟩
      rcases Nat.lt_or_ge i (j + 1) with h1 | h1
      · have m1 := cE_mono (ops := ops) (show i ≤ j by omega)
        rw [show cE ops j + 1 - cE ops i = (cE ops j - cE ops i) + 1 by omega, List.getElem?_cons_succ]
        exact i2 i (by omega)
      · rw [Nat.le_antisymm hi h1, hc]; simp
theorem Run.rs_keep (R : Run T s ops pl tr) {i j : Nat} (hij : i ≤ j) (hj : j ≤ ops.size) {r : Rd} (h : r ∈ (tr i).rs) : r ∈ (tr j).rs := by
  induction j with
  | zero => rwa [Nat.le_zero.1 hij] at h
  | succ j ih =>
    rcases Nat.lt_or_ge i (j + 1) with h1 | h1
    · have ho : ops[j]? = some ops[j] := Array.getElem?_eq_getElem (by omega)
      obtain ⟨p, hp⟩ := R.pl_some ho
      have hs := R.step j _ p ho hp
      have h2 := ih (by omega) (by omega)
      generalize tr (j + 1) = t' at hs
      cases hs with
      | no => exact h2
      | noE => exact h2
      | pure v =>
        show r ∈ dRead p _ v (tr j)
        unfold dRead
        split
        · exact h2
        · exact List.mem_cons_of_mem _ h2
      | fresh r ob => exact h2
      | eff r => exact h2
    · rwa [Nat.le_antisymm hij h1] at h
/-- What a pure operation yields at each heap that it may meet. -/
theorem Run.read (R : Run T s ops pl tr) {i : Nat} {o : Oper} {p : Pl} (ho : ops[i]? = some o) (_hp : pl[i]? = some p) {v : MV} (hv : pureOp T (tr i).a (tr i).h o.op = some v)
    (ha : (tr (i + 1)).rs = dRead p o v (tr i)) {j : Nat} (hj : j ≤ ops.size) (h1 : (p.rd.getD (cE ops i, cE ops i)).1 ≤ cE ops j) (h2 : cE ops j ≤ (p.rd.getD (cE ops i, cE ops i)).2) : pureOp T (tr i).a (tr j).h o.op = some v := by
  have hi : i < ops.size := (Array.getElem?_eq_some_iff.1 ho).1
  cases hr : p.rd with
  | none =>
    rw [hr] at h1 h2
    simp only [Option.getD_none] at h1 h2
    rw [R.h_same (by omega) hj (show cE ops i = cE ops j by omega)]
    exact hv
  | some r =>
    rw [hr] at h1 h2
    simp only [Option.getD_some] at h1 h2
    have hm : (⟨(tr i).a, o.op, v, r.1, r.2⟩ : Rd) ∈ (tr (i + 1)).rs := by
      rw [ha]; unfold dRead; rw [hr]; exact List.mem_cons_self
    have hm := R.rs_keep (show i + 1 ≤ ops.size by omega) (Nat.le_refl _) hm
    obtain ⟨e1, e2⟩ := R.hs_at (Nat.le_refl ops.size)
    have mj := cE_mono (ops := ops) hj
    have := chkAll_some R.fin _ _ (e2 j hj)
    rw [llen_eq, e1, show cE ops ops.size - (cE ops ops.size - cE ops j) = cE ops j by omega] at this
    exact chk_some this _ hm h1 h2
theorem Run.ps_mem (R : Run T s ops pl tr) {j : Nat} (hj : j ≤ ops.size) {p : Pd} (h : p ∈ (tr j).ps) : p.i < j ∧ Made ops tr p.i p.y p.o ∧ ¬ Freed ops pl tr p.i (cE ops j) := by
  induction j with
  | zero => rw [R.ps0] at h; cases h
  | succ j ih =>
    have ho : ops[j]? = some ops[j] := Array.getElem?_eq_getElem (by omega)
    obtain ⟨pp, hp⟩ := R.pl_some ho
    have hs := R.step j _ pp ho hp
    have low : ∀ f e, f = j → e ≤ j → ∀ (o : Oper) (q : Pl), ops[e]? = some o → pl[e]? = some q → bitOf q.mask f = true → False := by
      intro f e hf he o q _ hq hb
      have := R.plan.low e q hq f hb
      omega
    -- what was there
    have old : p ∈ (tr j).ps → (isE ops[j].op = true → wants (tr j).a ops.toList ops[j] = some true → bitOf pp.mask p.i = false) → p.i < j + 1 ∧ Made ops tr p.i p.y p.o ∧ ¬ Freed ops pl tr p.i (cE ops (j + 1)) := by
      intro h1 h2
      obtain ⟨a, b, c⟩ := ih (by omega) h1
      refine ⟨by omega, b, ?_⟩
      rintro ⟨e, o, q, g1, g2, g3, g4, g5, g6⟩
      by_cases hej : e = j
      · subst hej
        rw [ho] at g1
        obtain rfl := Option.some.inj g1
        rw [hp] at g2
        obtain rfl := Option.some.inj g2
        rw [h2 g3 g4] at g5; cases g5
      · refine c ⟨e, o, q, g1, g2, g3, g4, g5, ?_⟩
        rcases Nat.lt_or_ge e j with h3 | h3
        · exact cE_lt h3 g1 g3
        · have := cE_mono (ops := ops) (show j + 1 ≤ e by omega)
          omega
    generalize ht : tr (j + 1) = t' at hs h
    cases hs with
    | no _ h2 => exact old h (fun h3 => by rw [h2] at h3; cases h3)
    | noE h2 => exact old h (fun _ h3 => by rw [h2] at h3; cases h3)
    | pure v _ h2 => exact old h (fun h3 => by unfold isE at h3; rw [h2] at h3; cases h3)
    | fresh r ob _ h2 h3 h4 =>
      rcases List.mem_cons.1 h with rfl | h
      · refine ⟨Nat.lt_succ_self _, ⟨_, ho, h2, by rw [ht], rfl, ?_⟩, ?_⟩
        · rw [ht]
          obtain ⟨o', e1, _⟩ := fresh_some h2 h3
          show r.n = _
          rw [e1]
        · rintro ⟨e, o, q, g1, g2, g3, g4, g5, g6⟩
          have hl := R.plan.low e q g2 _ g5
          have hl : j < e := hl
          have := cE_mono (ops := ops) (show j + 1 ≤ e by omega)
          omega
      · exact old h (fun h5 => by unfold isE at h5; rw [h2] at h5; cases h5)
    | eff r _ _ _ _ =>
      have h := List.mem_filter.1 h
      refine old h.1 fun _ _ => ?_
      simpa using h.2
end
end Go.Proofs.YtkeckbmhaplkpaaGreatDoor.Ln
/- Regions in any order, seventh part: the invariant over what has been done so far, and what an operation meets. -/
namespace Go.Proofs.YtkeckbmhaplkpaaGreatDoor.Ln
open Go
variable {P : Program} {T : Types}

/-- Those that a plan has ahead of an operation. -/
def MS (pl : List Pl) (i j : Nat) : Prop := ∃ p : Pl, pl[i]? = some p ∧ bitOf p.mask j = true
def MI (pl : List Pl) (i j : Nat) : Prop := j = i ∨ MS pl i j
/-- Names that some operations made, or that were there. -/
def Nm (D0 : Nat → Prop) (tr : Nat → Dt) (M : Nat → Prop) (y : Nat) : Prop := D0 y ∨ ∃ j, M j ∧ (tr j).n ≤ y ∧ y < (tr (j + 1)).n
/-- The first k effects, and what is ahead of them. -/
def EM (ops : Array Oper) (pl : List Pl) (k j : Nat) : Prop := ∃ (e : Nat) (o : Oper), ops[e]? = some o ∧ isE o.op = true ∧ cE ops e < k ∧ MI pl e j
theorem Nm.mono {D0 : Nat → Prop} {tr : Nat → Dt} {M M' : Nat → Prop} (h : ∀ j, M j → M' j) (y : Nat) (hy : Nm D0 tr M y) : Nm D0 tr M' y := by
  rcases hy with h1 | ⟨j, h1, h2⟩
  · exact .inl h1
  · exact .inr ⟨j, h j h1, h2⟩
theorem okH_mono {D D' : Nat → Prop} (h : ∀ y, D y → D' y) {x : Heap} (hx : okH D x) : okH D' x := fun y o e => ⟨h y (hx y o e).1, MObj.ok_mono h (hx y o e).2⟩
theorem EM_mono {ops : Array Oper} {pl : List Pl} {k k' : Nat} (h : k ≤ k') (j : Nat) (hj : EM ops pl k j) : EM ops pl k' j := by
  obtain ⟨e, o, h1, h2, h3, h4⟩ := hj
  exact ⟨e, o, h1, h2, by omega, h4⟩
/-- At a region's start. -/
structure Start (D0 : Nat → Prop) (tr : Nat → Dt) (θ0 : Env) (w0 : World) : Prop where
  lt : ∀ y, D0 y → y < (tr 0).n
  okF : okF D0 (tr 0).a
  okH : okH D0 (tr 0).h
  rel : Rel θ0 (tr 0).h w0
/-- What holds when the operations of S are done. -/
structure SI (ops : Array Oper) (pl : List Pl) (tr : Nat → Dt) (D0 : Nat → Prop) (θ0 : Env) (w0 : World) (m : Nat) (S : Nat → Prop) (k : Nat) (H : Heap) (θ : Env) (q : HF) (A : Act) (w : World) : Prop where
  sub : ∀ i, S i → i < ops.size
  closed : ∀ i, S i → ∀ j, MS pl i j → S j
  eff : ∀ (e : Nat) (o : Oper), ops[e]? = some o → isE o.op = true → (S e ↔ cE ops e < k)
  kle : k ≤ cE ops ops.size
  heap : ∀ i, i ≤ ops.size → cE ops i = k → (tr i).h = H
  past : ∀ i, i ≤ ops.size → cE ops i ≤ k → okH (Nm D0 tr (EM ops pl (cE ops i))) (tr i).h ∧ ∃ θ w, Rel θ (tr i).h w
  fr : ∀ (i : Nat) (o : Oper) (d : Nat) (v : MV), S i → ops[i]? = some o → o.dst = some d → (tr (i + 1)).a.get d = some v → v.ok (Nm D0 tr (MI pl i)) ∧ A.tmps.getD d undef = v.real θ
  fr0 : ∀ (t : Nat) (v : MV), (∀ (i : Nat) (o : Oper), S i → ops[i]? = some o → o.dst ≠ some t) → (tr 0).a.get t = some v → A.tmps.getD t undef = v.real θ
  size : m ≤ A.tmps.size
  defers : A.defers = []
  rel : RelG θ (over H.get q) w
  pend : ∀ y ob, q y = some ob ↔ ∃ f, S f ∧ Made ops tr f y ob ∧ ¬ Freed ops pl tr f k
  pok : ∀ f y ob, S f → Made ops tr f y ob → ob.ok (Nm D0 tr (MI pl f))
  dis : ∀ y, q y ≠ none → H.get y = none
  frm : From (tr 0).n θ0 (tr 0).h w0 θ (over H.get q) w
theorem From.part {n : Nat} {θ : Env} {h : Heap} {w : World} {θ' : Env} {f g : HF} {w' : World} (hp : Part f g) (x : From n θ h w θ' g w') : From n θ h w θ' f w' where
  same := x.same
  os := x.os
  tape := x.tape
  output := x.output
  size := x.size
  kept := x.kept
  born := fun y ⟨o, h1, h2⟩ => x.born y ⟨o, hp y o h1, h2⟩
section
variable {s : Fns} {ops : Array Oper} {pl : List Pl} {tr : Nat → Dt}
theorem Run.ms_lt (R : Run T s ops pl tr) {i j : Nat} (h : MS pl i j) : j < i := by
  obtain ⟨p, hp, hb⟩ := h
  exact R.plan.low i p hp j hb
theorem Run.ms_trans (R : Run T s ops pl tr) {i j l : Nat} (h1 : MS pl i j) (h2 : MS pl j l) : MS pl i l := by
  obtain ⟨p, hp, hb⟩ := h1
  obtain ⟨p', hp', hb'⟩ := h2
  exact ⟨p, hp, R.plan.trans i j p p' hp hb hp' l hb'⟩
theorem Run.mi_sub (R : Run T s ops pl tr) {i j l : Nat} (h1 : MS pl i j) (h2 : MI pl j l) : MS pl i l := by
  rcases h2 with rfl | h2
  · exact h1
  · exact R.ms_trans h1 h2
theorem Run.ms_size (R : Run T s ops pl tr) {i j : Nat} (h : MS pl i j) : i < ops.size := by
  obtain ⟨p, hp, _⟩ := h
  rw [← R.plan.len]
  exact (List.getElem?_eq_some_iff.1 hp).1
/-- Names made by different operations are different. -/
theorem Run.nm_one (R : Run T s ops pl tr) {i j y : Nat} (hi : i < ops.size) (hj : j < ops.size) (h1 : (tr i).n ≤ y) (h2 : y < (tr (i + 1)).n) (h3 : (tr j).n ≤ y) (h4 : y < (tr (j + 1)).n) : i = j := by
  rcases Nat.lt_trichotomy i j with h | h | h
  · have := R.n_mono (show i + 1 ≤ j by omega) (by omega); omega
  · exact h
  · have := R.n_mono (show j + 1 ≤ i by omega) (by omega); omega
theorem Run.em_ms (R : Run T s ops pl tr) {i : Nat} {o : Oper} (ho : ops[i]? = some o) (he : isE o.op = true) {j : Nat} (h : EM ops pl (cE ops i) j) : MS pl i j := by
  obtain ⟨e, oe, h1, h2, h3, h4⟩ := h
  have hlt : e < i := by
    rcases Nat.lt_or_ge e i with h | h
    · exact h
    · have := cE_mono (ops := ops) h; omega
  obtain ⟨p, hp⟩ := R.pl_some ho
  exact R.mi_sub ⟨p, hp, R.plan.chain e i oe o p hlt h1 ho h2 he hp⟩ h4
section
variable {D0 : Nat → Prop} {θ0 : Env} {w0 : World} {m : Nat} {S : Nat → Prop} {k : Nat} {H : Heap} {θ : Env} {q : HF} {A : Act} {w : World}
theorem Run.nm_lt (R : Run T s ops pl tr) (h0 : Start D0 tr θ0 w0) {i : Nat} (hi : i ≤ ops.size) {M : Nat → Prop} (hM : ∀ j, M j → j < i) {y : Nat} (hy : Nm D0 tr M y) : y < (tr i).n := by
  rcases hy with h | ⟨j, h1, _, h3⟩
  · exact Nat.lt_of_lt_of_le (h0.lt y h) (R.n_mono (Nat.zero_le _) hi)
  · exact Nat.lt_of_lt_of_le h3 (R.n_mono (hM j h1) hi)
/-- Names of what is done are not those of an operation still to come. -/
theorem Run.nm_out (R : Run T s ops pl tr) (h0 : Start D0 tr θ0 w0) (I : SI ops pl tr D0 θ0 w0 m S k H θ q A w) {i : Nat} (hi : i < ops.size) (hS : ¬ S i) {y : Nat} (hy : Nm D0 tr S y) : y < (tr i).n ∨ (tr (i + 1)).n ≤ y := by
  rcases hy with h | ⟨j, h1, h2, h3⟩
  · exact .inl (Nat.lt_of_lt_of_le (h0.lt y h) (R.n_mono (Nat.zero_le _) (by omega)))
  · rcases Nat.lt_or_ge y (tr i).n with h4 | h4
    · exact .inl h4
    · rcases Nat.lt_or_ge y (tr (i + 1)).n with h5 | h5
      · have := R.nm_one (I.sub j h1) hi h2 h3 h4 h5
        subst this
        exact absurd h1 hS
      · exact .inr h5
theorem Run.em_s (R : Run T s ops pl tr) (I : SI ops pl tr D0 θ0 w0 m S k H θ q A w) {k' : Nat} (hk : k' ≤ k) {j : Nat} (h : EM ops pl k' j) : S j := by
  have _hR := R.plan.len
  obtain ⟨e, o, h1, h2, h3, h4⟩ := h
  have he : S e := (I.eff e o h1 h2).2 (by omega)
  rcases h4 with rfl | h4
  · exact he
  · exact I.closed e he j h4
theorem Run.mi_s (R : Run T s ops pl tr) (I : SI ops pl tr D0 θ0 w0 m S k H θ q A w) {i : Nat} (h : S i) {j : Nat} (hj : MI pl i j) : S j := by
  have _hR := R.plan.len
  rcases hj with rfl | hj
  · exact h
  · exact I.closed i h j hj
theorem Run.okG_q (R : Run T s ops pl tr) (I : SI ops pl tr D0 θ0 w0 m S k H θ q A w) : okG (Nm D0 tr S) q := by
  intro y ob e
  obtain ⟨f, h1, h2, _⟩ := (I.pend y ob).1 e
  refine ⟨?_, MObj.ok_mono (Nm.mono fun j hj => R.mi_s I h1 hj) (I.pok f y ob h1 h2)⟩
  obtain ⟨o, _, _, _, h3, h4⟩ := h2
  exact .inr ⟨f, h1, by omega, by omega⟩
theorem Run.okH_now (R : Run T s ops pl tr) (I : SI ops pl tr D0 θ0 w0 m S k H θ q A w) : okH (Nm D0 tr (EM ops pl k)) H := by
  have _hR := R.plan.len
  obtain ⟨i, h1, h2⟩ := cE_idx I.kle
  have := (I.past i h1 (by omega)).1
  rwa [h2, I.heap i h1 h2] at this
theorem Run.okG_all (R : Run T s ops pl tr) (I : SI ops pl tr D0 θ0 w0 m S k H θ q A w) : okG (Nm D0 tr S) (over H.get q) := by
  intro y o e
  unfold over at e
  split at e
  · rename_i o' h1
    obtain rfl := Option.some.inj e
    have := okH_mono (Nm.mono fun j hj => R.em_s I (Nat.le_refl k) hj) (R.okH_now I) y o' h1
    exact this
  · exact R.okG_q I y o e
/-- The frame's part that an operation looks at. -/
noncomputable def lookFr (ops : Array Oper) (o : Oper) (a : Fr) : Fr := by
  classical exact a.filt fun t => decide (t ∈ o.looksAt ops)
theorem lookFr_get  {o : Oper} {a : Fr} {t : Nat} (h : t ∈ o.looksAt ops) : (lookFr ops o a).get t = a.get t := by
  unfold lookFr
  rw [PT.get_filt]
  simp [h]
theorem lookFr_some  {o : Oper} {a : Fr} {t : Nat} {v : MV} (h : (lookFr ops o a).get t = some v) : t ∈ o.looksAt ops ∧ a.get t = some v := by
  unfold lookFr at h
  rw [PT.get_filt] at h
  split at h
  · rename_i h1
    exact ⟨by simpa using h1, h⟩
  · cases h
theorem lookFr_agree  {o : Oper} {a : Fr} : Agree (lookFr ops o a) a o.op := by
  intro x hx
  cases x with
  | tmp t =>
    exact lookFr_get (List.mem_append_left _ (List.mem_filterMap.2 ⟨.tmp t, hx, rfl⟩))
  | _ => rfl
theorem lookFr_wants  {o : Oper} {a : Fr} : wants (lookFr ops o a) ops.toList o = wants a ops.toList o := by
  unfold wants
  cases hg : o.guard with
  | none => rfl
  | some g =>
    simp only
    cases hj : lget ops.toList g.1 with
    | none => rfl
    | some oj =>
      simp only
      cases hd : oj.dst with
      | none => rfl
      | some d =>
        simp only
        rw [lookFr_get]
        rw [lget_eq, Array.getElem?_toList] at hj
        refine List.mem_append_right _ ?_
        obtain ⟨g1, g2⟩ := g
        simp only at hj
        simp [hg, hj, hd]
/-- What an operation meets in the frame. -/
theorem Run.look (R : Run T s ops pl tr) (h0 : Start D0 tr θ0 w0) (I : SI ops pl tr D0 θ0 w0 m S k H θ q A w) {i : Nat} {o : Oper} (ho : ops[i]? = some o) (hS : ¬ S i) (hr : ∀ j, MS pl i j → S j) : FrOk (Nm D0 tr (MS pl i)) θ (lookFr ops o (tr i).a) A m := by
  have both : ∀ t v, (lookFr ops o (tr i).a).get t = some v → v.ok (Nm D0 tr (MS pl i)) ∧ A.tmps.getD t undef = v.real θ := by
    intro t v e
    obtain ⟨e1, e2⟩ := lookFr_some e
    rcases R.a_from ho e1 e2 with ⟨j, oj, p, h1, h2, h3, h4, h5, h6⟩ | ⟨h1, h2⟩
    · have hm : MS pl i j := ⟨p, h4, h5⟩
      obtain ⟨g1, g2⟩ := I.fr j oj t v (hr j hm) h2 h3 h6
      exact ⟨MV.ok_mono (Nm.mono fun l hl => R.mi_sub hm hl) g1, g2⟩
    · refine ⟨MV.ok_mono (fun y hy => .inl hy) (h0.okF t v h2), I.fr0 t v (fun j oj hj h3 h4 => ?_) h2⟩
      rcases h1 j oj h3 h4 with rfl | ⟨_, hm⟩
      · exact hS hj
      · exact hS (I.closed j hj i hm)
  exact ⟨fun t v e => (both t v e).1, ⟨fun t v e => (both t v e).2, I.defers⟩, I.size⟩
/-- The place of what has been done among what an operation may meet. -/
theorem Run.range (R : Run T s ops pl tr) (I : SI ops pl tr D0 θ0 w0 m S k H θ q A w) {i : Nat} {o : Oper} {p : Pl} (ho : ops[i]? = some o) (hp : pl[i]? = some p) (hc : cls o.op = .pure) (hd : reads o.op = true) (hS : ¬ S i) (hr : ∀ j, MS pl i j → S j) :
    (p.rd.getD (cE ops i, cE ops i)).1 ≤ k ∧ k ≤ (p.rd.getD (cE ops i, cE ops i)).2 := by
  constructor
  · apply Nat.le_of_not_lt
    intro hlt
    have htop := R.plan.top i p hp
    obtain ⟨e, oe, h1, h2, h3, h4⟩ := cE_at (Nat.le_refl _) (show k < cE ops ops.size by omega)
    obtain ⟨pe, hpe⟩ := R.pl_some h2
    have := (R.plan.read i o p ho hp hc hd e oe pe h2 h3 hpe).1 (by omega)
    have := (I.eff e oe h2 h3).1 (hr e ⟨p, hp, this⟩)
    omega
  · apply Nat.le_of_not_lt
    intro hlt
    have := I.kle
    obtain ⟨e, oe, h1, h2, h3, h4⟩ := cE_at (Nat.le_refl _) (show (p.rd.getD (cE ops i, cE ops i)).2 < cE ops ops.size by omega)
    obtain ⟨pe, hpe⟩ := R.pl_some h2
    have hm := (R.plan.read i o p ho hp hc hd e oe pe h2 h3 hpe).2 (by omega)
    have he : S e := (I.eff e oe h2 h3).2 (by omega)
    exact hS (I.closed e he i ⟨pe, hpe, hm⟩)
end
end
end Go.Proofs.YtkeckbmhaplkpaaGreatDoor.Ln
/- Regions in any order, eighth part: one more operation. -/
namespace Go.Proofs.YtkeckbmhaplkpaaGreatDoor.Ln
open Go
variable {P : Program} {T : Types}

theorem put_self {A : Act} {d : Nat} (v : Value) (h : d < A.tmps.size) : (A.put (some d) v).tmps.getD d undef = v := by
  simp only [Act.put]
  rw [Array.getD_eq_getD_getElem?, Array.getElem?_setIfInBounds_self_of_lt h]
  rfl
theorem put_other {A : Act} {dst : Option Nat} {t : Nat} (v : Value) (h : dst ≠ some t) : (A.put dst v).tmps.getD t undef = A.tmps.getD t undef := by
  cases dst with
  | none => rfl
  | some d =>
    have hne : d ≠ t := fun e => h (by rw [e])
    simp only [Act.put]
    rw [Array.getD_eq_getD_getElem?, Array.getElem?_setIfInBounds_ne hne, ← Array.getD_eq_getD_getElem?]
theorem put_size (A : Act) (dst : Option Nat) (v : Value) : (A.put dst v).tmps.size = A.tmps.size := by
  cases dst <;> simp [Act.put]
theorem put_defers' (A : Act) (dst : Option Nat) (v : Value) : (A.put dst v).defers = A.defers := by
  cases dst <;> rfl
/-- What holds when the operations of S are done, somehow. -/
def SIx (ops : Array Oper) (pl : List Pl) (tr : Nat → Dt) (D0 : Nat → Prop) (θ0 : Env) (w0 : World) (m : Nat) (S : Nat → Prop) (A : Act) (w : World) : Prop :=
  ∃ k H θ q, SI ops pl tr D0 θ0 w0 m S k H θ q A w
section
variable {s : Fns} {ops : Array Oper} {pl : List Pl} {tr : Nat → Dt}
variable {D0 : Nat → Prop} {θ0 : Env} {w0 : World} {m : Nat} {S : Nat → Prop} {k : Nat} {H : Heap} {θ : Env} {q : HF} {A : Act} {w : World}
theorem Run.fr_step (Ru : Run T s ops pl tr) (I : SI ops pl tr D0 θ0 w0 m S k H θ q A w) {i : Nat} {o : Oper} (ho : ops[i]? = some o) (hS : ¬ S i) (hd : DstOk m o) {v : MV} (hv : (tr (i + 1)).a = putFr (tr i).a o.dst v)
    (hok : v.ok (Nm D0 tr (MI pl i))) {θ' : Env} (hs : Env.same (Nm D0 tr S) θ θ') :
    (∀ (j : Nat) (oj : Oper) (d : Nat) (u : MV), S j ∨ j = i → ops[j]? = some oj → oj.dst = some d → (tr (j + 1)).a.get d = some u → u.ok (Nm D0 tr (MI pl j)) ∧ (A.put o.dst (v.real θ')).tmps.getD d undef = u.real θ') ∧
    (∀ (t : Nat) (u : MV), (∀ (j : Nat) (oj : Oper), S j ∨ j = i → ops[j]? = some oj → oj.dst ≠ some t) → (tr 0).a.get t = some u → u.ok D0 → (A.put o.dst (v.real θ')).tmps.getD t undef = u.real θ') := by
  refine ⟨fun j oj d u hj hoj hdj hu => ?_, fun t u hj hu hu0 => ?_⟩
  · by_cases hji : j = i
    · subst hji
      rw [ho] at hoj
      obtain rfl := Option.some.inj hoj
      rw [hv] at hu
      rcases putFr_get hu with ⟨_, rfl⟩ | ⟨h1, _⟩
      · refine ⟨hok, ?_⟩
        rw [hdj]
        exact put_self _ (Nat.lt_of_lt_of_le (hd d hdj) I.size)
      · exact absurd hdj h1
    · have hj' : S j := hj.resolve_right hji
      obtain ⟨g1, g2⟩ := I.fr j oj d u hj' hoj hdj hu
      refine ⟨g1, ?_⟩
      rw [put_other _ fun e => hji (Ru.plan.dst j i oj o d hoj ho hdj e), g2]
      exact (MV.real_same hs (MV.ok_mono (Nm.mono fun l hl => Ru.mi_s I hj' hl) g1)).symm
  · rw [put_other _ (hj i o (.inr rfl) ho), I.fr0 t u (fun j oj hj' => hj j oj (.inl hj')) hu]
    exact (MV.real_same hs (MV.ok_mono (fun y hy => .inl hy) hu0)).symm
theorem Run.k_now (Ru : Run T s ops pl tr) (I : SI ops pl tr D0 θ0 w0 m S k H θ q A w) {i : Nat} {o : Oper} (ho : ops[i]? = some o) (he : isE o.op = true) (hS : ¬ S i) (hr : ∀ j, MS pl i j → S j) : cE ops i = k := by
  have hi : i < ops.size := (Array.getElem?_eq_some_iff.1 ho).1
  have h1 : ¬ cE ops i < k := fun h => hS ((I.eff i o ho he).2 h)
  apply Nat.le_antisymm _ (Nat.le_of_not_lt h1)
  apply Nat.le_of_not_lt
  intro h2
  obtain ⟨e, oe, g1, g2, g3, g4⟩ := cE_at (show i ≤ ops.size by omega) h2
  obtain ⟨p, hp⟩ := Ru.pl_some ho
  have := (I.eff e oe g2 g3).1 (hr e ⟨p, hp, Ru.plan.chain e i oe o p g1 g2 ho g3 he hp⟩)
  omega
theorem Run.eff_next (Ru : Run T s ops pl tr) (I : SI ops pl tr D0 θ0 w0 m S k H θ q A w) {i : Nat} {o : Oper} (ho : ops[i]? = some o) (he : isE o.op = true) (hk : cE ops i = k) (e : Nat) (oe : Oper) (h1 : ops[e]? = some oe) (h2 : isE oe.op = true) :
    (S e ∨ e = i) ↔ cE ops e < k + 1 := by
  have _hR := Ru.plan.len
  constructor
  · rintro (h | rfl)
    · have := (I.eff e oe h1 h2).1 h; omega
    · omega
  · intro h
    by_cases h3 : cE ops e < k
    · exact .inl ((I.eff e oe h1 h2).2 h3)
    · refine .inr ?_
      rcases Nat.lt_trichotomy e i with g | g | g
      · have := cE_lt g h1 h2; omega
      · exact g
      · have := cE_lt g ho he; omega
theorem Run.closed_next (Ru : Run T s ops pl tr) (I : SI ops pl tr D0 θ0 w0 m S k H θ q A w) {i : Nat} (hr : ∀ j, MS pl i j → S j) (j : Nat) (hj : S j ∨ j = i) (l : Nat) (hl : MS pl j l) : S l ∨ l = i := by
  have _hR := Ru.plan.len
  rcases hj with hj | rfl
  · exact .inl (I.closed j hj l hl)
  · exact .inl (hr l hl)
theorem Run.sub_next (Ru : Run T s ops pl tr) (I : SI ops pl tr D0 θ0 w0 m S k H θ q A w) {i : Nat} {o : Oper} (ho : ops[i]? = some o) (j : Nat) (hj : S j ∨ j = i) : j < ops.size := by
  have _hR := Ru.plan.len
  rcases hj with hj | rfl
  · exact I.sub j hj
  · exact (Array.getElem?_eq_some_iff.1 ho).1
theorem same_refl  (D : Nat → Prop) (θ : Env) : Env.same D θ θ := Env.same.refl _ _
/-- An operation that leaves the heap as it is, and no effect. -/
theorem Run.quiet_next (Ru : Run T s ops pl tr) (h0 : Start D0 tr θ0 w0) (I : SI ops pl tr D0 θ0 w0 m S k H θ q A w) {i : Nat} {o : Oper} (ho : ops[i]? = some o) (hS : ¬ S i) (hr : ∀ j, MS pl i j → S j) (hd : DstOk m o) (he : isE o.op = false)
    (hn : ∀ y ob, ¬ Made ops tr i y ob) {v : MV} (hv : (tr (i + 1)).a = putFr (tr i).a o.dst v) (hok : v.ok (Nm D0 tr (MI pl i))) : SI ops pl tr D0 θ0 w0 m (fun j => S j ∨ j = i) k H θ q (A.put o.dst (v.real θ)) w where
  sub := Ru.sub_next I ho
  closed := Ru.closed_next I hr
  eff := fun e oe h1 h2 => by
    constructor
    · rintro (h | rfl)
      · exact (I.eff e oe h1 h2).1 h
      · rw [ho] at h1
        obtain rfl := Option.some.inj h1
        rw [he] at h2; cases h2
    · exact fun h => .inl ((I.eff e oe h1 h2).2 h)
  kle := I.kle
  heap := I.heap
  past := I.past
  fr := (Ru.fr_step I ho hS hd hv hok (same_refl _ θ)).1
  fr0 := fun t u h1 h2 => (Ru.fr_step I ho hS hd hv hok (same_refl _ θ)).2 t u h1 h2 (h0.okF t u h2)
  size := by rw [put_size]; exact I.size
  defers := by rw [put_defers']; exact I.defers
  rel := I.rel
  pend := fun y ob => by
    rw [I.pend y ob]
    constructor
    · rintro ⟨f, h1, h2⟩; exact ⟨f, .inl h1, h2⟩
    · rintro ⟨f, h1 | rfl, h2⟩
      · exact ⟨f, h1, h2⟩
      · exact absurd h2.1 (hn y ob)
  pok := fun f y ob h1 h2 => by
    rcases h1 with h1 | rfl
    · exact I.pok f y ob h1 h2
    · exact absurd h2 (hn y ob)
  dis := I.dis
  frm := I.frm
/-- An effect that is not wanted. -/
theorem Run.not_next (Ru : Run T s ops pl tr) (h0 : Start D0 tr θ0 w0) (I : SI ops pl tr D0 θ0 w0 m S k H θ q A w) {i : Nat} {o : Oper} (ho : ops[i]? = some o) (hS : ¬ S i) (hr : ∀ j, MS pl i j → S j) (hd : DstOk m o) (he : isE o.op = true)
    (hw : wants (tr i).a ops.toList o = some false) (hh : (tr (i + 1)).h = (tr i).h) {v : MV} (hv : (tr (i + 1)).a = putFr (tr i).a o.dst v) (hok : v.ok (Nm D0 tr (MI pl i))) : SI ops pl tr D0 θ0 w0 m (fun j => S j ∨ j = i) (k + 1) H θ q (A.put o.dst (v.real θ)) w := by
  have hi : i < ops.size := (Array.getElem?_eq_some_iff.1 ho).1
  have hk := Ru.k_now I ho he hS hr
  have hc := cE_E ho he
  have hH : (tr i).h = H := I.heap i (by omega) hk
  have hnf : cls o.op ≠ .fresh := fun h => by unfold isE at he; rw [h] at he; cases he
  have hn : ∀ y ob, ¬ Made ops tr i y ob := by
    rintro y ob ⟨o', h1, h2, _⟩
    rw [ho] at h1
    obtain rfl := Option.some.inj h1
    exact hnf h2
  have freed : ∀ f, Freed ops pl tr f (k + 1) → Freed ops pl tr f k := by
    rintro f ⟨e, oe, p, h1, h2, h3, h4, h5, h6⟩
    by_cases h7 : cE ops e < k
    · exact ⟨e, oe, p, h1, h2, h3, h4, h5, h7⟩
    · exfalso
      have : e = i := by
        rcases Nat.lt_trichotomy e i with g | g | g
        · have := cE_lt g h1 h3; omega
        · exact g
        · have := cE_lt g ho he; omega
      subst this
      rw [ho] at h1
      obtain rfl := Option.some.inj h1
      rw [hw] at h4; cases h4
  exact {
    sub := Ru.sub_next I ho
    closed := Ru.closed_next I hr
    eff := Ru.eff_next I ho he hk
    kle := by have := cE_mono (ops := ops) (show i + 1 ≤ ops.size by omega); omega
    heap := fun j hj h => by rw [Ru.h_same (show i + 1 ≤ ops.size by omega) hj (by omega), hh, hH]
    past := fun j hj h => by
      by_cases h1 : cE ops j ≤ k
      · exact I.past j hj h1
      · have h2 : cE ops j = k + 1 := by omega
        obtain ⟨g1, g2⟩ := I.past i (by omega) (by omega)
        rw [Ru.h_same (show i + 1 ≤ ops.size by omega) hj (by omega), hh]
        exact ⟨okH_mono (Nm.mono fun l hl => EM_mono (by omega) l hl) g1, g2⟩
    fr := (Ru.fr_step I ho hS hd hv hok (same_refl _ θ)).1
    fr0 := fun t u h1 h2 => (Ru.fr_step I ho hS hd hv hok (same_refl _ θ)).2 t u h1 h2 (h0.okF t u h2)
    size := by rw [put_size]; exact I.size
    defers := by rw [put_defers']; exact I.defers
    rel := I.rel
    pend := fun y ob => by
      rw [I.pend y ob]
      constructor
      · rintro ⟨f, h1, h2, h3⟩; exact ⟨f, .inl h1, h2, fun h => h3 (freed f h)⟩
      · rintro ⟨f, h1 | rfl, h2, h3⟩
        · exact ⟨f, h1, h2, fun h => h3 (h.mono (Nat.le_succ k))⟩
        · exact absurd h2 (hn y ob)
    pok := fun f y ob h1 h2 => by
      rcases h1 with h1 | rfl
      · exact I.pok f y ob h1 h2
      · exact absurd h2 (hn y ob)
    dis := I.dis
    frm := I.frm }
/-- An operation that makes an object. -/
theorem Run.fresh_wp (Ru : Run T s ops pl tr) (hT : TyOk P T) (h0 : Start D0 tr θ0 w0) (I : SI ops pl tr D0 θ0 w0 m S k H θ q A w) {i : Nat} {o : Oper} (ho : ops[i]? = some o) (hS : ¬ S i) (hr : ∀ j, MS pl i j → S j) (hd : DstOk m o) (hc : cls o.op = .fresh)
    {r : R} {ob : MObj} (e : effOp T (tr i).a (tr i).h (tr i).n o.op = some r) (hob : r.h.get (tr i).n = some ob) (ht : tr (i + 1) = ⟨putFr (tr i).a o.dst r.v, (tr i).h, r.n, ⟨i, (tr i).n, ob⟩ :: (tr i).ps, (tr i).hs, (tr i).rs⟩)
    {K : Act → World → Prop} {Q : Exit → Act → World → Prop} (hk : ∀ A' w', SIx ops pl tr D0 θ0 w0 m (fun j => S j ∨ j = i) A' w' → K A' w') : o.wp P A w K Q := by
  have hi : i < ops.size := (Array.getElem?_eq_some_iff.1 ho).1
  obtain ⟨mo, e1, e2⟩ := fresh_some hc e
  rw [e1] at hob
  obtain rfl : ob = mo := by
    rcases PT.get_set hob with ⟨_, h⟩ | ⟨h, _⟩
    · exact h
    · exact absurd rfl h
  have e3 : effOp T (lookFr ops o (tr i).a) (bare (tr i).h) (tr i).n o.op = some ⟨r.v, (bare (tr i).h).set (tr i).n ob, (tr i).n + 1⟩ := by
    rw [effOp_congr lookFr_agree]; exact e2 _
  have getn : ((bare (tr i).h).set (tr i).n ob).get (tr i).n = some ob := by
    unfold bare; rw [PT.get_set_filt]; exact hob
  have geto : ∀ y, y ≠ (tr i).n → ((bare (tr i).h).set (tr i).n ob).get y = none := by
    intro y hy
    cases h : ((bare (tr i).h).set (tr i).n ob).get y with
    | none => rfl
    | some o' =>
      rcases PT.get_set h with ⟨h1, _⟩ | ⟨_, h1⟩
      · exact absurd h1 hy
      · rw [bare_get] at h1; cases h1
  have hn1 : (tr (i + 1)).n = (tr i).n + 1 := by
    rw [ht]
    show r.n = _
    rw [e1]
  have hf := Ru.look h0 I ho hS hr
  have hD : ∀ y, Nm D0 tr (MS pl i) y → y < (tr i).n := fun y => Ru.nm_lt h0 (by omega) (fun j hj => Ru.ms_lt hj)
  have hrel : Rel θ (bare (tr i).h) w := relG_iff.2 (RelG.part (fun y o e => by rw [bare_get] at e; cases e) I.rel)
  have hok : okH (Nm D0 tr (MS pl i)) (bare (tr i).h) := fun y o e => by rw [bare_get] at e; cases e
  refine Yields.wp (eff_sound hT hD hf.ok hf.rel hrel hok e3) fun θ' w' l hv => hk _ _ ?_
  have l : Leads (Nm D0 tr (MS pl i)) (tr i).n θ (bare (tr i).h) w ((tr i).n + 1) θ' ((bare (tr i).h).set (tr i).n ob) w' := l
  have hv : r.v.ok (Up (Nm D0 tr (MS pl i)) (tr i).n ((tr i).n + 1)) := hv
  have hK : ∀ y, Nm D0 tr S y → y < (tr i).n ∨ (tr i).n + 1 ≤ y := fun y hy => by
    have := Ru.nm_out h0 I hi hS hy
    rwa [hn1] at this
  have hq : okG (Nm D0 tr S) (over H.get q) := Ru.okG_all I
  have hr' : RelG θ (over (bare (tr i).h).get (over H.get q)) w := RelG.part (fun y o e => by unfold over at e ⊢; rw [bare_get] at e; exact e) I.rel
  have hfr : From (tr 0).n θ0 (tr 0).h w0 θ (over (bare (tr i).h).get (over H.get q)) w := From.part (fun y o e => by unfold over at e ⊢; rw [bare_get] at e; exact e) I.frm
  have hdis : ∀ y, over H.get q y ≠ none → (bare (tr i).h).get y = none := fun y _ => bare_get _ y
  have hnew : ∀ y, over H.get q y ≠ none → y ≠ (tr i).n := by
    rintro y h rfl
    cases h1 : over H.get q (tr i).n with
    | none => exact h h1
    | some o' =>
      have := hK _ (hq _ o' h1).1
      omega
  have hdis' : ∀ y, over H.get q y ≠ none → ((bare (tr i).h).set (tr i).n ob).get y = none := fun y h => geto y (hnew y h)
  obtain ⟨f1, f2⟩ := frame_step hD l hq hK hr' hdis hdis'
  have f3 := From.step (Ru.n_mono (Nat.zero_le i) (by omega)) hfr hD l hq hK hdis
  have up : ∀ y, Up (Nm D0 tr (MS pl i)) (tr i).n ((tr i).n + 1) y → Nm D0 tr (MI pl i) y := by
    rintro y (h | ⟨h1, h2⟩)
    · exact Nm.mono (fun j hj => .inr hj) y h
    · exact .inr ⟨i, .inl rfl, h1, by omega⟩
  have hvr : r.v.real (Env.cut ((tr i).n + 1) θ' θ) = r.v.real θ' := by
    refine MV.real_same (D := Up (Nm D0 tr (MS pl i)) (tr i).n ((tr i).n + 1)) ((cut_lo _ θ' θ).mono fun y hy => ?_) hv
    rcases hy with h1 | h1
    · exact Nat.lt_of_lt_of_le (hD y h1) (Nat.le_succ _)
    · exact h1.2
  have hHn : H.get (tr i).n = none := by
    cases h1 : H.get (tr i).n with
    | none => rfl
    | some o' => exact absurd rfl (hnew (tr i).n (by unfold over; rw [h1]; simp))
  have part : Part (over H.get (fun y => if y = (tr i).n then some ob else q y)) (over ((bare (tr i).h).set (tr i).n ob).get (over H.get q)) := by
    intro y o' h
    by_cases hy : y = (tr i).n
    · subst hy
      unfold over at h ⊢
      rw [hHn] at h
      simp only [if_true] at h
      rw [getn]
      exact h
    · unfold over at h ⊢
      rw [geto y hy]
      simp only [if_neg hy] at h
      exact h
  have made : Made ops tr i (tr i).n ob := ⟨o, ho, hc, by rw [ht], rfl, hn1⟩
  refine ⟨k, H, Env.cut ((tr i).n + 1) θ' θ, fun y => if y = (tr i).n then some ob else q y, ?_⟩
  have hva : (tr (i + 1)).a = putFr (tr i).a o.dst r.v := by rw [ht]
  show SI ops pl tr D0 θ0 w0 m (fun j => S j ∨ j = i) k H _ _ (A.put o.dst (r.v.real θ')) w'
  rw [← hvr]
  exact {
    sub := Ru.sub_next I ho
    closed := Ru.closed_next I hr
    eff := fun e oe h1 h2 => by
      constructor
      · rintro (h | rfl)
        · exact (I.eff e oe h1 h2).1 h
        · rw [ho] at h1
          obtain rfl := Option.some.inj h1
          unfold isE at h2; rw [hc] at h2; cases h2
      · exact fun h => .inl ((I.eff e oe h1 h2).2 h)
    kle := I.kle
    heap := I.heap
    past := I.past
    fr := (Ru.fr_step I ho hS hd hva (MV.ok_mono up hv) f2).1
    fr0 := fun t u h1 h2 => (Ru.fr_step I ho hS hd hva (MV.ok_mono up hv) f2).2 t u h1 h2 (h0.okF t u h2)
    size := by rw [put_size]; exact I.size
    defers := by rw [put_defers']; exact I.defers
    rel := RelG.part part f1
    pend := fun y ob' => by
      constructor
      · intro h
        by_cases hy : y = (tr i).n
        · subst hy
          simp only [if_true] at h
          obtain rfl := Option.some.inj h
          refine ⟨i, .inr rfl, made, ?_⟩
          rintro ⟨e, oe, p, h1, h2, h3, h4, h5, h6⟩
          exact hS (I.closed e ((I.eff e oe h1 h3).2 h6) i ⟨p, h2, h5⟩)
        · simp only [if_neg hy] at h
          obtain ⟨f, h1, h2⟩ := (I.pend y ob').1 h
          exact ⟨f, .inl h1, h2⟩
      · rintro ⟨f, h1, h2, h3⟩
        rcases h1 with h1 | rfl
        · have hy : y ≠ (tr i).n := by
            rintro rfl
            obtain ⟨_, _, _, _, g1, g2⟩ := h2
            have := Ru.nm_one (I.sub f h1) hi (y := (tr i).n) (by omega) (by omega) (Nat.le_refl _) (by omega)
            subst this
            exact hS h1
          simp only [if_neg hy]
          exact (I.pend y ob').2 ⟨f, h1, h2, h3⟩
        · obtain ⟨_, _, _, g1, g2, _⟩ := h2
          rw [ht] at g1
          simp only [List.cons.injEq, Pd.mk.injEq, and_true, true_and] at g1
          subst g2
          simp only [if_true]
          rw [g1.2]
    pok := fun f y ob' h1 h2 => by
      rcases h1 with h1 | rfl
      · exact I.pok f y ob' h1 h2
      · obtain ⟨_, _, _, g1, g2, _⟩ := h2
        rw [ht] at g1
        simp only [List.cons.injEq, Pd.mk.injEq, and_true, true_and] at g1
        rw [← g1.2]
        exact MObj.ok_mono up (l.ok _ _ getn).2
    dis := fun y h => by
      by_cases hy : y = (tr i).n
      · subst hy; exact hHn
      · simp only [if_neg hy] at h
        exact I.dis y h
    frm := From.part part f3 }
end
end Go.Proofs.YtkeckbmhaplkpaaGreatDoor.Ln
/- Regions in any order, ninth part: effects; the whole region. -/
namespace Go.Proofs.YtkeckbmhaplkpaaGreatDoor.Ln
open Go
variable {Φ : Fact}
variable {P : Program} {T : Types}

theorem relH_get {mask : Nat} {ps : List Pd} : ∀ {h : Heap} {y : Nat} {o : MObj}, (relH mask ps h).get y = some o → (∃ p ∈ ps, bitOf mask p.i = true ∧ p.y = y ∧ p.o = o) ∨ h.get y = some o := by
  induction ps with
  | nil => exact fun e => .inr e
  | cons p r ih =>
    intro h y o e
    unfold relH at e
    split at e
    · rename_i hb
      rcases ih e with ⟨p', h1, h2⟩ | h1
      · exact .inl ⟨p', List.mem_cons_of_mem _ h1, h2⟩
      · rcases PT.get_set h1 with ⟨h2, h3⟩ | ⟨_, h2⟩
        · exact .inl ⟨p, List.mem_cons_self, hb, h2.symm, h3.symm⟩
        · exact .inr h2
    · rcases ih e with ⟨p', h1, h2⟩ | h1
      · exact .inl ⟨p', List.mem_cons_of_mem _ h1, h2⟩
      · exact .inr h1
theorem foldl_get {ps : List Pd} : ∀ {h : Heap} {y : Nat} {o : MObj}, (ps.foldl (fun h p => h.set p.y p.o) h).get y = some o → (∃ p ∈ ps, p.y = y ∧ p.o = o) ∨ h.get y = some o := by
  induction ps with
  | nil => exact fun e => .inr e
  | cons p r ih =>
    intro h y o e
    rw [List.foldl_cons] at e
    rcases ih e with ⟨p', h1, h2⟩ | h1
    · exact .inl ⟨p', List.mem_cons_of_mem _ h1, h2⟩
    · rcases PT.get_set h1 with ⟨h2, h3⟩ | ⟨_, h2⟩
      · exact .inl ⟨p, List.mem_cons_self, h2.symm, h3.symm⟩
      · exact .inr h2
theorem effV_congr {s : Fns} {a b : Fr} {h : Heap} {n : Nat} {op : Op} (e : Agree a b op) : effV T s a h n op = effV T s b h n op := by
  unfold effV
  cases hc : cls op with
  | call c x =>
    obtain ⟨h1, h2⟩ := cls_call hc
    subst h1
    exact callR_congr h2 e
  | _ => exact effOp_congr e
theorem effV_wp {s : Fns} (hT : TyOk P T) (hs : SoundF Φ P s) {D : Nat → Prop} {n : Nat} {θ : Env} {h : Heap} {w : World} {a : Fr} {A : Act} {m : Nat} (hi : Inv Φ D n θ h w) (hf : FrOk D θ a A m) {o : Oper} {r : R}
    (e : effV T s a h n o.op = some r) {K : Act → World → Prop} {Q : Exit → Act → World → Prop}
    (hk : ∀ θ' w', Leads D n θ h w r.n θ' r.h w' → r.v.ok (Up D n r.n) → K (A.put o.dst (r.v.real θ')) w') : o.wp P A w K Q := by
  unfold effV at e
  cases hc : cls o.op with
  | call c x =>
    rw [hc] at e
    obtain ⟨h1, h2⟩ := cls_call hc
    exact call_wp hs hi hf h1 h2 e hk
  | _ =>
    rw [hc] at e
    exact Yields.wp (eff_sound hT hi.lt hf.ok hf.rel hi.rel hi.ok e) hk
theorem PT.bound {α : Type} (t : PT α) : ∃ B, ∀ n v, t.get n = some v → n < B := by
  induction t with
  | lf => exact ⟨0, fun n v h => by rw [PT.get_lf] at h; cases h⟩
  | nd l v r ihl ihr =>
    obtain ⟨bl, hl⟩ := ihl
    obtain ⟨br, hr⟩ := ihr
    refine ⟨2 * (bl + br) + 3, fun n u h => ?_⟩
    rw [PT.get_nd] at h
    cases hn : Nat.beq n 0
    · rw [hn] at h
      have e1 : Nat.land n 1 = n % 2 := Nat.and_one_is_mod n
      have e3 : Nat.shiftRight n 1 = n / 2 := Nat.shiftRight_eq_div_pow n 1
      have e4 : Nat.shiftRight (Nat.pred n) 1 = (n - 1) / 2 := Nat.shiftRight_eq_div_pow _ 1
      cases ho : Nat.beq (Nat.land n 1) 1
      · rw [ho] at h
        have := hr _ _ h
        rw [e4] at this
        omega
      · rw [ho] at h
        have := hl _ _ h
        rw [e3] at this
        omega
    · have := Nat.eq_of_beq_eq_true hn
      omega
theorem act_of (a : Fr) (θ : Env) : ∃ A : Act, RelF θ a A := by
  obtain ⟨B, hB⟩ := PT.bound a
  refine ⟨{ tmps := Array.ofFn (n := B) fun t => match a.get t with | some v => v.real θ | none => undef, defers := [] }, fun t v h => ?_, rfl⟩
  have := hB t v h
  simp [Array.getD_eq_getD_getElem?, this, h]
section
variable {s : Fns} {ops : Array Oper} {pl : List Pl} {tr : Nat → Dt}
variable {D0 : Nat → Prop} {θ0 : Env} {w0 : World} {m : Nat} {S : Nat → Prop} {k : Nat} {H : Heap} {θ : Env} {q : HF} {A : Act} {w : World}
/-- An effect. -/
theorem Run.eff_wp (Ru : Run T s ops pl tr) (hT : TyOk P T) (hF : SoundF Φ P s) (hΦ : Φ θ0.sym θ0.txt) (h0 : Start D0 tr θ0 w0) (I : SI ops pl tr D0 θ0 w0 m S k H θ q A w) {i : Nat} {o : Oper} {p : Pl} (ho : ops[i]? = some o) (hp : pl[i]? = some p) (hS : ¬ S i) (hr : ∀ j, MS pl i j → S j) (hd : DstOk m o) (he : isE o.op = true)
    (hw : wants (tr i).a ops.toList o = some true) {r : R} (e : effV T s (tr i).a (relH p.mask (tr i).ps (tr i).h) (tr i).n o.op = some r) (hle : (tr i).n ≤ r.n)
    (ht : tr (i + 1) = ⟨putFr (tr i).a o.dst r.v, r.h, r.n, (tr i).ps.filter fun q => !bitOf p.mask q.i, (tr i).h :: (tr i).hs, (tr i).rs⟩)
    {K : Act → World → Prop} {Q : Exit → Act → World → Prop} (hk : ∀ A' w', SIx ops pl tr D0 θ0 w0 m (fun j => S j ∨ j = i) A' w' → K A' w') : o.wp P A w K Q := by
  classical
  have hi : i < ops.size := (Array.getElem?_eq_some_iff.1 ho).1
  have hkn := Ru.k_now I ho he hS hr
  have hH : (tr i).h = H := I.heap i (by omega) hkn
  have hc := cE_E ho he
  rw [hH] at e
  have hms : ∀ {f : Nat}, bitOf p.mask f = true → MS pl i f := fun h => ⟨p, hp, h⟩
  have hsm : ∀ {f : Nat}, MS pl i f → bitOf p.mask f = true := by
    rintro f ⟨p', h1, h2⟩
    rw [hp] at h1
    obtain rfl := Option.some.inj h1
    exact h2
  have hn1 : (tr (i + 1)).n = r.n := by rw [ht]
  have hnf : cls o.op ≠ .fresh := fun h => by unfold isE at he; rw [h] at he; cases he
  have hnm : ∀ y ob, ¬ Made ops tr i y ob := by
    rintro y ob ⟨o', h1, h2, _⟩
    rw [ho] at h1
    obtain rfl := Option.some.inj h1
    exact hnf h2
  have emade : ∀ {f y : Nat} {ob : MObj}, Made ops tr f y ob → (tr f).n ≤ y ∧ y < (tr (f + 1)).n := by
    rintro f y ob ⟨_, _, _, _, h1, h2⟩
    omega
  have hD : ∀ y, Nm D0 tr (MS pl i) y → y < (tr i).n := fun y => Ru.nm_lt h0 (by omega) (fun j hj => Ru.ms_lt hj)
  have hget : ∀ {y ob}, (relH p.mask (tr i).ps H).get y = some ob → (∃ f, MS pl i f ∧ Made ops tr f y ob ∧ ¬ Freed ops pl tr f k) ∨ H.get y = some ob := by
    intro y ob h
    rcases relH_get h with ⟨pd, h1, h2, rfl, rfl⟩ | h1
    · obtain ⟨g1, g2, g3⟩ := Ru.ps_mem (by omega) h1
      exact .inl ⟨pd.i, hms h2, g2, by rwa [hkn] at g3⟩
    · exact .inr h1
  have hok : okH (Nm D0 tr (MS pl i)) (relH p.mask (tr i).ps H) := by
    intro y ob h
    rcases hget h with ⟨f, h1, h2, _⟩ | h1
    · obtain ⟨g1, g2⟩ := emade h2
      exact ⟨.inr ⟨f, h1, g1, g2⟩, MObj.ok_mono (Nm.mono fun l hl => Ru.mi_sub h1 hl) (I.pok f y ob (hr f h1) h2)⟩
    · have := okH_mono (Nm.mono fun l hl => by rw [← hkn] at hl; exact Ru.em_ms ho he hl) (Ru.okH_now I)
      exact this y ob h1
  have qd : ∃ q' : HF, ∀ y, (Nm D0 tr (MS pl i) y → q' y = none) ∧ (¬ Nm D0 tr (MS pl i) y → q' y = q y) :=
    ⟨fun y => if Nm D0 tr (MS pl i) y then none else q y, fun y => ⟨fun h => if_pos h, fun h => if_neg h⟩⟩
  obtain ⟨q', hq'⟩ := qd
  have q'q : ∀ {y ob}, q' y = some ob → q y = some ob ∧ ¬ Nm D0 tr (MS pl i) y := by
    intro y ob h
    by_cases hy : Nm D0 tr (MS pl i) y
    · rw [(hq' y).1 hy] at h; cases h
    · exact ⟨by rw [← (hq' y).2 hy]; exact h, hy⟩
  have part : Part (over (relH p.mask (tr i).ps H).get q') (over H.get q) := by
    intro y ob h
    unfold over at h
    split at h
    · rename_i ob' h1
      obtain rfl := Option.some.inj h
      unfold over
      rcases hget h1 with ⟨f, g1, g2, g3⟩ | h2
      · have hqy := (I.pend y ob').2 ⟨f, hr f g1, g2, g3⟩
        rw [I.dis y (by rw [hqy]; simp)]
        exact hqy
      · rw [h2]
    · obtain ⟨g1, _⟩ := q'q h
      unfold over
      rw [I.dis y (by rw [g1]; simp)]
      exact g1
  have hrel' := RelG.part part I.rel
  have hfr' := From.part part I.frm
  have hrel : Rel θ (relH p.mask (tr i).ps H) w := relG_iff.2 (RelG.part (fun y ob h => by unfold over; rw [h]) hrel')
  have hf := Ru.look h0 I ho hS hr
  have e' : effV T s (lookFr ops o (tr i).a) (relH p.mask (tr i).ps H) (tr i).n o.op = some r := by rw [effV_congr lookFr_agree]; exact e
  refine effV_wp hT hF ⟨by rw [I.frm.same.sym, I.frm.same.txt]; exact hΦ, hD, hrel, hok⟩ hf e' fun θ' w' l hv => hk _ _ ?_
  have hK : ∀ y, Nm D0 tr S y → y < (tr i).n ∨ r.n ≤ y := fun y hy => by
    have := Ru.nm_out h0 I hi hS hy
    rwa [hn1] at this
  have hq : okG (Nm D0 tr S) q' := fun y ob h => Ru.okG_q I y ob (q'q h).1
  have hdis : ∀ y, q' y ≠ none → (relH p.mask (tr i).ps H).get y = none := by
    intro y h
    cases h1 : (relH p.mask (tr i).ps H).get y with
    | none => rfl
    | some ob => exact absurd ((hq' y).1 (hok y ob h1).1) h
  have hdis' : ∀ y, q' y ≠ none → r.h.get y = none := by
    intro y h
    cases h1 : r.h.get y with
    | none => rfl
    | some ob =>
      exfalso
      rcases (l.ok y ob h1).1 with h2 | h2
      · exact h ((hq' y).1 h2)
      · cases h3 : q' y with
        | none => exact h h3
        | some ob' =>
          have := hK y (hq y ob' h3).1
          omega
  obtain ⟨f1, f2⟩ := frame_step hD l hq hK hrel' hdis hdis'
  have f3 := From.step (Ru.n_mono (Nat.zero_le i) (by omega)) hfr' hD l hq hK hdis
  have up : ∀ y, Up (Nm D0 tr (MS pl i)) (tr i).n r.n y → Nm D0 tr (MI pl i) y := by
    rintro y (h | ⟨h1, h2⟩)
    · exact Nm.mono (fun j hj => .inr hj) y h
    · exact .inr ⟨i, .inl rfl, h1, by omega⟩
  have hvr : r.v.real (Env.cut r.n θ' θ) = r.v.real θ' := by
    refine MV.real_same (D := Up (Nm D0 tr (MS pl i)) (tr i).n r.n) ((cut_lo _ θ' θ).mono fun y hy => ?_) hv
    rcases hy with h1 | h1
    · exact Nat.lt_of_lt_of_le (hD y h1) hle
    · exact h1.2
  have hva : (tr (i + 1)).a = putFr (tr i).a o.dst r.v := by rw [ht]
  have hh1 : (tr (i + 1)).h = r.h := by rw [ht]
  refine ⟨k + 1, r.h, Env.cut r.n θ' θ, q', ?_⟩
  rw [← hvr]
  exact {
    sub := Ru.sub_next I ho
    closed := Ru.closed_next I hr
    eff := Ru.eff_next I ho he hkn
    kle := by have := cE_mono (ops := ops) (show i + 1 ≤ ops.size by omega); omega
    heap := fun j hj h => by rw [Ru.h_same (show i + 1 ≤ ops.size by omega) hj (by omega), hh1]
    past := fun j hj h => by
      by_cases h1 : cE ops j ≤ k
      · exact I.past j hj h1
      · have h2 : cE ops j = k + 1 := by omega
        rw [Ru.h_same (show i + 1 ≤ ops.size by omega) hj (by omega), hh1, h2]
        refine ⟨okH_mono (fun y hy => ?_) l.ok, θ', w', l.rel⟩
        exact Nm.mono (fun j hj => ⟨i, o, ho, he, by omega, hj⟩) y (up y hy)
    fr := (Ru.fr_step I ho hS hd hva (MV.ok_mono up hv) f2).1
    fr0 := fun t u h1 h2 => (Ru.fr_step I ho hS hd hva (MV.ok_mono up hv) f2).2 t u h1 h2 (h0.okF t u h2)
    size := by rw [put_size]; exact I.size
    defers := by rw [put_defers']; exact I.defers
    rel := f1
    pend := fun y ob => by
      constructor
      · intro h
        obtain ⟨g1, g2⟩ := q'q h
        obtain ⟨f, h1, h2, h3⟩ := (I.pend y ob).1 g1
        refine ⟨f, .inl h1, h2, ?_⟩
        rintro ⟨x, ox, px, a1, a2, a3, a4, a5, a6⟩
        by_cases a7 : cE ops x < k
        · exact h3 ⟨x, ox, px, a1, a2, a3, a4, a5, a7⟩
        · have : x = i := by
            rcases Nat.lt_trichotomy x i with g | g | g
            · have := cE_lt g a1 a3; omega
            · exact g
            · have := cE_lt g ho he; omega
          subst this
          obtain ⟨b1, b2⟩ := emade h2
          exact g2 (.inr ⟨f, ⟨px, a2, a5⟩, b1, b2⟩)
      · rintro ⟨f, h1 | rfl, h2, h3⟩
        · have hqy := (I.pend y ob).2 ⟨f, h1, h2, fun h => h3 (h.mono (Nat.le_succ k))⟩
          rw [(hq' y).2 ?_]
          · exact hqy
          · obtain ⟨b1, b2⟩ := emade h2
            rintro (g | ⟨j, g1, g2, g3⟩)
            · have := h0.lt y g
              have := Ru.n_mono (Nat.zero_le f) (Nat.le_of_lt (I.sub f h1))
              omega
            · have : j = f := Ru.nm_one (I.sub j (hr j g1)) (I.sub f h1) g2 g3 b1 b2
              subst this
              exact h3 ⟨i, o, p, ho, hp, he, hw, hsm g1, by omega⟩
        · exact absurd h2 (hnm y ob)
    pok := fun f y ob h1 h2 => by
      rcases h1 with h1 | rfl
      · exact I.pok f y ob h1 h2
      · exact absurd h2 (hnm y ob)
    dis := hdis'
    frm := f3 }
/-- One more operation, whichever may come up. -/
theorem Run.op_wp (Ru : Run T s ops pl tr) (hT : TyOk P T) (hF : SoundF Φ P s) (hΦ : Φ θ0.sym θ0.txt) (h0 : Start D0 tr θ0 w0) (hx : SIx ops pl tr D0 θ0 w0 m S A w) {i : Nat} {o : Oper} (ho : ops[i]? = some o) (hS : ¬ S i) (hr : ∀ j, MS pl i j → S j) (hd : DstOk m o)
    {K : Act → World → Prop} {Q : Exit → Act → World → Prop} (hk : ∀ A' w', SIx ops pl tr D0 θ0 w0 m (fun j => S j ∨ j = i) A' w' → K A' w') : wpOp P ops Q i K A w := by
  obtain ⟨k, H, θ, q, I⟩ := hx
  obtain ⟨p, hp⟩ := Ru.pl_some ho
  have hs := Ru.step i o p ho hp
  have hf := Ru.look h0 I ho hS hr
  have hi : i < ops.size := (Array.getElem?_eq_some_iff.1 ho).1
  have want : ∀ b, wants (tr i).a ops.toList o = some b → Region.wanted o (yielded ops A.tmps) = b := fun b h => wants_ok hf (by rw [lookFr_wants]; exact h)
  have noMade : (tr (i + 1)).ps = (tr i).ps → ∀ y ob, ¬ Made ops tr i y ob := by
    rintro h y ob ⟨_, _, _, h1, _⟩
    rw [h] at h1
    have := congrArg List.length h1
    simp at this
  have uok : MV.undef.ok (Nm D0 tr (MI pl i)) := by simp [MV.ok, oks]
  unfold wpOp
  simp only [ho]
  generalize ht : tr (i + 1) = t' at hs
  cases hs with
  | no h1 h2 =>
    rw [if_neg (by rw [want _ h1]; decide)]
    refine hk _ _ ⟨k, H, θ, q, ?_⟩
    rw [← real_undef θ]
    exact Ru.quiet_next h0 I ho hS hr hd h2 (noMade (by rw [ht])) (by rw [ht]) uok
  | noE h1 h2 =>
    rw [if_neg (by rw [want _ h1]; decide)]
    refine hk _ _ ⟨k + 1, H, θ, q, ?_⟩
    rw [← real_undef θ]
    exact Ru.not_next h0 I ho hS hr hd h2 h1 (by rw [ht]) (by rw [ht]) uok
  | pure v h1 h2 h3 =>
    rw [if_pos (want _ h1)]
    refine .inl ?_
    have hnE : isE o.op = false := by unfold isE; rw [h2]
    have both : v.ok (Nm D0 tr (MS pl i)) ∧ (execOp A.eval o).run P w = .ok (.value (v.real θ)) w := by
      cases hrd : reads o.op with
      | false =>
        have hrel : Rel θ (bare (tr i).h) w := relG_iff.2 (RelG.part (fun y o e => by rw [bare_get] at e; cases e) I.rel)
        have hok : okH (Nm D0 tr (MS pl i)) (bare (tr i).h) := fun y o e => by rw [bare_get] at e; cases e
        have e3 : pureOp T (lookFr ops o (tr i).a) (bare (tr i).h) o.op = some v := by
          rw [pureOp_congr lookFr_agree, pureOp_still hrd _ (tr i).h]; exact h3
        exact pure_sound hT hf.ok hf.rel hrel hok e3
      | true =>
        obtain ⟨g1, g2⟩ := Ru.range I ho hp h2 hrd hS hr
        have rd := fun j hj => Ru.read ho hp h3 (by rw [ht]) (j := j) hj
        -- here
        obtain ⟨jk, j1, j2⟩ := cE_idx I.kle
        have now := rd jk j1 (by omega) (by omega)
        rw [I.heap jk j1 j2] at now
        have hrel : Rel θ H w := relG_iff.2 (RelG.part (fun y o e => by unfold over; rw [e]) I.rel)
        have hfS : FrOk (Nm D0 tr S) θ (lookFr ops o (tr i).a) A m := hf.env (Nm.mono hr) (same_refl _ θ)
        have hokS : okH (Nm D0 tr S) H := okH_mono (Nm.mono fun j hj => Ru.em_s I (Nat.le_refl k) hj) (Ru.okH_now I)
        have run := (pure_sound hT hfS.ok hfS.rel hrel hokS (by rw [pureOp_congr lookFr_agree]; exact now)).2
        -- at the least heap
        have := I.kle
        obtain ⟨jl, l1, l2⟩ := cE_idx (ops := ops) (k := (p.rd.getD (cE ops i, cE ops i)).1) (by omega)
        have low := rd jl l1 (by omega) (by omega)
        obtain ⟨b1, θl, wl, b2⟩ := I.past jl l1 (by omega)
        have hokl : okH (Nm D0 tr (MS pl i)) (tr jl).h := okH_mono (Nm.mono fun j hj => by
          obtain ⟨x, ox, c1, c2, c3, c4⟩ := hj
          obtain ⟨px, hpx⟩ := Ru.pl_some c1
          exact Ru.mi_sub ⟨p, hp, (Ru.plan.read i o p ho hp h2 hrd x ox px c1 c2 hpx).1 (by omega)⟩ c4) b1
        obtain ⟨Al, hAl⟩ := act_of (lookFr ops o (tr i).a) θl
        exact ⟨(pure_sound hT hf.ok hAl b2 hokl (by rw [pureOp_congr lookFr_agree]; exact low)).1, run⟩
    unfold Oper.wp
    rw [both.2, Oper.upon_value]
    exact hk _ _ ⟨k, H, θ, q, Ru.quiet_next h0 I ho hS hr hd hnE (noMade (by rw [ht])) (by rw [ht]) (MV.ok_mono (Nm.mono fun j hj => .inr hj) both.1)⟩
  | fresh r ob h1 h2 h3 h4 =>
    rw [if_pos (want _ h1)]
    exact .inl (Ru.fresh_wp hT h0 I ho hS hr hd h2 h3 h4 ht hk)
  | eff r h1 h2 h3 h4 =>
    rw [if_pos (want _ h1)]
    exact .inl (Ru.eff_wp hT hF hΦ h0 I ho hp hS hr hd h2 h1 h3 h4 ht hk)
end
end Go.Proofs.YtkeckbmhaplkpaaGreatDoor.Ln
/- Regions in any order, last part: the whole region. -/
namespace Go.Proofs.YtkeckbmhaplkpaaGreatDoor.Ln
open Go
variable {Φ : Fact}
variable {P : Program} {T : Types}

/-- What may come up. -/
theorem ready_mem {ops : Array Oper} {listed : Array Bool} {i : Nat} (h : i ∈ Region.ready .any ops listed) : ∃ o, ops[i]? = some o ∧ listed[i]? = some false ∧ ∀ e ∈ o.after, Region.binds .any e = true → listed[e.on]? = some true := by
  unfold Region.ready at h
  obtain ⟨h1, h2⟩ := List.mem_filter.1 h
  have hi : i < ops.size := List.mem_range.1 h1
  simp only [Bool.and_eq_true, Bool.not_eq_true'] at h2
  obtain ⟨h3, h4⟩ := h2
  refine ⟨ops[i], Array.getElem?_eq_getElem hi, ?_, fun e he hb => ?_⟩
  · rw [Array.getD_eq_getD_getElem?] at h3
    cases hl : listed[i]? with
    | none => rw [hl] at h3; cases h3
    | some b => rw [hl] at h3; simp only [Option.getD_some] at h3; rw [h3]
  · rw [Array.getElem?_eq_getElem hi] at h4
    simp only [Option.map_some, Option.getD_some, Array.all_eq_true_iff_forall_mem] at h4
    have := h4 e he
    rw [hb] at this
    simp only [Bool.not_true, Bool.false_or] at this
    rw [Array.getD_eq_getD_getElem?] at this
    cases hl : listed[e.on]? with
    | none => rw [hl] at this; cases this
    | some b => rw [hl] at this; simp only [Option.getD_some] at this; rw [this]
theorem ready_of {ops : Array Oper} {listed : Array Bool} {i : Nat} {o : Oper} (ho : ops[i]? = some o) (hl : listed[i]? = some false) (h : ∀ e ∈ o.after, Region.binds .any e = true → listed[e.on]? = some true) : i ∈ Region.ready .any ops listed := by
  unfold Region.ready
  have hi : i < ops.size := (Array.getElem?_eq_some_iff.1 ho).1
  refine List.mem_filter.2 ⟨List.mem_range.2 hi, ?_⟩
  rw [ho]
  simp only [Array.getD_eq_getD_getElem?, hl, Option.getD_some, Option.map_some, Bool.not_false, Bool.true_and, Array.all_eq_true_iff_forall_mem]
  intro e he
  cases hb : Region.binds .any e
  · simp
  · rw [h e he hb]; simp
section
variable {s : Fns} {ops : Array Oper} {pl : List Pl} {tr : Nat → Dt}
variable {D0 : Nat → Prop} {θ0 : Env} {w0 : World} {m : Nat}
theorem Run.all_done (Ru : Run T s ops pl tr) {listed : Array Bool} (hz : listed.size = ops.size) (h : Region.ready .any ops listed = []) : ∀ i, i < ops.size → listed[i]? = some true := by
  intro i
  induction i using Nat.strongRecOn with
  | _ i ih =>
    intro hi
    have ho : ops[i]? = some ops[i] := Array.getElem?_eq_getElem hi
    cases hb : listed[i]? with
    | none => rw [Array.getElem?_eq_none_iff] at hb; omega
    | some b =>
      cases b
      · have : i ∈ Region.ready .any ops listed := ready_of ho hb fun e he hbd => by
          have hlt := Ru.plan.back i _ ho e he hbd
          exact ih e.on hlt (by omega)
        rw [h] at this
        cases this
      · rfl
theorem Run.ms_in (Ru : Run T s ops pl tr) {listed : Array Bool} {i : Nat} {o : Oper} (ho : ops[i]? = some o) (hc : ∀ j, listed[j]? = some true → ∀ l, MS pl j l → listed[l]? = some true) (h : ∀ e ∈ o.after, Region.binds .any e = true → listed[e.on]? = some true) : ∀ j, MS pl i j → listed[j]? = some true := by
  rintro j ⟨p, hp, hb⟩
  obtain ⟨e, h1, h2, h3⟩ := Ru.plan.closed i o p ho hp j hb
  have he := h e h1 h2
  rcases h3 with rfl | ⟨p', h4, h5⟩
  · exact he
  · exact hc e.on he j ⟨p', h4, h5⟩
theorem Run.any_wp (Ru : Run T s ops pl tr) (hT : TyOk P T) (hF : SoundF Φ P s) (hΦ : Φ θ0.sym θ0.txt) (h0 : Start D0 tr θ0 w0) (hd : ∀ o ∈ ops.toList, DstOk m o) {Q : Exit → Act → World → Prop} (hQ : ∀ A w, SIx ops pl tr D0 θ0 w0 m (· < ops.size) A w → Q .normal A w) :
    ∀ (fuel : Nat) (listed : Array Bool) (A : Act) (w : World), listed.size = ops.size → listed.toList.count false ≤ fuel → SIx ops pl tr D0 θ0 w0 m (fun i => listed[i]? = some true) A w → wpAny P .any ops Q fuel listed A w := by
  have fin : ∀ (listed : Array Bool) (A : Act) (w : World), listed.size = ops.size → Region.ready .any ops listed = [] → SIx ops pl tr D0 θ0 w0 m (fun i => listed[i]? = some true) A w → Q .normal A w := by
    intro listed A w hz hr hx
    refine hQ A w ?_
    have : (fun i => listed[i]? = some true) = (· < ops.size) := by
      funext i
      refine propext ⟨fun h => ?_, Ru.all_done hz hr i⟩
      have := (Array.getElem?_eq_some_iff.1 h).1
      omega
    rw [← this]
    exact hx
  intro fuel
  induction fuel with
  | zero =>
    intro listed A w hz hc hx
    have hr : Region.ready .any ops listed = [] := by
      cases hl : Region.ready .any ops listed with
      | nil => rfl
      | cons i r =>
        obtain ⟨o, _, h1, _⟩ := ready_mem (i := i) (by rw [hl]; exact List.mem_cons_self)
        have : false ∈ listed.toList := by
          rw [← Array.getElem?_toList] at h1
          exact List.mem_of_getElem? h1
        have := List.count_pos_iff.2 this
        omega
    exact ⟨hr, fin listed A w hz hr hx⟩
  | succ fuel ih =>
    intro listed A w hz hc hx
    refine ⟨fun hr => fin listed A w hz hr hx, fun i hi => ?_⟩
    obtain ⟨o, ho, hl, hb⟩ := ready_mem hi
    have hil : i < listed.size := (Array.getElem?_eq_some_iff.1 hl).1
    have hcl : ∀ j, listed[j]? = some true → ∀ l, MS pl j l → listed[l]? = some true := by
      obtain ⟨k, H, θ, q, I⟩ := hx
      exact fun j hj l h => I.closed j hj l h
    refine Ru.op_wp hT hF hΦ h0 hx ho (by rw [hl]; simp) (Ru.ms_in ho hcl hb) (hd o (by rw [← Array.getElem?_toList] at ho; exact List.mem_of_getElem? ho)) fun A' w' hx' => ?_
    refine ih _ A' w' (by simpa using hz) ?_ ?_
    · have hil' : i < listed.toList.length := by simpa using hil
      have hf : listed.toList[i]'hil' = false := by
        have := (Array.getElem?_eq_some_iff.1 hl).2
        simpa using this
      have := List.count_set (a := true) (b := false) (l := listed.toList) (h := hil')
      rw [hf] at this
      have hp : 0 < listed.toList.count false := List.count_pos_iff.2 (hf ▸ List.getElem_mem hil')
      have e1 : (listed.setIfInBounds i true).toList = listed.toList.set i true := by simp
      rw [e1, this]
      show (listed.toList.count false - 1) + 0 ≤ fuel
      omega
    · have : (fun j => (listed.setIfInBounds i true)[j]? = some true) = (fun j => listed[j]? = some true ∨ j = i) := by
        funext j
        refine propext ?_
        by_cases hji : j = i
        · subst hji
          rw [Array.getElem?_setIfInBounds_self_of_lt hil]
          simp
        · rw [Array.getElem?_setIfInBounds_ne (Ne.symm hji)]
          simp [hji]
      rw [this]
      exact hx'
/-- What the whole region leaves. -/
theorem Run.done (Ru : Run T s ops pl tr) (h0 : Start D0 tr θ0 w0) {w1 : World} {A : Act} (hx : SIx ops pl tr D0 θ0 w0 m (· < ops.size) A w1) :
    ∃ θ', Leads D0 (tr 0).n θ0 (tr 0).h w0 (tr ops.size).n θ' ((tr ops.size).ps.foldl (fun h p => h.set p.y p.o) (tr ops.size).h) w1 ∧ FrOk (Up D0 (tr 0).n (tr ops.size).n) θ' (tr ops.size).a A m := by
  obtain ⟨k, H, θ, q, I⟩ := hx
  have hk : k = cE ops ops.size := by
    apply Nat.le_antisymm I.kle
    apply Nat.le_of_not_lt
    intro h
    obtain ⟨e, o, g1, g2, g3, g4⟩ := cE_at (Nat.le_refl _) h
    have := (I.eff e o g2 g3).1 g1
    omega
  have hH := I.heap ops.size (Nat.le_refl _) hk.symm
  have up : ∀ y, Nm D0 tr (· < ops.size) y → Up D0 (tr 0).n (tr ops.size).n y := by
    rintro y (h | ⟨j, h1, h2, h3⟩)
    · exact .inl h
    · have a := Ru.n_mono (Nat.zero_le j) (Nat.le_of_lt h1)
      have b := Ru.n_mono (show j + 1 ≤ ops.size from h1) (Nat.le_refl _)
      exact .inr ⟨by omega, by omega⟩
  have get : ∀ {y ob}, ((tr ops.size).ps.foldl (fun h p => h.set p.y p.o) (tr ops.size).h).get y = some ob → over H.get q y = some ob := by
    intro y ob h
    unfold over
    rcases foldl_get h with ⟨p, h1, rfl, rfl⟩ | h1
    · obtain ⟨g1, g2, g3⟩ := Ru.ps_mem (Nat.le_refl _) h1
      have := (I.pend p.y p.o).2 ⟨p.i, g1, g2, by rwa [← hk] at g3⟩
      rw [I.dis p.y (by rw [this]; simp)]
      exact this
    · rw [hH] at h1
      rw [h1]
  refine ⟨θ, ?_, ?_⟩
  · exact {
      le := Ru.n_mono (Nat.zero_le _) (Nat.le_refl _)
      same := I.frm.same
      rel := relG_iff.2 (RelG.part (fun y ob h => get h) I.rel)
      ok := fun y ob h => by
        have := Ru.okG_all I y ob (get h)
        exact ⟨up y this.1, MObj.ok_mono up this.2⟩
      os := I.frm.os
      tape := I.frm.tape
      output := I.frm.output
      size := I.frm.size
      kept := I.frm.kept
      born := fun y ⟨ob, h1, h2⟩ => I.frm.born y ⟨ob, get h1, h2⟩ }
  · have both : ∀ t v, (tr ops.size).a.get t = some v → v.ok (Up D0 (tr 0).n (tr ops.size).n) ∧ A.tmps.getD t undef = v.real θ := by
      intro t v h
      by_cases hq : ∃ (j : Nat) (oj : Oper), ops[j]? = some oj ∧ oj.dst = some t
      · obtain ⟨j, oj, h1, h2⟩ := hq
        have hj : j < ops.size := (Array.getElem?_eq_some_iff.1 h1).1
        have h3 := Ru.a_keep (i := j + 1) (by omega) (Nat.le_refl _) (fun r o a1 a2 a3 a4 => by
          have := Ru.plan.dst j r oj o t h1 a3 h2 a4
          omega) h
        obtain ⟨g1, g2⟩ := I.fr j oj t v hj h1 h2 h3
        exact ⟨MV.ok_mono (fun y hy => up y (Nm.mono (fun l hl => Ru.mi_s I hj hl) y hy)) g1, g2⟩
      · have h3 := Ru.a_keep (Nat.zero_le _) (Nat.le_refl _) (fun r o _ _ a3 a4 => hq ⟨r, o, a3, a4⟩) h
        exact ⟨MV.ok_mono (fun y hy => .inl hy) (h0.okF t v h3), I.fr0 t v (fun r o _ a3 a4 => hq ⟨r, o, a3, a4⟩) h3⟩
    exact ⟨fun t v h => (both t v h).1, ⟨fun t v h => (both t v h).2, I.defers⟩, I.size⟩
end
/-- A region run in any order is sound, if its plan is. -/
theorem drawn_sound (hT : TyOk P T) (hP : P.follows .mixedOrders = true) {ops : Array Oper} {pl : List Pl} (plan : PlanOk ops pl) : Drawn Φ P T ops pl := by
  intro s hs m id t x e hd D θ w A Q hi hf hQ
  change dOps T s ops.toList ops.toList pl 0 ⟨t.a, t.h, t.n, [], [], []⟩ = some x at e
  obtain ⟨tr, e1, e2, _, e4⟩ := dOps_some _ _ _ _ _ e
  have hl : ops.toList.length = ops.size := by simp
  rw [hl] at e2
  unfold dEnd at e2
  split at e2
  · cases e2
  rename_i hc
  rw [relAllK_eq] at e2
  obtain rfl := Option.some.inj e2
  have Ru : Run T s ops pl tr := ⟨plan, by rw [e1], by rw [e1], hc, fun j o p h1 h2 => by
    have := e4 j o p (by rw [Array.getElem?_toList]; exact h1) h2
    rwa [Nat.zero_add] at this⟩
  have a0 : (tr 0).a = t.a := by rw [e1]
  have n0 : (tr 0).n = t.n := by rw [e1]
  have h0' : (tr 0).h = t.h := by rw [e1]
  have h0 : Start D tr θ w := ⟨by rw [n0]; exact hi.lt, by rw [a0]; exact hf.ok, by rw [h0']; exact hi.ok, by rw [h0']; exact hi.rel⟩
  refine wp_region_any hP (Ru.any_wp hT hs hi.fact h0 hd (fun A' w' hx => ?_) ops.size (Array.replicate ops.size false) A { w with drawn := w.drawn + 1 } (by simp) (by simp) ?_)
  · obtain ⟨θ', l, f⟩ := Ru.done h0 hx
    rw [n0, h0'] at l
    rw [n0] at f
    exact hQ _ _ _ ⟨rfl, θ', l, f⟩
  · have hS : (fun i : Nat => (Array.replicate ops.size false)[i]? = some true) = fun _ => False := by
      funext i
      refine propext ⟨fun h => ?_, False.elim⟩
      rw [Array.getElem?_replicate] at h
      split at h <;> cases h
    rw [hS]
    have hrel : RelG θ (over t.h.get fun _ => none) { w with drawn := w.drawn + 1 } :=
      RelG.part (g := t.h.get) (fun y o h => by unfold over at h; split at h <;> simp_all) (relG_iff.1 ⟨fun y o h => hi.rel.obj y o h, hi.rel.sep, hi.rel.lt⟩)
    refine ⟨0, t.h, θ, fun _ => none, ?_⟩
    exact {
      sub := fun i h => h.elim
      closed := fun i h => h.elim
      eff := fun e o _ _ => ⟨False.elim, fun h => by omega⟩
      kle := Nat.zero_le _
      heap := fun i hi0 hc0 => by rw [Ru.h_keep (Nat.zero_le i) hi0 (by simpa [cE] using hc0.symm), h0']
      past := fun i hi0 hc0 => by
        rw [Ru.h_keep (Nat.zero_le i) hi0 (by simp only [cE]; omega), h0']
        exact ⟨okH_mono (fun y hy => .inl hy) hi.ok, θ, w, hi.rel⟩
      fr := fun i o d v h => h.elim
      fr0 := fun t' v _ h => by rw [a0] at h; exact hf.rel.1 t' v h
      size := hf.size
      defers := hf.rel.2
      rel := hrel
      pend := fun y ob => Iff.intro (fun h => by cases h) (fun h => by obtain ⟨f, h1, _⟩ := h; exact h1.elim)
      pok := fun f y ob h => h.elim
      dis := fun y h => absurd rfl h
      frm := by
        rw [n0, h0']
        exact ⟨Env.same.refl _ _, rfl, rfl, rfl, Nat.le_refl _, fun _ _ _ => rfl, fun y ⟨o, h1, h2⟩ => .inl ⟨y, ⟨o, by
          unfold over at h1
          split at h1 <;> simp_all, h2⟩, rfl⟩⟩ }
end Go.Proofs.YtkeckbmhaplkpaaGreatDoor.Ln
/- Control is sound: calls, loops, the whole. -/
namespace Go.Proofs.YtkeckbmhaplkpaaGreatDoor.Ln
open Go
variable {Φ : Fact}
variable {P : Program} {T : Types}

theorem argsK_some {β : Type} (l : List MV) : ∀ (i : Nat) (a : Fr) (k : Fr → Option β) (y : β), argsK l i a k = some y →
    ∃ b : Fr, k b = some y ∧ ∀ t u, b.get t = some u → (i ≤ t ∧ l[t - i]? = some u) ∨ (¬ (i ≤ t ∧ t < i + l.length) ∧ a.get t = some u) := by
  induction l with
  | nil => exact fun i a k y h => ⟨a, h, fun t u e => .inr ⟨by simp only [List.length_nil]; omega, e⟩⟩
  | cons v r ih =>
    intro i a k y h
    change a.setK i v (fun a => argsK r (Nat.succ i) a k) = some y at h
    rw [PT.setK_eq] at h
    obtain ⟨b, h1, h2⟩ := ih _ _ _ _ h
    refine ⟨b, h1, fun t u e => ?_⟩
    rcases h2 t u e with ⟨h3, h4⟩ | ⟨h3, h4⟩
    · refine .inl ⟨by omega, ?_⟩
      rw [show t - i = (t - (i + 1)) + 1 by omega, List.getElem?_cons_succ]
      exact h4
    · rcases PT.get_set h4 with ⟨rfl, rfl⟩ | ⟨hne, h5⟩
      · exact .inl ⟨Nat.le_refl _, by simp⟩
      · refine .inr ⟨?_, h5⟩
        rintro ⟨h6, h7⟩
        simp only [List.length_cons] at h7
        exact h3 ⟨by omega, by omega⟩
theorem res_ok (hT : TyOk P T) {D : Nat → Prop} {n : Nat} {θ : Env} {h : Heap} {w : World} {a : Fr} {A : Act} {m : Nat} (hi : Inv Φ D n θ h w) (hf : FrOk D θ a A m) : ∀ (l : List ResultVar) (vs : List MV), ress T a h l = some vs →
    oks D vs ∧ (l.mapM fun
      | .tmp t => pure (A.tmps.getD t undef)
      | .cell a t => do loadVar t (← asAddr (A.tmps.getD a undef)) : Sem (List Value)).run P w = .ok (reals θ vs) w := by
  intro l
  induction l with
  | nil => intro vs e; obtain rfl := Option.some.inj e; exact ⟨trivial, rfl⟩
  | cons x r ih =>
    intro vs e
    change ocons (resV T a h x) (ress T a h r) = some vs at e
    unfold ocons at e
    split at e
    · cases e
    rename_i v hv
    split at e
    · cases e
    rename_i us hus
    obtain rfl := Option.some.inj e
    obtain ⟨i1, i2⟩ := ih us hus
    have one : v.ok D ∧ ((fun (x : ResultVar) => match x with
      | .tmp t => pure (A.tmps.getD t undef)
      | .cell a t => do loadVar t (← asAddr (A.tmps.getD a undef)) : ResultVar → Sem Value) x).run P w = .ok (v.real θ) w := by
      cases x with
      | tmp t =>
        have hv : a.get t = some v := hv
        refine ⟨hf.ok t v hv, ?_⟩
        simp only [Sem.run_pure]
        rw [hf.rel.1 t v hv]
      | cell p t =>
        have hv : pLoad T h t (a.get p) = some v := hv
        unfold pLoad at hv
        split at hv
        · cases hv
        rename_i q hq
        split at hv
        · cases hv
        rename_i ti hti
        obtain ⟨l1, l2⟩ := load_ok hT hti hi.rel hi.ok hv
        refine ⟨l1, ?_⟩
        have hrel := hf.rel.1 p q hq
        unfold loadV at hv
        split at hv
        · simp only [hrel, MV.real] at l2 ⊢
          exact l2
        · cases hv
    refine ⟨by simp only [oks]; exact ⟨one.1, i1⟩, ?_⟩
    rw [List.mapM_cons, Sem.run_bind, one.2]
    simp only [Result.andThen_ok, Sem.run_bind, i2, Sem.run_pure, reals]
theorem results_ok (hT : TyOk P T) {D : Nat → Prop} {n : Nat} {θ : Env} {h : Heap} {w : World} {a : Fr} {A : Act} {m : Nat} (hi : Inv Φ D n θ h w) (hf : FrOk D θ a A m) {fn : Func} {vs : List MV} (e : ress T a h fn.results.toList = some vs) :
    (oneOf vs).ok D ∧ (results fn A.tmps).run P w = .ok ((oneOf vs).real θ) w := by
  obtain ⟨h1, h2⟩ := res_ok hT hi hf _ _ e
  refine ⟨?_, ?_⟩
  · unfold oneOf
    split
    · simp only [oks] at h1; exact h1.1
    · simp only [MV.ok]; exact h1
  · unfold results
    rw [Array.mapM_eq_mapM_toList, Sem.run_bind]
    have : ∀ {α : Type} (f : Sem (List α)) (v : List α), f.run P w = .ok v w → (List.toArray <$> f).run P w = .ok v.toArray w := by
      intro α f v hf
      rw [map_eq_pure_bind, Sem.run_bind, hf]; rfl
    refine (congrArg (fun q => Result.andThen q fun (vs : Array Value) w' => (pure (if h : vs.size = 1 then vs[0] else .tuple vs) : Sem Value).run P w') (this _ _ h2)).trans ?_
    simp only [Result.andThen_ok, Sem.run_pure]
    congr 1
    by_cases hl : vs.length = 1
    · obtain ⟨v, rfl⟩ := List.length_eq_one_iff.1 hl
      rfl
    · rw [dif_neg (by simp [reals_len]; exact hl)]
      have : oneOf vs = .tuple vs := by
        unfold oneOf
        split
        · exact absurd rfl hl
        · rfl
      rw [this]
      simp [MV.real]
/-- What the table of functions says. -/
def FxOk (Φ : Fact) (P : Program) (T : Types) (F : PT FX) : Prop := ∀ f fx, F.get f = some fx → P.funcs[f]? = some fx.fn ∧ (fx.fn.name == "runtime.NumGoroutine") = false ∧ ∀ b, fx.fn.body = some b → Fit Φ P T fx.fn.ntmps fx.plans b
def OrcOk (Φ : Fact) (P : Program) (orc : Orc) : Prop := ∀ f args h n r, orc f args h n = some (some r) → FnOk Φ P f args h n r
theorem fn_step (hT : TyOk P T) {F : PT FX} (hF : FxOk Φ P T F) {orc : Orc} (hO : OrcOk Φ P orc) {s : Fns} (hc : SoundC Φ P T s) : SoundF Φ P (stepF T F orc s) := by
  intro f args h n r e
  change kOrc T F s f args h n (orc f args h n) = some r at e
  unfold kOrc at e
  split at e
  · rename_i q hq
    subst e
    exact hO f args h n r hq
  intro D θ w hi hargs
  unfold kFunc at e
  split at e
  · cases e
  rename_i fx hfx
  split at e
  · cases e
  rename_i b hb
  obtain ⟨h1, h2, h3⟩ := hF f fx hfx
  obtain ⟨a, e2, ha⟩ := argsK_some _ _ _ _ _ e
  refine .inl ⟨?_, ?_⟩
  · simp only [callFunc, program, bind, Sem.bind, Sem.run, h1, h2, hb]
    rfl
  refine calls_of_wp h1 hb ?_
  unfold kRes at e2
  split at e2
  · cases e2
  rename_i x hx
  have hfr : FrOk D θ a { tmps := (reals θ args).toArray ++ Array.replicate (fx.fn.ntmps - (reals θ args).toArray.size) undef, defers := [] } fx.fn.ntmps := by
    refine ⟨fun t v e => ?_, ⟨fun t v e => ?_, rfl⟩, by simp; omega⟩
    · rcases ha t v e with ⟨_, h4⟩ | ⟨_, h4⟩
      · exact (oks_iff D _).1 hargs v (List.mem_of_getElem? h4)
      · obtain rfl := Option.some.inj (PT.get_fill _ _ _ _ h4)
        simp [MV.ok, oks]
    · rcases ha t v e with ⟨_, h4⟩ | ⟨h5, h4⟩
      · have hlt := (List.getElem?_eq_some_iff.1 h4).1
        simp only [Nat.sub_zero] at h4 hlt
        rw [Array.getD_eq_getD_getElem?, Array.getElem?_append_left (by simp [reals_len]; exact hlt), List.getElem?_toArray, reals_get, h4]
        rfl
      · obtain rfl := Option.some.inj (PT.get_fill _ _ _ _ h4)
        rw [Array.getD_eq_getD_getElem?, Array.getElem?_append_right (by simp [reals_len]; omega), Array.getElem?_replicate, real_undef]
        split <;> rfl
  refine hc fx.plans b ⟨a, h, n⟩ x hx fx.fn.ntmps (h3 b hb) D θ w _ _ hi hfr ?_
  rintro ex A' w' ⟨he, θ', l, f'⟩
  have fin : ∀ vs, ress T x.s.a x.s.h fx.fn.results.toList = some vs → r = ⟨oneOf vs, x.s.h, x.s.n⟩ → A'.defers = [] ∧ ∃ v, (results fx.fn A'.tmps).run P w' = .ok v w' ∧ Ret D n θ h w r (.returned v) w' := by
    intro vs h4 h5
    subst h5
    obtain ⟨r1, r2⟩ := results_ok hT (l.inv hi) f' h4
    exact ⟨f'.rel.2, _, r2, θ', rfl, l, r1⟩
  have got : ∀ o, kRes1 x.s.h x.s.n o = some r → ∃ vs, o = some vs ∧ r = ⟨oneOf vs, x.s.h, x.s.n⟩ := by
    intro o h4
    unfold kRes1 at h4
    split at h4
    · cases h4
    · exact ⟨_, rfl, (Option.some.inj h4).symm⟩
  obtain ⟨xe, xs⟩ := x
  cases xe with
  | normal =>
    obtain ⟨vs, g1, g2⟩ := got _ e2
    subst he
    exact fin vs g1 g2
  | exit i => cases e2
  | ret =>
    obtain ⟨vs, g1, g2⟩ := got _ e2
    subst he
    exact fin vs g1 g2
end Go.Proofs.YtkeckbmhaplkpaaGreatDoor.Ln
/- The evaluator is sound. -/
namespace Go.Proofs.YtkeckbmhaplkpaaGreatDoor.Ln
open Go
variable {Φ : Fact}
variable {P : Program} {T : Types} {F : PT FX} {orc : Orc}

theorem fns_succ (n : Nat) : fns T F orc (n + 1) = stepF T F orc (fns T F orc n) := rfl
theorem sound (hT : TyOk P T) (hF : FxOk Φ P T F) (hO : OrcOk Φ P orc) (N : Nat) : SoundC Φ P T (fns T F orc N) ∧ SoundF Φ P (fns T F orc N) := by
  induction N using Nat.strongRecOn with
  | _ N ih =>
  cases N with
  | zero => exact ⟨fun pl c t x e => (by cases e), fun f args h n r e => (by cases e)⟩
  | succ N =>
    obtain ⟨hc, hf⟩ := ih N (by omega)
    refine ⟨?_, by rw [fns_succ]; exact fn_step hT hF hO hc⟩
    intro pl c t x e m hfit D θ w A Q hi hfr hQ
    by_cases hl : ∀ b, c ≠ .loop b
    · rw [fns_succ] at e
      exact code_step hT hc hf pl c hl t x e m hfit D θ w A Q hi hfr hQ
    · obtain ⟨b, rfl⟩ : ∃ b, c = .loop b := by
        cases c with
        | loop b => exact ⟨b, rfl⟩
        | _ => exact absurd (fun b h => by cases h) hl
      refine wp_loop_ghost (fun k A' w' => k ≤ N + 1 ∧ ∃ t' θ', (fns T F orc k).c pl (.loop b) t' = some x ∧ Leads D t.n θ t.h w t'.n θ' t'.h w' ∧ FrOk (Up D t.n t'.n) θ' t'.a A' m) (N + 1) ?_ ?_
      · have hup : (Up D t.n t.n) = D := funext fun y => propext (up_self y)
        exact ⟨Nat.le_refl _, t, θ, e, Leads.refl hi.rel hi.ok, by rw [hup]; exact hfr⟩
      · rintro k A' w' ⟨hk, t', θ', e', l, f⟩
        cases k with
        | zero => cases e'
        | succ k =>
          obtain ⟨hc', _⟩ := ih k (by omega)
          change kSeq ((fns T F orc k).c pl (.loop b)) ((fns T F orc k).c pl b t') = some x at e'
          obtain ⟨p, h1, h2⟩ := kSeq_some e'
          refine hc' pl b t' p h1 m hfit _ θ' w' A' _ (l.inv hi) f ?_
          refine then_of (h2.imp And.left id) (fun e A' w' q => hQ e A' w' (q.lead l)) fun hn A1 w1 θ1 l1 f1 => ?_
          rcases h2 with ⟨_, h3⟩ | ⟨h3, _⟩
          · refine ⟨k, by omega, by omega, p.s, θ1, h3, l.trans l1, ?_⟩
            have : (Up (Up D t.n t'.n) t'.n p.s.n) = Up D t.n p.s.n := funext fun y => propext (up_up l.le l1.le y)
            rw [← this]; exact f1
          · exact absurd hn h3
end Go.Proofs.YtkeckbmhaplkpaaGreatDoor.Ln
/- A region's plan, checked by a Bool; tables by their entries. -/
namespace Go.Proofs.YtkeckbmhaplkpaaGreatDoor.Ln
open Go
variable {Φ : Fact}
noncomputable section
variable {P : Program} {T : Types}

def allB (n : Nat) (f : Nat → Bool) : Bool := Nat.rec (motive := fun _ => Bool) true (fun k ih => Bool.rec (motive := fun _ => Bool) false ih (f k)) n
theorem allB_some {f : Nat → Bool} : ∀ {n : Nat}, allB n f = true → ∀ i, i < n → f i = true := by
  intro n
  induction n with
  | zero => intro _ i h; omega
  | succ n ih =>
    intro h i hi
    change Bool.rec (motive := fun _ => Bool) false (allB n f) (f n) = true at h
    cases hf : f n
    · rw [hf] at h; cases h
    · rw [hf] at h
      rcases Nat.lt_or_ge i n with h1 | h1
      · exact ih h i h1
      · rw [show i = n by omega]; exact hf
def cEl (l : List Oper) (i : Nat) : Nat := Nat.rec (motive := fun _ => Nat) 0 (fun k ih => match lget l k with | some o => (match isE o.op with | true => Nat.succ ih | false => ih) | none => ih) i
theorem cEl_eq (ops : Array Oper) (i : Nat) : cEl ops.toList i = cE ops i := by
  induction i with
  | zero => rfl
  | succ i ih =>
    change (match lget ops.toList i with | some o => (match isE o.op with | true => Nat.succ (cEl ops.toList i) | false => cEl ops.toList i) | none => cEl ops.toList i) = _
    rw [lget_eq, Array.getElem?_toList, ih]
    simp only [cE]
    cases ops[i]? with
    | none => simp
    | some o => cases h : isE o.op <;> simp [h]
def maskAt (pl : List Pl) (i : Nat) : Nat := match lget pl i with | some p => p.mask | none => 0
def maskOf (pl : List Pl) (es : List Edge) : Nat := List.rec (motive := fun _ => Nat) 0 (fun e _ ih => match Region.binds .any e with
  | true => Nat.lor (Nat.lor (Nat.shiftLeft 1 e.on) (maskAt pl e.on)) ih
  | false => ih) es
def backB (i : Nat) (es : List Edge) : Bool := List.rec (motive := fun _ => Bool) true (fun e _ ih => match Region.binds .any e with
  | true => Bool.rec (motive := fun _ => Bool) false ih (Nat.ble (Nat.succ e.on) i)
  | false => ih) es
def memN (t : Nat) (l : List Nat) : Bool := List.rec (motive := fun _ => Bool) false (fun x _ ih => Bool.rec (motive := fun _ => Bool) ih true (Nat.beq x t)) l
theorem memN_of {t : Nat} {l : List Nat} (h : t ∈ l) : memN t l = true := by
  induction l with
  | nil => cases h
  | cons x r ih =>
    change Bool.rec (motive := fun _ => Bool) (memN t r) true (Nat.beq x t) = true
    rcases List.mem_cons.1 h with rfl | h
    · rw [natBeq]; simp
    · rw [ih h]; cases Nat.beq x t <;> rfl
def sameDst (a b : Option Nat) : Bool := match a with
  | none => false
  | some x => match b with | none => false | some y => Nat.beq x y
def impB (a b : Bool) : Bool := match a with | true => b | false => true
theorem impB_eq {a b : Bool} (h : impB a b = true) (ha : a = true) : b = true := by subst ha; exact h
def looksDst (look : List Nat) (d : Option Nat) : Bool := match d with | none => false | some d => memN d look
/-- An operation i held against an operation j. -/
def pairB (i : Nat) (look : List Nat) (o : Oper) (p : Pl) (rd : Bool) (lo hi : Nat) (j : Nat) (oj : Oper) (pj : Pl) (cj : Nat) : Bool :=
  Bool.and (impB (sameDst o.dst oj.dst) (Nat.beq i j))
  (Bool.and (impB (looksDst look oj.dst) (Bool.or (Nat.beq i j) (Bool.or (Bool.and (Nat.ble (Nat.succ j) i) (bitOf p.mask j)) (Bool.and (Nat.ble (Nat.succ i) j) (bitOf pj.mask i)))))
  (impB (isE oj.op) (Bool.and (impB (Bool.and (Nat.ble (Nat.succ i) j) (isE o.op)) (bitOf pj.mask i))
    (impB rd (Bool.and (impB (Nat.ble (Nat.succ cj) lo) (bitOf p.mask j)) (impB (Nat.ble hi cj) (bitOf pj.mask i)))))))
def isRd (op : Op) : Bool := match cls op with | .pure => reads op | _ => false
def pairsB (l : List Oper) (pl : List Pl) (n i : Nat) (look : List Nat) (o : Oper) (p : Pl) (lo hi : Nat) : Bool :=
  allB n fun j => match lget l j with
    | none => false
    | some oj => match lget pl j with
      | none => false
      | some pj => pairB i look o p (isRd o.op) lo hi j oj pj (cEl l j)
def rdOf (p : Pl) (c : Nat) : Nat × Nat := match p.rd with | none => (c, c) | some r => r
def opB (ops : Array Oper) (l : List Oper) (pl : List Pl) (n tot i : Nat) (o : Oper) (p : Pl) : Bool :=
  Bool.and (Nat.beq p.mask (maskOf pl o.after.toList)) (Bool.and (backB i o.after.toList) (Bool.and (Nat.ble (rdOf p (cEl l i)).1 tot)
    (pairsB l pl n i (o.looksAt ops) o p (rdOf p (cEl l i)).1 (rdOf p (cEl l i)).2)))
def planB (ops : Array Oper) (pl : List Pl) : Bool := Bool.and (Nat.beq (llen pl) ops.size)
  (allB ops.size fun i => match lget ops.toList i with
    | none => false
    | some o => match lget pl i with
      | none => false
      | some p => opB ops ops.toList pl ops.size (cEl ops.toList ops.size) i o p)
theorem bitOf_eq (m i : Nat) : bitOf m i = m.testBit i := by
  unfold bitOf Nat.testBit
  have : Nat.land (Nat.shiftRight m i) 1 = (m >>> i) % 2 := Nat.and_one_is_mod _
  rw [this, natBeq]
  have h2 : 1 &&& m >>> i = (m >>> i) % 2 := by rw [Nat.and_comm]; exact Nat.and_one_is_mod _
  rw [h2]
  rcases Nat.mod_two_eq_zero_or_one (m >>> i) with h | h <;> rw [h] <;> rfl
theorem maskOf_bit {pl : List Pl} {es : List Edge} {j : Nat} (h : bitOf (maskOf pl es) j = true) : ∃ e ∈ es, Region.binds .any e = true ∧ (e.on = j ∨ ∃ p' : Pl, pl[e.on]? = some p' ∧ bitOf p'.mask j = true) := by
  induction es with
  | nil =>
    rw [bitOf_eq] at h
    change (0 : Nat).testBit j = true at h
    simp at h
  | cons e r ih =>
    change bitOf (match Region.binds .any e with
      | true => Nat.lor (Nat.lor (Nat.shiftLeft 1 e.on) (maskAt pl e.on)) (maskOf pl r)
      | false => maskOf pl r) j = true at h
    split at h
    · rename_i hb
      rw [bitOf_eq] at h
      change ((1 <<< e.on ||| maskAt pl e.on) ||| maskOf pl r).testBit j = true at h
      rw [Nat.testBit_or, Nat.testBit_or, Bool.or_eq_true, Bool.or_eq_true] at h
      rcases h with (h | h) | h
      · rw [Nat.testBit_shiftLeft] at h
        simp only [Bool.and_eq_true, decide_eq_true_eq] at h
        obtain ⟨h1, h2⟩ := h
        have : j - e.on = 0 := by
          rw [show (1 : Nat) = 2 ^ 0 from rfl, Nat.testBit_two_pow] at h2
          exact (of_decide_eq_true h2).symm
        exact ⟨e, List.mem_cons_self, hb, .inl (by omega)⟩
      · unfold maskAt at h
        rw [lget_eq] at h
        cases hp : pl[e.on]? with
        | none => rw [hp] at h; simp at h
        | some p' =>
          rw [hp] at h
          exact ⟨e, List.mem_cons_self, hb, .inr ⟨p', hp, by rw [bitOf_eq]; exact h⟩⟩
      · rw [← bitOf_eq] at h
        obtain ⟨e', h1, h2⟩ := ih h
        exact ⟨e', List.mem_cons_of_mem _ h1, h2⟩
    · obtain ⟨e', h1, h2⟩ := ih h
      exact ⟨e', List.mem_cons_of_mem _ h1, h2⟩
theorem maskOf_in {pl : List Pl} {es : List Edge} {e : Edge} (he : e ∈ es) (hb : Region.binds .any e = true) : bitOf (maskOf pl es) e.on = true ∧ ∀ p' : Pl, pl[e.on]? = some p' → ∀ j, bitOf p'.mask j = true → bitOf (maskOf pl es) j = true := by
  induction es with
  | nil => cases he
  | cons x r ih =>
    have e1 : maskOf pl (x :: r) = (match Region.binds .any x with
      | true => Nat.lor (Nat.lor (Nat.shiftLeft 1 x.on) (maskAt pl x.on)) (maskOf pl r)
      | false => maskOf pl r) := rfl
    rcases List.mem_cons.1 he with rfl | he
    · rw [e1, hb]
      simp only
      refine ⟨?_, fun p' hp j hj => ?_⟩
      · rw [bitOf_eq]
        change ((1 <<< e.on ||| maskAt pl e.on) ||| maskOf pl r).testBit e.on = true
        rw [Nat.testBit_or, Nat.testBit_or, Nat.testBit_shiftLeft]
        simp
      · rw [bitOf_eq] at hj ⊢
        change ((1 <<< e.on ||| maskAt pl e.on) ||| maskOf pl r).testBit j = true
        rw [Nat.testBit_or, Nat.testBit_or]
        unfold maskAt
        rw [lget_eq, hp, hj]
        simp
    · obtain ⟨i1, i2⟩ := ih he
      rw [e1]
      split
      · have or : ∀ j, bitOf (maskOf pl r) j = true → bitOf (Nat.lor (Nat.lor (Nat.shiftLeft 1 x.on) (maskAt pl x.on)) (maskOf pl r)) j = true := by
          intro j hj
          rw [bitOf_eq] at hj ⊢
          change ((1 <<< x.on ||| maskAt pl x.on) ||| maskOf pl r).testBit j = true
          rw [Nat.testBit_or, hj]
          simp
        exact ⟨or _ i1, fun p' hp j hj => or _ (i2 p' hp j hj)⟩
      · exact ⟨i1, i2⟩
theorem backB_some {i : Nat} {es : List Edge} (h : backB i es = true) : ∀ e ∈ es, Region.binds .any e = true → e.on < i := by
  induction es with
  | nil => intro e he; cases he
  | cons x r ih =>
    change (match Region.binds .any x with
      | true => Bool.rec (motive := fun _ => Bool) false (backB i r) (Nat.ble (Nat.succ x.on) i)
      | false => backB i r) = true at h
    intro e he hb
    split at h
    · cases hx : Nat.ble (Nat.succ x.on) i
      · rw [hx] at h; cases h
      · rw [hx] at h
        rw [natBle, decide_eq_true_eq] at hx
        rcases List.mem_cons.1 he with rfl | he
        · exact hx
        · exact ih h e he hb
    · rename_i hx
      rcases List.mem_cons.1 he with rfl | he
      · rw [hb] at hx; cases hx
      · exact ih h e he hb
theorem planB_ok {ops : Array Oper} {pl : List Pl} (h : planB ops pl = true) : PlanOk ops pl := by
  unfold planB at h
  simp only [Bool.and_eq_true] at h
  obtain ⟨hlen, hall⟩ := h
  have hlen : pl.length = ops.size := by rw [llen_eq] at hlen; exact Nat.eq_of_beq_eq_true hlen
  have one : ∀ {i : Nat} {o : Oper} {p : Pl}, ops[i]? = some o → pl[i]? = some p → opB ops ops.toList pl ops.size (cEl ops.toList ops.size) i o p = true := by
    intro i o p ho hp
    have hi : i < ops.size := (Array.getElem?_eq_some_iff.1 ho).1
    have := allB_some hall i hi
    rw [lget_eq, Array.getElem?_toList, ho, lget_eq, hp] at this
    exact this
  have pair : ∀ {i j : Nat} {o oj : Oper} {p pj : Pl}, ops[i]? = some o → pl[i]? = some p → ops[j]? = some oj → pl[j]? = some pj →
      pairB i (o.looksAt ops) o p (isRd o.op) (rdOf p (cE ops i)).1 (rdOf p (cE ops i)).2 j oj pj (cE ops j) = true := by
    intro i j o oj p pj ho hp hoj hpj
    have h1 := one ho hp
    unfold opB at h1
    simp only [Bool.and_eq_true] at h1
    have h2 := h1.2.2.2
    unfold pairsB at h2
    have hj : j < ops.size := (Array.getElem?_eq_some_iff.1 hoj).1
    have := allB_some h2 j hj
    rw [lget_eq, Array.getElem?_toList, hoj, lget_eq, hpj] at this
    simp only [cEl_eq] at this
    exact this
  have rd : ∀ (p : Pl) (c : Nat), p.rd.getD (c, c) = rdOf p c := by
    intro p c
    unfold rdOf
    cases p.rd <;> rfl
  have plOf : ∀ {i : Nat} {o : Oper}, ops[i]? = some o → ∃ p : Pl, pl[i]? = some p := by
    intro i o ho
    have := (Array.getElem?_eq_some_iff.1 ho).1
    exact ⟨pl[i]'(by omega), List.getElem?_eq_getElem _⟩
  have opOf : ∀ {i : Nat} {p : Pl}, pl[i]? = some p → ∃ o : Oper, ops[i]? = some o := by
    intro i p hp
    have := (List.getElem?_eq_some_iff.1 hp).1
    exact ⟨ops[i]'(by omega), Array.getElem?_eq_getElem _⟩
  have mask : ∀ {i : Nat} {o : Oper} {p : Pl}, ops[i]? = some o → pl[i]? = some p → p.mask = maskOf pl o.after.toList := by
    intro i o p ho hp
    have := one ho hp
    unfold opB at this
    simp only [Bool.and_eq_true] at this
    exact Nat.eq_of_beq_eq_true this.1
  have back : ∀ (i : Nat) (o : Oper), ops[i]? = some o → ∀ e ∈ o.after, Region.binds .any e = true → e.on < i := by
    intro i o ho e he hb
    obtain ⟨p, hp⟩ := plOf ho
    have := one ho hp
    unfold opB at this
    simp only [Bool.and_eq_true] at this
    exact backB_some this.2.1 e (by simpa using he) hb
  have closed : ∀ (i : Nat) (o : Oper) (p : Pl), ops[i]? = some o → pl[i]? = some p → ∀ j, bitOf p.mask j = true → ∃ e ∈ o.after, Region.binds .any e = true ∧ (e.on = j ∨ ∃ p' : Pl, pl[e.on]? = some p' ∧ bitOf p'.mask j = true) := by
    intro i o p ho hp j hj
    rw [mask ho hp] at hj
    obtain ⟨e, h1, h2⟩ := maskOf_bit hj
    exact ⟨e, by simpa using h1, h2⟩
  have low : ∀ (i : Nat) (p : Pl), pl[i]? = some p → ∀ j, bitOf p.mask j = true → j < i := by
    intro i
    induction i using Nat.strongRecOn with
    | _ i ih =>
      intro p hp j hj
      obtain ⟨o, ho⟩ := opOf hp
      obtain ⟨e, h1, h2, h3⟩ := closed i o p ho hp j hj
      have := back i o ho e h1 h2
      rcases h3 with rfl | ⟨p', h4, h5⟩
      · exact this
      · have := ih e.on this p' h4 j h5
        omega
  have trans : ∀ (i j : Nat) (p p' : Pl), pl[i]? = some p → bitOf p.mask j = true → pl[j]? = some p' → ∀ l, bitOf p'.mask l = true → bitOf p.mask l = true := by
    intro i
    induction i using Nat.strongRecOn with
    | _ i ih =>
      intro j p p' hp hj hp' l hl
      obtain ⟨o, ho⟩ := opOf hp
      obtain ⟨e, h1, h2, h3⟩ := closed i o p ho hp j hj
      have hlt := back i o ho e h1 h2
      have hin := maskOf_in (pl := pl) (es := o.after.toList) (by simpa using h1) h2
      rw [← mask ho hp] at hin
      rcases h3 with rfl | ⟨p1, h4, h5⟩
      · exact hin.2 p' hp' l hl
      · exact hin.2 p1 h4 l (ih e.on hlt j p1 p' h4 h5 hp' l hl)
  refine ⟨hlen, back, closed, ?_, ?_, ?_, ?_, low, trans, ?_⟩
  · intro i j oi oj d ho hoj h1 h2
    obtain ⟨p, hp⟩ := plOf ho
    obtain ⟨pj, hpj⟩ := plOf hoj
    have := pair ho hp hoj hpj
    unfold pairB at this
    simp only [Bool.and_eq_true] at this
    have := impB_eq this.1 (by rw [h1, h2]; simp [sameDst])
    exact Nat.eq_of_beq_eq_true this
  · intro j oj q oq d hoj hoq h1 h2 hne
    obtain ⟨p, hp⟩ := plOf hoj
    obtain ⟨pq, hpq⟩ := plOf hoq
    have := pair hoj hp hoq hpq
    unfold pairB at this
    simp only [Bool.and_eq_true] at this
    have := impB_eq this.2.1 (by rw [h1]; exact memN_of h2)
    simp only [Bool.or_eq_true, Bool.and_eq_true, natBeq, natBle, decide_eq_true_eq] at this
    rcases this with h | ⟨h3, h4⟩ | ⟨h3, h4⟩
    · exact absurd h.symm hne
    · exact .inl ⟨h3, p, hp, h4⟩
    · exact .inr ⟨h3, pq, hpq, h4⟩
  · intro i j oi oj p hij ho hoj h1 h2 hp
    obtain ⟨pi, hpi⟩ := plOf ho
    have := pair ho hpi hoj hp
    unfold pairB at this
    simp only [Bool.and_eq_true] at this
    have := impB_eq this.2.2 h2
    simp only [Bool.and_eq_true] at this
    refine impB_eq this.1 ?_
    simp only [Bool.and_eq_true, natBle, decide_eq_true_eq]
    exact ⟨hij, h1⟩
  · intro i oi p ho hp hc hr e oe pe hoe he hpe
    have := pair ho hp hoe hpe
    unfold pairB at this
    simp only [Bool.and_eq_true] at this
    have := impB_eq this.2.2 he
    simp only [Bool.and_eq_true] at this
    have := impB_eq this.2 (by unfold isRd; rw [hc]; exact hr)
    simp only [Bool.and_eq_true] at this
    rw [rd]
    refine ⟨fun h => impB_eq this.1 ?_, fun h => impB_eq this.2 ?_⟩
    · rw [natBle, decide_eq_true_eq]; exact h
    · rw [natBle, decide_eq_true_eq]; exact h
  · intro i p hp
    obtain ⟨o, ho⟩ := opOf hp
    have := one ho hp
    unfold opB at this
    simp only [Bool.and_eq_true, natBle, decide_eq_true_eq, cEl_eq] at this
    rw [rd]
    exact this.2.2.1

/-! ### Texts that fit -/
def dstB (m : Nat) (l : List Oper) : Bool := List.rec (motive := fun _ => Bool) true (fun o _ ih => match o.dst with
  | none => ih
  | some d => Bool.rec (motive := fun _ => Bool) false ih (Nat.ble (Nat.succ d) m)) l
theorem dstB_ok {m : Nat} {l : List Oper} (h : dstB m l = true) : ∀ o ∈ l, DstOk m o := by
  induction l with
  | nil => intro o ho; cases ho
  | cons x r ih =>
    change (match x.dst with
      | none => dstB m r
      | some d => Bool.rec (motive := fun _ => Bool) false (dstB m r) (Nat.ble (Nat.succ d) m)) = true at h
    intro o ho
    split at h
    · rename_i hx
      rcases List.mem_cons.1 ho with rfl | ho
      · intro d hd; rw [hx] at hd; cases hd
      · exact ih h o ho
    · rename_i d hx
      cases hb : Nat.ble (Nat.succ d) m
      · rw [hb] at h; cases h
      · rw [hb] at h
        rcases List.mem_cons.1 ho with rfl | ho
        · intro d' hd
          rw [hx] at hd
          obtain rfl := Option.some.inj hd
          rw [natBle, decide_eq_true_eq] at hb
          exact hb
        · exact ih h o ho
def planIs (ops : Array Oper) (l : Option (List Pl)) : Bool := match l with | none => true | some l => planB ops l
def fitB (m : Nat) (pl : Plans) (c : Code) : Bool := Code.rec (motive := fun _ => Bool) true
  (fun id ops d => Bool.and (dstB m ops.toList) (impB d (planIs ops (pl.get id))))
  (fun _ _ x y => Bool.and x y) (fun _ _ _ x y => Bool.and x y) (fun _ _ x => x) (fun _ x => x) (fun _ _ _ _ _ _ => true) (fun _ => true) (fun _ _ => true) (fun _ => true) (fun _ => true) true (fun _ => true) c
theorem fitB_ok (hT : TyOk P T) (hP : P.follows .mixedOrders = true) {m : Nat} {pl : Plans} {c : Code} (h : fitB m pl c = true) : Fit Φ P T m pl c := by
  induction c with
  | region id ops d =>
    change Bool.and (dstB m ops.toList) (impB d (planIs ops (pl.get id))) = true at h
    simp only [Bool.and_eq_true] at h
    refine ⟨dstB_ok h.1, fun hd l hl => ?_⟩
    have := impB_eq h.2 hd
    simp only [hl, planIs] at this
    exact drawn_sound hT hP (planB_ok this)
  | seq a b iha ihb =>
    change Bool.and (fitB m pl a) (fitB m pl b) = true at h
    simp only [Bool.and_eq_true] at h
    exact ⟨iha h.1, ihb h.2⟩
  | cond x a b iha ihb =>
    change Bool.and (fitB m pl a) (fitB m pl b) = true at h
    simp only [Bool.and_eq_true] at h
    exact ⟨iha h.1, ihb h.2⟩
  | block id b ih => exact ih h
  | loop b ih => exact ih h
  | _ => trivial

/-! ### Tables by their entries -/
def PT.entries {α : Type} : PT α → List (Nat × α)
  | .lf => []
  | .nd l v r => (match v with | some x => [(0, x)] | none => []) ++ ((l.entries.map fun e => (2 * e.1 + 1, e.2)) ++ (r.entries.map fun e => (2 * e.1 + 2, e.2)))
theorem PT.mem_entries {α : Type} (t : PT α) : ∀ {n : Nat} {x : α}, t.get n = some x → (n, x) ∈ t.entries := by
  induction t with
  | lf => intro n x h; rw [PT.get_lf] at h; cases h
  | nd l v r ihl ihr =>
    intro n x h
    rw [PT.get_nd] at h
    unfold PT.entries
    cases hn : Nat.beq n 0
    · rw [hn] at h
      have h0 := Nat.ne_of_beq_eq_false hn
      have e1 : Nat.land n 1 = n % 2 := Nat.and_one_is_mod n
      have e3 : Nat.shiftRight n 1 = n / 2 := Nat.shiftRight_eq_div_pow n 1
      have e4 : Nat.shiftRight (Nat.pred n) 1 = (n - 1) / 2 := Nat.shiftRight_eq_div_pow _ 1
      cases ho : Nat.beq (Nat.land n 1) 1
      · rw [ho] at h
        have h1 := Nat.ne_of_beq_eq_false ho
        refine List.mem_append_right _ (List.mem_append_right _ (List.mem_map.2 ⟨_, ihr h, ?_⟩))
        simp only [Prod.mk.injEq, and_true]
        rw [e4]
        omega
      · rw [ho] at h
        have h1 := Nat.eq_of_beq_eq_true ho
        refine List.mem_append_right _ (List.mem_append_left _ (List.mem_map.2 ⟨_, ihl h, ?_⟩))
        simp only [Prod.mk.injEq, and_true]
        rw [e3]
        omega
    · rw [hn] at h
      have h0 := Nat.eq_of_beq_eq_true hn
      subst h0
      have h : v = some x := h
      subst h
      simp
def bodyB (fx : FX) : Bool := match fx.fn.body with | none => true | some b => fitB fx.fn.ntmps fx.plans b
structure FxIs (P : Program) (f : Nat) (fx : FX) : Prop where
  func : P.funcs[f]? = some fx.fn
  name : (fx.fn.name == "runtime.NumGoroutine") = false
  body : bodyB fx = true
theorem fxOk_of (hT : TyOk P T) (hP : P.follows .mixedOrders = true) {F : PT FX} (h : ∀ e ∈ F.entries, FxIs P e.1 e.2) : FxOk Φ P T F := by
  intro f fx e
  obtain ⟨h1, h2, h3⟩ := h _ (PT.mem_entries F e)
  refine ⟨h1, h2, fun b hb => ?_⟩
  unfold bodyB at h3
  rw [hb] at h3
  exact fitB_ok hT hP h3
theorem tyOk_of (h : ∀ e ∈ T.entries, TIok P T e.1 e.2) : TyOk P T := fun _ _ e => h _ (PT.mem_entries T e)

/-! ### Types -/
def tdB (P : Program) (t : Nat) (d : TD) : Bool := match P.underlying t with
  | none => false
  | some u => match d with
    | .int k => (match u with | .int q => kindEq k q | _ => false)
    | .bool => (match u with | .bool => true | _ => false)
    | .str => (match u with | .string => true | _ => false)
    | .ptr => (match u with | .pointer _ => true | _ => false)
    | .slice e => (match u with | .slice e' => Nat.beq e e' | _ => false)
    | .arr n e => (match u with | .array n' e' => Bool.and (Nat.beq n n') (Nat.beq e e') | _ => false)
    | .struct fs => (match u with | .struct gs => decide (gs.toList.map (fun f => (f.offset, f.type)) = fs) | _ => false)
    | .map k e => (match u with | .map k' e' => Bool.and (Nat.beq k k') (Nat.beq e e') | _ => false)
    | .func => (match u with | .func _ _ _ => true | _ => false)
    | .other => false
theorem tdB_ok {t : Nat} {d : TD} (h : tdB P t d = true) : TDok P t d := by
  unfold tdB at h
  cases hu : P.underlying t with
  | none => rw [hu] at h; cases h
  | some u =>
    rw [hu] at h
    cases d <;> cases u <;> simp only at h <;> first | (cases h; done) | skip
    case int.int k q => rw [kindEq_eq h]; exact hu
    case bool.bool => exact hu
    case str.string => exact hu
    case ptr.pointer e => exact ⟨e, hu⟩
    case slice.slice e e' => rw [Nat.eq_of_beq_eq_true h]; exact hu
    case arr.array n e n' e' =>
      simp only [Bool.and_eq_true] at h
      rw [Nat.eq_of_beq_eq_true h.1, Nat.eq_of_beq_eq_true h.2]; exact hu
    case struct.struct fs gs => exact ⟨gs, hu, of_decide_eq_true h⟩
    case map.map k e k' e' =>
      simp only [Bool.and_eq_true] at h
      rw [Nat.eq_of_beq_eq_true h.1, Nat.eq_of_beq_eq_true h.2]; exact hu
    case func.func ps rs v => exact ⟨ps, rs, v, hu⟩
def isLf (o : Option TI) : Bool := match o with | none => false | some _ => true
def partsB (T : Types) (d : TD) : Bool := match d with
  | .arr _ e => isLf (T.get e)
  | .struct fs => List.rec (motive := fun _ => Bool) true (fun f _ ih => Bool.and (isLf (T.get f.2)) ih) fs
  | _ => true
theorem isLf_ok {o : Option TI} (h : isLf o = true) : ∃ ti, o = some ti := by
  cases o with
  | none => cases h
  | some ti => exact ⟨ti, rfl⟩
theorem partsB_ok {d : TD} (h : partsB T d = true) : (∀ n e, d = .arr n e → ∃ te, T.get e = some te) ∧ ∀ fs, d = .struct fs → ∀ f ∈ fs, ∃ tf, T.get f.2 = some tf := by
  refine ⟨?_, ?_⟩
  · rintro n e rfl
    exact isLf_ok h
  · rintro fs rfl
    change List.rec (motive := fun _ => Bool) true (fun f _ ih => Bool.and (isLf (T.get f.2)) ih) fs = true at h
    induction fs with
    | nil => intro f hf; cases hf
    | cons x r ih =>
      change Bool.and (isLf (T.get x.2)) (List.rec (motive := fun _ => Bool) true (fun f _ ih => Bool.and (isLf (T.get f.2)) ih) r) = true at h
      simp only [Bool.and_eq_true] at h
      intro f hf
      rcases List.mem_cons.1 hf with rfl | hf
      · exact isLf_ok h.1
      · exact ih h.2 f hf
/-- A zero value's cell. -/
def isNil0 (l : List Nat) : Bool := match l with | [] => true | _ => false
def zero1 (v : MV) : Bool := match v with
  | .bool _ => true
  | .int _ _ => true
  | .str l => isNil0 l
  | .nilPtr => true
  | .nilSlice => true
  | .nilMap => true
  | .nilFunc => true
  | .nilIface => true
  | _ => false
def zerosB (l : List MV) : Bool := List.rec (motive := fun _ => Bool) true (fun v _ ih => Bool.and (zero1 v) ih) l
theorem zerosB_ok {l : List MV} (h : zerosB l = true) : ∀ v ∈ l, v.one ∧ v.ok (fun _ => False) ∧ ∀ θ, v.real θ = v.real E0 := by
  induction l with
  | nil => intro v hv; cases hv
  | cons x r ih =>
    change Bool.and (zero1 x) (zerosB r) = true at h
    simp only [Bool.and_eq_true] at h
    intro v hv
    rcases List.mem_cons.1 hv with rfl | hv
    · have h1 := h.1
      cases v <;> simp only [zero1] at h1 <;> first | (cases h1; done) | skip
      case str s =>
        cases s with
        | nil => exact ⟨by simp [MV.one], by simp [MV.ok], fun θ => by simp [MV.real]⟩
        | cons a b => cases h1
      all_goals exact ⟨by simp [MV.one], by simp [MV.ok], fun θ => by simp [MV.real]⟩
    · exact ih h.2 v hv
/-- What a type's table entry must be, but for equality. -/
structure TIis (P : Program) (T : Types) (t : Nat) (ti : TI) : Prop where
  d : tdB P t ti.d = true
  info : ∃ i, P.info? t = some i ∧ i.size = ti.size ∧ i.bytes = ti.bytes ∧ i.zero = some (if ti.isAgg then .agg (reals E0 ti.zero).toArray else match ti.zero with | [v] => v.real E0 | _ => undef)
  zero : zerosB ti.zero = true
  len : Nat.beq (llen ti.zero) ti.size = true
  one : (ti.isAgg || Nat.beq ti.size 1) = true
  parts : partsB T ti.d = true
theorem TIis.ok {t : Nat} {ti : TI} (h : TIis P T t ti) (he : ti.eq = true → P.eqGuardType P.depth t = false ∧ ∀ (D : Nat → Prop) (θ : Env) (xs ys : List MV) (b : Bool) (w : World), eqL xs ys = some b → oks D xs → oks D ys →
      xs.length = ti.size → ys.length = ti.size → allI xs = true → allI ys = true → (Op.equal t (.agg (reals θ xs).toArray) (.agg (reals θ ys).toArray)).run P w = .ok b w) : TIok P T t ti where
  d := tdB_ok h.d
  info := by
    obtain ⟨i, h1, h2, h3, h4⟩ := h.info
    refine ⟨i, h1, h2, h3, _, h4, ?_⟩
    unfold ZeroIs
    split
    · rfl
    · rename_i ha
      have h5 := h.one
      have h6 := h.len
      rw [llen_eq] at h6
      have h6 := Nat.eq_of_beq_eq_true h6
      simp only [ha, Bool.false_or] at h5
      have h5 := Nat.eq_of_beq_eq_true h5
      obtain ⟨v, hv⟩ := List.length_eq_one_iff.1 (h6.trans h5)
      exact ⟨v, hv, by rw [hv]⟩
  zero := zerosB_ok h.zero
  len := by have := h.len; rw [llen_eq] at this; exact Nat.eq_of_beq_eq_true this
  eq := he
  elem := (partsB_ok h.parts).1
  fields := (partsB_ok h.parts).2
end
end Go.Proofs.YtkeckbmhaplkpaaGreatDoor.Ln
/- Tables: what holds of all entries; equality of structs of two numbers. -/
namespace Go.Proofs.YtkeckbmhaplkpaaGreatDoor.Ln
open Go
variable {P : Program} {T : Types}

def AllL {α : Type} (Q : α → Prop) : List α → Prop
  | [] => True
  | x :: r => Q x ∧ AllL Q r
theorem AllL.mem {α : Type} {Q : α → Prop} {l : List α} (h : AllL Q l) : ∀ x ∈ l, Q x := by
  induction l with
  | nil => intro x hx; cases hx
  | cons y r ih =>
    intro x hx
    rcases List.mem_cons.1 hx with rfl | hx
    · exact h.1
    · exact ih h.2 x hx
/-- Equality at a type is as the evaluator has it. -/
def EqLaw (P : Program) (t : Nat) (ti : TI) : Prop := ti.eq = true → P.eqGuardType P.depth t = false ∧ ∀ (D : Nat → Prop) (θ : Env) (xs ys : List MV) (b : Bool) (w : World), eqL xs ys = some b → oks D xs → oks D ys →
      xs.length = ti.size → ys.length = ti.size → allI xs = true → allI ys = true → (Op.equal t (.agg (reals θ xs).toArray) (.agg (reals θ ys).toArray)).run P w = .ok b w
theorem noEq {t : Nat} {ti : TI} (h : ti.eq = false) : EqLaw P t ti := fun e => by rw [h] at e; cases e
/-- A number of 64 bits, known or not. -/
def IsI (v : MV) : Prop := (∃ a, v = .int .i64 a) ∨ ∃ y lo hi c, v = .lin y lo hi c
theorem allI_step {v : MV} {r : List MV} (h : allI (v :: r) = true) : IsI v ∧ allI r = true := by
  cases v <;> first | (cases h; done) | skip
  · rename_i k a
    cases k <;> first | (cases h; done) | skip
    exact ⟨.inl ⟨a, rfl⟩, h⟩
  · exact ⟨.inr ⟨_, _, _, _, rfl⟩, h⟩
theorem allI_two {l : List MV} (h : allI l = true) (hl : l.length = 2) : ∃ a b, l = [a, b] ∧ IsI a ∧ IsI b := by
  match l, hl with
  | [x, y], _ =>
    obtain ⟨h1, h2⟩ := allI_step h
    obtain ⟨h3, _⟩ := allI_step h2
    exact ⟨x, y, rfl, h1, h3⟩
theorem eq1_I (θ : Env) {x y : MV} {b : Bool} (hx : IsI x) (hy : IsI y) (h : eq1 x y = some b) : ∃ c d, x.real θ = .int .i64 c ∧ y.real θ = .int .i64 d ∧ b = decide (c = d) := by
  rcases hx with ⟨a, rfl⟩ | ⟨z, lo, hi, c, rfl⟩ <;> rcases hy with ⟨a', rfl⟩ | ⟨z', lo', hi', c', rfl⟩
  · refine ⟨a, a', by simp only [MV.real], by simp only [MV.real], ?_⟩
    rw [← intEq_eq]
    exact (Option.some.inj h).symm
  · cases h
  · cases h
  · change (match sameL z lo hi z' lo' hi' with | true => some (intEq c c') | false => none) = some b at h
    split at h
    · rename_i hs
      obtain ⟨rfl, rfl, rfl⟩ := sameL_ok hs
      obtain rfl := Option.some.inj h
      refine ⟨_, _, by simp only [MV.real]; rfl, by simp only [MV.real]; rfl, ?_⟩
      rw [intEq_eq, decide_eq_decide]
      omega
    · cases h
theorem and3_some {x r : Option Bool} {b : Bool} (h : and3 x r = some b) : ∃ p q, x = some p ∧ r = some q ∧ b = (p && q) := by
  cases x with
  | none => cases h
  | some p => cases p with
    | false => cases r with
      | none => cases h
      | some q => exact ⟨false, q, rfl, rfl, (Option.some.inj h).symm⟩
    | true => cases r with
      | none => cases h
      | some q => exact ⟨true, q, rfl, rfl, by rw [Bool.true_and]; exact (Option.some.inj h).symm⟩
/-- A struct of two numbers. -/
structure TwoInts (P : Program) (t : Nat) : Prop where
  fields : ∃ f g : Field, P.underlying t = some (.struct #[f, g]) ∧ f.name ≠ "_" ∧ g.name ≠ "_" ∧ f.offset = 0 ∧ g.offset = 1 ∧ P.underlying f.type = some (.int .i64) ∧ P.underlying g.type = some (.int .i64)
  guard : P.eqGuardType P.depth t = false
  held : P.stoodInHeld t = false
theorem part_int {t : Nat} (hu : P.underlying t = some (.int .i64)) (cs : Array Value) (i : Nat) (v : Value) (hi : cs[i]? = some v) (w : World) : (part t cs i).run P w = .ok v w := by
  simp [part, isAgg, underlying, program, bind, Sem.bind, Sem.run, pure, hu, hi]
theorem TwoInts.law {t : Nat} {ti : TI} (h : TwoInts P t) (hs : ti.size = 2) : EqLaw P t ti := fun _ => by
  refine ⟨h.guard, fun D θ xs ys b w he _ _ lx ly ix iy => ?_⟩
  obtain ⟨xa, xb, rfl, ia, ib⟩ := allI_two ix (lx.trans hs)
  obtain ⟨ya, yb, rfl, ja, jb⟩ := allI_two iy (ly.trans hs)
  obtain ⟨f, g, hu, n1, n2, o1, o2, u1, u2⟩ := h.fields
  have hf : P.fieldsOf t = #[f, g] := by simp [Program.fieldsOf, hu]
  obtain ⟨p, q, e1, e2, rfl⟩ := and3_some (show and3 (eq1 xa ya) (eqL [xb] [yb]) = some b from he)
  obtain ⟨q', q0, e3, e4, rfl⟩ := and3_some (show and3 (eq1 xb yb) (eqL [] []) = some q from e2)
  obtain rfl := Option.some.inj (show some true = some q0 from e4)
  obtain ⟨a, c, r1, r2, rfl⟩ := eq1_I θ ia ja e1
  obtain ⟨a', c', r3, r4, rfl⟩ := eq1_I θ ib jb e3
  rw [equal_is, run_equalIn_struct (P := P) w 9999 t _ _ (by rw [hf]; exact hu) h.held, hf]
  simp only [Op.eqFields, n1, n2, ne_eq, not_false_eq_true, if_true, Sem.run_bind]
  simp only [reals, r1, r2, r3, r4]
  have p1 : ∀ x y : Int, (part f.type #[.int .i64 x, .int .i64 y] f.offset).run P w = .ok (.int .i64 x) w := fun x y => part_int u1 _ _ _ (by rw [o1]; rfl) w
  have p2 : ∀ x y : Int, (part g.type #[.int .i64 x, .int .i64 y] g.offset).run P w = .ok (.int .i64 y) w := fun x y => part_int u2 _ _ _ (by rw [o2]; rfl) w
  simp only [p1, p2, Result.andThen_ok, run_equalIn_int (P := P) w 9998 _ .i64 .i64 _ _ u1, run_equalIn_int (P := P) w 9998 _ .i64 .i64 _ _ u2, Sem.run_ite, Sem.run_pure, Sem.run_bind]
  by_cases h1 : a = c <;> by_cases h2 : a' = c' <;> simp [h1, h2]
end Go.Proofs.YtkeckbmhaplkpaaGreatDoor.Ln
/- slices.Sorted of maps.Keys, answered by other means: the definitions. -/
namespace Go.Proofs.YtkeckbmhaplkpaaGreatDoor.Ln
open Go
noncomputable section

/-! ### slices.Sorted(maps.Keys(m)) -/
def insI (x : Int) (l : List Int) : List Int := List.rec (motive := fun _ => List Int) [x] (fun y r ih => match intLe x y with | true => x :: y :: r | false => y :: ih) l
def srtI (l : List Int) : List Int := List.rec (motive := fun _ => List Int) [] (fun x _ ih => insI x ih) l
def keysI (es : List Entry) : Option (List Int) := List.rec (motive := fun _ => Option (List Int)) (some []) (fun e _ ih => match e.key with
  | .int .i64 k => (match ih with | some r => some (k :: r) | none => none)
  | _ => none) es
def cellsI {β : Type} (l : List Int) : (List MV → β) → β := List.rec (motive := fun _ => (List MV → β) → β) (fun k => k []) (fun x _ ih k => fint x fun x => ih fun r => k (.int .i64 x :: r)) l
def smallI (l : List Int) : Bool := List.rec (motive := fun _ => Bool) true (fun x _ ih => Bool.and (small x) ih) l
/-- Each more than the one ahead of it. -/
def upI (l : List Int) : Bool := List.rec (motive := fun _ => Bool) true (fun x r ih => match r with | [] => true | y :: _ => Bool.and (Bool.not (intLe y x)) ih) l
def sortedOf (h : Heap) (n : Nat) (ks : Option (List Int)) : Option R := match ks with
  | none => none
  | some ks => match Bool.and (smallI ks) (upI (srtI ks)) with
    | false => none
    | true => match srtI ks with
      | [] => some ⟨.nilSlice, h, n⟩
      | x :: l => cellsI (x :: l) fun cs => newRoom h n 1 cs (.slice n 0 (llen cs) (.more (llen cs) n))
def bornB (c : Nat) (es : List Entry) : Nat → Bool := List.rec (motive := fun _ => Nat → Bool) (fun _ => true) (fun e _ ih lo => Bool.and (Nat.ble lo e.born) (Bool.and (Nat.ble (Nat.succ e.born) c) (ih (Nat.succ e.born)))) es
def entriesOf (o : Option MObj) : Option (List Entry) := match o with | some (.map es c) => (match Bool.and (Nat.ble (llen es) 1000000) (bornB c es 0) with | true => some es | false => none) | _ => none
def keysAt (h : Heap) (v : Option MV) : Option (List Int) := match v with
  | some (.map y) => (match entriesOf (h.get y) with | some es => keysI es | none => none)
  | _ => none
def cellAt (h : Heap) (z o : Nat) : Option MV := match cellsAt h z with | some l => lget l o | none => none
/-- What stands in a box. -/
def boxAt (o : Option MObj) : Option MV := match o with | some (.cells [v] none) => some v | _ => none
def oSorted (args : List MV) (h : Heap) (n : Nat) : Option R := match args with
  | [.func f [] [.ptr z 0]] => (match Bool.or (Nat.beq f 189) (Nat.beq f 274) with
    | true => sortedOf h n (keysAt h (boxAt (h.get z)))
    | false => none)
  | _ => none
end
end Go.Proofs.YtkeckbmhaplkpaaGreatDoor.Ln
/- Small things on tables and calls. -/
namespace Go.Proofs.YtkeckbmhaplkpaaGreatDoor.Ln
open Go
variable {P : Program} {T : Types}

theorem get_none {α : Type} (d n : Nat) : (PT.fill (none : Option α) d).get n = none := by
  cases h : (PT.fill (none : Option α) d).get n with
  | none => rfl
  | some x => exact absurd (PT.get_fill _ _ _ _ h) (by simp)
theorem enter_of {f : Nat} {fx : FX} (h1 : P.funcs[f]? = some fx.fn) (h2 : (fx.fn.name == "runtime.NumGoroutine") = false) {b : Code} (hb : fx.fn.body = some b) (args : Array Value) (w : World) : (callFunc f args).run P w = .ok (.enter f args) w := by
  simp only [callFunc, program, bind, Sem.bind, Sem.run, h1, h2, hb]
  rfl
end Go.Proofs.YtkeckbmhaplkpaaGreatDoor.Ln
/- What a contract of the kit's form says of names and heaps. -/
namespace Go.Proofs.YtkeckbmhaplkpaaGreatDoor.Ln
open Go Go.RowKit
variable {Φ : Fact}
theorem enter_fn {P : Program} {f : Nat} {fn : Func} (h1 : P.funcs[f]? = some fn) (h2 : (fn.name == "runtime.NumGoroutine") = false) {b : Code} (hb : fn.body = some b) (args : Array Value) (w : World) : (callFunc f args).run P w = .ok (.enter f args) w := by
  simp only [callFunc, program, bind, Sem.bind, Sem.run, h1, h2, hb]
  rfl
section
variable {D : Nat → Prop} {n : Nat} {θ : Env} {h : Heap} {w w' : World}
theorem leads_below (hi : Inv Φ D n θ h w) (b : Below w.heap.size w w') : Leads D n θ h w n θ h w' where
  le := Nat.le_refl n
  same := Env.same.refl _ _
  rel := {
    obj := fun y o hy => by
      by_cases hd : o = .dead
      · subst hd; trivial
      · exact ObjIs.move (Env.same.refl _ _) (hi.ok y o hy).1 (hi.ok y o hy).2 (b.block _ (hi.rel.lt y ⟨o, hy, hd⟩)) (hi.rel.obj y o hy)
    sep := hi.rel.sep
    lt := fun y hy => Nat.lt_of_lt_of_le (hi.rel.lt y hy) b.size }
  ok := okH_iff (fun y => (up_self y).symm) hi.ok
  os := b.os
  tape := b.tape
  output := b.output
  size := b.size
  kept := fun k hk _ => b.block k hk
  born := fun y hy => .inl ⟨y, hy, rfl⟩
/-- A new name for a block that a call has made. -/
theorem lead_far (hi : Inv Φ D n θ h w) (b : Below w.heap.size w w') {g : Nat} (hg1 : w.heap.size ≤ g) (hg2 : g < w'.heap.size) {mo : MObj} (c : Nat) (hobj : ObjIs (θ.upd n g 0 c) n w' mo) (hok : mo.ok (Up D n (n + 1))) :
    Leads D n θ h w (n + 1) (θ.upd n g 0 c) (h.set n mo) w' := by
  have hn := hi.lt
  have hr := hi.rel
  have ho := hi.ok
  have hs := upd_same (θ := θ) (b := g) (o := 0) (c := c) hn
  have live : ∀ y, Live (h.set n mo) y → y = n ∨ (y ≠ n ∧ Live h y) := by
    rintro y ⟨o, ho', hd⟩
    rcases PT.get_set ho' with ⟨rfl, _⟩ | ⟨hne, h2⟩
    · exact .inl rfl
    · exact .inr ⟨hne, o, h2, hd⟩
  have blk : ∀ y, Live h y → (θ.upd n g 0 c).blk y = θ.blk y := fun y ⟨o, h1, _⟩ => (hs y (ho y o h1).1).1
  exact {
    le := Nat.le_succ n
    same := upd_same fun _ hy => hy
    rel := {
      obj := fun y o hy => by
        rcases PT.get_set hy with ⟨rfl, rfl⟩ | ⟨hne, h2⟩
        · exact hobj
        · by_cases hd : o = .dead
          · subst hd; trivial
          · exact ObjIs.move hs (ho y _ h2).1 (ho y _ h2).2 (b.block _ (hr.lt y ⟨_, h2, hd⟩)) (hr.obj y _ h2)
      sep := fun y z hy hz e => by
        rcases live y hy with rfl | ⟨hyn, hy'⟩ <;> rcases live z hz with rfl | ⟨hzn, hz'⟩
        · rfl
        · rw [blk z hz', (upd_self θ _ _ _ _).1] at e
          have := hr.lt z hz'; omega
        · rw [blk y hy', (upd_self θ _ _ _ _).1] at e
          have := hr.lt y hy'; omega
        · rw [blk y hy', blk z hz'] at e
          exact hr.sep y z hy' hz' e
      lt := fun y hy => by
        rcases live y hy with rfl | ⟨_, hy'⟩
        · rw [(upd_self θ _ _ _ _).1]; exact hg2
        · rw [blk y hy']; exact Nat.lt_of_lt_of_le (hr.lt y hy') b.size }
    ok := fun y o hy => by
      rcases PT.get_set hy with ⟨rfl, rfl⟩ | ⟨hne, h2⟩
      · exact ⟨.inr ⟨Nat.le_refl _, by omega⟩, hok⟩
      · exact ⟨.inl (ho y o h2).1, MObj.ok_mono up_mono (ho y o h2).2⟩
    os := b.os
    tape := b.tape
    output := b.output
    size := b.size
    kept := fun k hk _ => b.block k hk
    born := fun y hy => by
      rcases live y hy with rfl | ⟨_, hy'⟩
      · exact .inr (by rw [(upd_self θ _ _ _ _).1]; exact hg1)
      · exact .inl ⟨y, hy', (blk y hy').symm⟩ }
/-- Names in use may be taken for more. -/
theorem Leads.raise {n1 N : Nat} {θ' : Env} {h' : Heap} (l : Leads D n θ h w n1 θ' h' w') (hN : n1 ≤ N) : Leads D n θ h w N θ' h' w' where
  le := Nat.le_trans l.le hN
  same := l.same
  rel := l.rel
  ok := fun y o e => ⟨by
    rcases (l.ok y o e).1 with h1 | h1
    · exact .inl h1
    · exact .inr ⟨h1.1, Nat.lt_of_lt_of_le h1.2 hN⟩, MObj.ok_mono (fun y hy => by
    rcases hy with h1 | h1
    · exact .inl h1
    · exact .inr ⟨h1.1, Nat.lt_of_lt_of_le h1.2 hN⟩) (l.ok y o e).2⟩
  os := l.os
  tape := l.tape
  output := l.output
  size := l.size
  kept := l.kept
  born := l.born
end
end Go.Proofs.YtkeckbmhaplkpaaGreatDoor.Ln
