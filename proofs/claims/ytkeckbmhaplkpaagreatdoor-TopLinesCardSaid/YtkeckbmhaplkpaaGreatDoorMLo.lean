/- A call run by some ways, of which one is the right one: what all of them answer. The definitions. -/
import Derived.Test.YtkeckbmhaplkpaaGreatDoorMTabs
import Derived.Test.YtkeckbmhaplkpaaGreatDoorMLk
import Derived.Test.YtkeckbmhaplkpaaGreatDoorMWd
import Derived.Test.YtkeckbmhaplkpaaGreatDoorMTu
namespace Go.Proofs.YtkeckbmhaplkpaaGreatDoor.Ln
open Go
noncomputable section

/-! ### Names in values -/
def nmV : MV → List Nat → List Nat :=
  @MV.rec (fun _ => List Nat → List Nat) (fun _ => List Nat → List Nat) (fun _ r => r) (fun _ _ r => r) (fun _ r => r) (fun r => r) (fun y _ r => y :: r) (fun r => r) (fun y _ _ _ r => y :: r) (fun r => r) (fun y r => y :: r)
    (fun _ _ _ ia ic r => ia (ic r)) (fun r => r) (fun r => r) (fun _ ih r => ih r) (fun _ ih r => ih r) (fun _ _ _ r => r) (fun _ r => r) (fun _ r => r) (fun r => r) (fun _ _ ih il r => ih (il r))
def nmL (l : List MV) (r : List Nat) : List Nat := @List.rec MV (fun _ => List Nat → List Nat) (fun r => r) (fun v _ ih r => nmV v (ih r)) l r
def nmE (l : List Entry) (r : List Nat) : List Nat := @List.rec Entry (fun _ => List Nat → List Nat) (fun r => r) (fun e _ ih r => nmV e.val (ih r)) l r
def nmO (o : MObj) (r : List Nat) : List Nat := match o with
  | .cells l _ => nmL l r
  | .map es _ => nmE es r
  | .dead => r
abbrev Kp := Heap → List (Nat × MObj) → An
/-! ### What names lead to -/
/-- The part of a heap that some names lead to: as a heap, and listed. -/
def gcK (h : Heap) (fuel : Nat) : List Nat → Heap → List (Nat × MObj) → Kp → An := @Nat.rec (fun _ => List Nat → Heap → List (Nat × MObj) → Kp → An) (fun _ _ _ _ => none)
  (fun _ ih todo acc l k => @List.rec Nat (fun _ => An) (k acc l) (fun y todo _ =>
    @Option.rec MObj (fun _ => An)
      (@Option.rec MObj (fun _ => An) (ih todo acc l k) (fun o => (setH 20 y).on fun g => g acc o (fun acc _ => ih (nmO o todo) acc ((y, o) :: l) k) 0) (h.get y))
      (fun _ => ih todo acc l k) (acc.get y)) todo) fuel
/-! ### Values held against one another, where some bytes are known -/
def vEqC1 (fr : List Nat) (a b : MV) : Bool := match a with
  | .str l => (match b with | .str m => textEq fr l m | _ => false)
  | a => vEq 4 a b
def obEqC (fr : List Nat) (a b : MObj) : Bool := match a with
  | .cells l r => (match b with | .cells m s => Bool.and (lEq (vEqC1 fr) l m) (roomEq r s) | _ => false)
  | .map es c => (match b with | .map fs d => Bool.and (enEq es fs) (Nat.beq c d) | _ => false)
  | .dead => (match b with | .dead => true | _ => false)
/-- Objects listed: are they in a heap, too? -/
def allIn (fr : List Nat) (h : Heap) (l : List (Nat × MObj)) (k : An) : An := @List.rec (Nat × MObj) (fun _ => An) k (fun p _ ih => match h.get p.1 with | none => none | some o => (match obEqC fr p.2 o with | true => ih | false => none)) l
/-- Objects listed, laid into a heap. -/
def layK (l : List (Nat × MObj)) : Heap → (Heap → An) → An := @List.rec (Nat × MObj) (fun _ => Heap → (Heap → An) → An) (fun h k => k h) (fun p _ ih h k => (setH 20 p.1).on fun g => g h p.2 (fun h _ => ih h k) 0) l
def dieK (l : List (Nat × MObj)) : Heap → (Heap → An) → An := @List.rec (Nat × MObj) (fun _ => Heap → (Heap → An) → An) (fun h k => k h) (fun p _ ih h k => (setH 20 p.1).on fun g => g h .dead (fun h _ => ih h k) 0) l
/-- The other ways: each answers the same, as far as the objects listed go. -/
structure Way where
  fr : List Nat
  t : OT
def way1K (fr : List Nat) (v : MV) (l : List (Nat × MObj)) (m : Nat) (k : Nat → An) : KV := fun v' h' n' => match vEqC1 fr v v' with
  | false => none
  | true => allIn fr h' l (fnat (@Bool.rec (fun _ => Nat) m n' (Nat.ble m n')) k)
def waysK (f : Nat) (args : List MV) (small : Heap) (n : Nat) (v : MV) (l : List (Nat × MObj)) (ws : List Way) : Nat → (Nat → An) → An := @List.rec Way (fun _ => Nat → (Nat → An) → An) (fun m k => k m)
  (fun w _ ih m k => match w with
    | ⟨fr, t⟩ => kf T0 F0 t depth f args (way1K fr v l m fun m => ih m k) small n) ws
/-- Bytes that are told written as such. -/
def litC (fr : List Nat) (x : Nat) : Nat := match Nat.ble 256 x with
  | false => x
  | true => match lget fr (Nat.sub x 256) with | some b => b | none => x
def litCK (fr : List Nat) (x : Nat) (k : Nat → An) : An := match Nat.ble 256 x with
  | false => k x
  | true => match lget fr (Nat.sub x 256) with | some b => k b | none => k x
def litTK (fr : List Nat) (l : List Nat) : (List Nat → An) → An := @List.rec Nat (fun _ => (List Nat → An) → An) (fun k => k []) (fun x _ ih k => litCK fr x fun x => ih fun r => k (x :: r)) l
def litVK (fr : List Nat) (v : MV) (k : MV → An) : An := match v with
  | .str l => litTK fr l fun l => k (.str l)
  | v => k v
def litRK (fr : List Nat) (l : List MV) : (List MV → An) → An := @List.rec MV (fun _ => (List MV → An) → An) (fun k => k []) (fun v _ ih k => litVK fr v fun v => ih fun r => k (v :: r)) l
def litOK (fr : List Nat) (o : MObj) (k : MObj → An) : An := match o with
  | .cells l r => litRK fr l fun l => k (.cells l r)
  | o => k o
def litLK (fr : List Nat) (l : List (Nat × MObj)) : (List (Nat × MObj) → An) → An := @List.rec (Nat × MObj) (fun _ => (List (Nat × MObj) → An) → An) (fun k => k []) (fun p _ ih k => litOK fr p.2 fun o => ih fun r => k ((p.1, o) :: r)) l
def litAK (fr : List Nat) (l : List (Nat × MObj)) (k : List (Nat × MObj) → An) : An := match fr with
  | [] => k l
  | b :: fr => litLK (b :: fr) l k
def mergeK (f : Nat) (t : OT) (fr : List Nat) (ws : List Way) (args : List MV) (k : KV) : G := fun h n =>
  gcK h 100000 (nmL args []) (PT.fill none 19) [] fun small l0 => kf T0 F0 t depth f args (fun v h1 n1 =>
    gcK h1 100000 (nmV v (nmL args [])) (PT.fill none 19) [] fun _ l => litAK fr l fun l => waysK f args small n v l ws n1 fun m =>
      dieK l0 h fun h => layK l h fun h => k v h m) small n
end
end Go.Proofs.YtkeckbmhaplkpaaGreatDoor.Ln
/- A call run by some ways: what it answers holds, whichever is the right one. -/
namespace Go.Proofs.YtkeckbmhaplkpaaGreatDoor.Ln
open Go
variable {Φ : Fact}
noncomputable section

/-! ### The definitions, plain -/
def gcR (h : Heap) : Nat → List Nat → Heap → List (Nat × MObj) → Option (Heap × List (Nat × MObj))
  | 0, _, _, _ => none
  | _ + 1, [], acc, l => some (acc, l)
  | fuel + 1, y :: todo, acc, l => match acc.get y with
    | some _ => gcR h fuel todo acc l
    | none => match h.get y with
      | none => gcR h fuel todo acc l
      | some o => gcR h fuel (nmO o todo) (acc.set y o) ((y, o) :: l)
theorem gcK_eq (h : Heap) (fuel : Nat) : ∀ (todo : List Nat) (acc : Heap) (l : List (Nat × MObj)) (k : Kp), gcK h fuel todo acc l k = match gcR h fuel todo acc l with | none => none | some p => k p.1 p.2 := by
  induction fuel with
  | zero => intro todo acc l k; rfl
  | succ fuel ih =>
    intro todo acc l k
    cases todo with
    | nil => rfl
    | cons y todo =>
      show @Option.rec MObj (fun _ => An) (@Option.rec MObj (fun _ => An) (gcK h fuel todo acc l k) (fun o => (setH 20 y).on fun g => g acc o (fun acc _ => gcK h fuel (nmO o todo) acc ((y, o) :: l) k) 0) (h.get y)) (fun _ => gcK h fuel todo acc l k) (acc.get y) = _
      unfold gcR
      cases acc.get y with
      | some x => exact ih _ _ _ _
      | none =>
        simp only
        cases h.get y with
        | none => exact ih _ _ _ _
        | some o =>
          show (setH 20 y).on (fun g => g acc o (fun acc _ => gcK h fuel (nmO o todo) acc ((y, o) :: l) k) 0) = _
          rw [Clo.on_run, setH_run]
          exact ih _ _ _ _
theorem gcR_part {h : Heap} (fuel : Nat) : ∀ {todo : List Nat} {acc : Heap} {l : List (Nat × MObj)} {p : Heap × List (Nat × MObj)}, gcR h fuel todo acc l = some p → Part acc.get h.get → (∀ e ∈ l, h.get e.1 = some e.2) → (∀ y o, acc.get y = some o → (y, o) ∈ l) →
    Part p.1.get h.get ∧ (∀ e ∈ p.2, h.get e.1 = some e.2) ∧ ∀ y o, p.1.get y = some o → (y, o) ∈ p.2 := by
  induction fuel with
  | zero => intro todo acc l p e; cases e
  | succ fuel ih =>
    intro todo acc l p e h1 h2 h3
    cases todo with
    | nil => obtain rfl := Option.some.inj e; exact ⟨h1, h2, h3⟩
    | cons y todo =>
      unfold gcR at e
      split at e
      · exact ih e h1 h2 h3
      · split at e
        · exact ih e h1 h2 h3
        · rename_i o ho
          refine ih e ?_ ?_ ?_
          · intro z o' hz
            rcases PT.get_set hz with ⟨rfl, rfl⟩ | ⟨_, hz'⟩
            · exact ho
            · exact h1 z o' hz'
          · intro e he
            rcases List.mem_cons.1 he with rfl | he
            · exact ho
            · exact h2 e he
          · intro z o' hz
            rcases PT.get_set hz with ⟨rfl, rfl⟩ | ⟨_, hz'⟩
            · exact List.mem_cons_self ..
            · exact List.mem_cons_of_mem _ (h3 z o' hz')
def inB (fr : List Nat) (h : Heap) (l : List (Nat × MObj)) : Bool := l.all fun p => match h.get p.1 with | none => false | some o => obEqC fr p.2 o
theorem allIn_eq (fr : List Nat) (h : Heap) (l : List (Nat × MObj)) (k : An) : allIn fr h l k = brA (inB fr h l) k := by
  induction l with
  | nil => rfl
  | cons p l ih =>
    show (match h.get p.1 with | none => none | some o => (match obEqC fr p.2 o with | true => allIn fr h l k | false => none)) = brA (Bool.and (match h.get p.1 with | none => false | some o => obEqC fr p.2 o) (inB fr h l)) k
    cases h.get p.1 with
    | none => rfl
    | some o =>
      simp only
      cases obEqC fr p.2 o
      · rfl
      · exact ih
def lay (l : List (Nat × MObj)) (h : Heap) : Heap := l.foldl (fun h p => h.set p.1 p.2) h
def die (l : List (Nat × MObj)) (h : Heap) : Heap := l.foldl (fun h p => h.set p.1 .dead) h
theorem layK_eq (l : List (Nat × MObj)) : ∀ (h : Heap) (k : Heap → An), layK l h k = k (lay l h) := by
  induction l with
  | nil => intro h k; rfl
  | cons p l ih =>
    intro h k
    show (setH 20 p.1).on (fun g => g h p.2 (fun h _ => layK l h k) 0) = _
    rw [Clo.on_run, setH_run]
    exact ih _ _
theorem dieK_eq (l : List (Nat × MObj)) : ∀ (h : Heap) (k : Heap → An), dieK l h k = k (die l h) := by
  induction l with
  | nil => intro h k; rfl
  | cons p l ih =>
    intro h k
    show (setH 20 p.1).on (fun g => g h .dead (fun h _ => dieK l h k) 0) = _
    rw [Clo.on_run, setH_run]
    exact ih _ _
theorem get_lay (l : List (Nat × MObj)) : ∀ (h : Heap) (y : Nat) (o : MObj), (lay l h).get y = some o → (y, o) ∈ l ∨ ((∀ p ∈ l, p.1 ≠ y) ∧ h.get y = some o) := by
  induction l with
  | nil => intro h y o e; exact .inr ⟨fun p hp => (by cases hp), e⟩
  | cons p l ih =>
    intro h y o e
    rcases ih (h.set p.1 p.2) y o e with h1 | ⟨h1, h2⟩
    · exact .inl (List.mem_cons_of_mem _ h1)
    · rcases PT.get_set h2 with ⟨rfl, rfl⟩ | ⟨hne, h3⟩
      · exact .inl (List.mem_cons_self ..)
      · refine .inr ⟨fun q hq => ?_, h3⟩
        rcases List.mem_cons.1 hq with rfl | hq
        · exact fun e => hne e.symm
        · exact h1 q hq
theorem get_die (l : List (Nat × MObj)) : ∀ (h : Heap) (y : Nat) (o : MObj), (die l h).get y = some o → (o = .dead ∧ ∃ p ∈ l, p.1 = y) ∨ ((∀ p ∈ l, p.1 ≠ y) ∧ h.get y = some o) := by
  induction l with
  | nil => intro h y o e; exact .inr ⟨fun p hp => (by cases hp), e⟩
  | cons p l ih =>
    intro h y o e
    rcases ih (h.set p.1 .dead) y o e with ⟨h1, q, hq, h2⟩ | ⟨h1, h2⟩
    · exact .inl ⟨h1, q, List.mem_cons_of_mem _ hq, h2⟩
    · rcases PT.get_set h2 with ⟨rfl, rfl⟩ | ⟨hne, h3⟩
      · exact .inl ⟨rfl, p, List.mem_cons_self .., rfl⟩
      · refine .inr ⟨fun q hq => ?_, h3⟩
        rcases List.mem_cons.1 hq with rfl | hq
        · exact fun e => hne e.symm
        · exact h1 q hq
def waysR (f : Nat) (args : List MV) (small : Heap) (n : Nat) (v : MV) (l : List (Nat × MObj)) : List Way → Nat → Option Nat
  | [], m => some m
  | w :: ws, m => match sf T0 F0 w.t depth f args small n with
    | none => none
    | some r => match vEqC1 w.fr v r.v with
      | false => none
      | true => match inB w.fr r.h l with
        | false => none
        | true => waysR f args small n v l ws (@Bool.rec (fun _ => Nat) m r.n (Nat.ble m r.n))
theorem waysK_eq (f : Nat) (args : List MV) (small : Heap) (n : Nat) (v : MV) (l : List (Nat × MObj)) (ws : List Way) : ∀ (m : Nat) (k : Nat → An), waysK f args small n v l ws m k = match waysR f args small n v l ws m with | none => none | some m => k m := by
  induction ws with
  | nil => intro m k; rfl
  | cons w ws ih =>
    intro m k
    obtain ⟨fr, t⟩ := w
    show kf T0 F0 t depth f args (way1K fr v l m fun m => waysK f args small n v l ws m k) small n = _
    rw [kf_eq]
    unfold waysR
    simp only
    show obR (sf T0 F0 t depth f args small n) _ = _
    cases sf T0 F0 t depth f args small n with
    | none => rfl
    | some r =>
      obtain ⟨rv, rh, rn⟩ := r
      rw [obR_mk]
      unfold way1K
      simp only
      cases vEqC1 fr v rv
      · rfl
      · simp only
        rw [allIn_eq, fnat_eq]
        cases inB fr rh l
        · rfl
        · exact ih _ _
def litV (fr : List Nat) (v : MV) : MV := match v with
  | .str l => .str (l.map (litC fr))
  | v => v
def litO (fr : List Nat) (o : MObj) : MObj := match o with
  | .cells l r => .cells (l.map (litV fr)) r
  | o => o
def litA (fr : List Nat) (l : List (Nat × MObj)) : List (Nat × MObj) := match fr with
  | [] => l
  | b :: fr => l.map fun p => (p.1, litO (b :: fr) p.2)
theorem litCK_eq (fr : List Nat) (x : Nat) (k : Nat → An) : litCK fr x k = k (litC fr x) := by
  unfold litCK litC
  cases Nat.ble 256 x
  · rfl
  · simp only
    cases lget fr (Nat.sub x 256) <;> rfl
theorem litTK_eq (fr : List Nat) (l : List Nat) : ∀ k, litTK fr l k = k (l.map (litC fr)) := by
  induction l with
  | nil => intro k; rfl
  | cons x l ih =>
    intro k
    show litCK fr x (fun x => litTK fr l fun r => k (x :: r)) = _
    rw [litCK_eq, ih]
    rfl
theorem litVK_eq (fr : List Nat) (v : MV) (k : MV → An) : litVK fr v k = k (litV fr v) := by
  cases v <;> try rfl
  exact litTK_eq fr _ _
theorem litRK_eq (fr : List Nat) (l : List MV) : ∀ k, litRK fr l k = k (l.map (litV fr)) := by
  induction l with
  | nil => intro k; rfl
  | cons v l ih =>
    intro k
    show litVK fr v (fun v => litRK fr l fun r => k (v :: r)) = _
    rw [litVK_eq, ih]
    rfl
theorem litOK_eq (fr : List Nat) (o : MObj) (k : MObj → An) : litOK fr o k = k (litO fr o) := by
  cases o <;> try rfl
  exact litRK_eq fr _ _
theorem litLK_eq (fr : List Nat) (l : List (Nat × MObj)) : ∀ k, litLK fr l k = k (l.map fun p => (p.1, litO fr p.2)) := by
  induction l with
  | nil => intro k; rfl
  | cons p l ih =>
    intro k
    show litOK fr p.2 (fun o => litLK fr l fun r => k ((p.1, o) :: r)) = _
    rw [litOK_eq, ih]
    rfl
theorem litAK_eq (fr : List Nat) (l : List (Nat × MObj)) (k : List (Nat × MObj) → An) : litAK fr l k = k (litA fr l) := by
  cases fr with
  | nil => rfl
  | cons b fr => exact litLK_eq _ _ _
def mergeR (f : Nat) (t : OT) (fr : List Nat) (ws : List Way) (args : List MV) (h : Heap) (n : Nat) : An := match gcR h 100000 (nmL args []) (PT.fill none 19) [] with
  | none => none
  | some p => match sf T0 F0 t depth f args p.1 n with
    | none => none
    | some r => match gcR r.h 100000 (nmV r.v (nmL args [])) (PT.fill none 19) [] with
      | none => none
      | some q => match waysR f args p.1 n r.v (litA fr q.2) ws r.n with
        | none => none
        | some m => some ⟨r.v, lay (litA fr q.2) (die p.2 h), m⟩
theorem mergeK_eq (f : Nat) (t : OT) (fr : List Nat) (ws : List Way) (args : List MV) (k : KV) (h : Heap) (n : Nat) : mergeK f t fr ws args k h n = obR (mergeR f t fr ws args h n) k := by
  unfold mergeK mergeR
  rw [gcK_eq]
  cases gcR h 100000 (nmL args []) (PT.fill none 19) [] with
  | none => rfl
  | some p =>
    simp only
    rw [kf_eq]
    show obR (sf T0 F0 t depth f args p.1 n) _ = _
    cases sf T0 F0 t depth f args p.1 n with
    | none => rfl
    | some r =>
      obtain ⟨rv, rh, rn⟩ := r
      rw [obR_mk, gcK_eq]
      simp only
      cases gcR rh 100000 (nmV rv (nmL args [])) (PT.fill none 19) [] with
      | none => rfl
      | some q =>
        simp only
        rw [litAK_eq, waysK_eq]
        cases waysR f args p.1 n rv (litA fr q.2) ws rn with
        | none => rfl
        | some m =>
          simp only
          rw [dieK_eq, layK_eq]
          rfl
end
end Go.Proofs.YtkeckbmhaplkpaaGreatDoor.Ln
/- A call run by some ways is sound, if one of them is the right one. -/
namespace Go.Proofs.YtkeckbmhaplkpaaGreatDoor.Ln
open Go
variable {Φ : Fact}
noncomputable section

/-- An object in the place of another one: it says the same. -/
def Like (θ : Env) (o1 o : MObj) : Prop := o = o1 ∨ ∃ l1 l r, o1 = .cells l1 r ∧ o = .cells l r ∧ l.map (MV.real θ) = l1.map (MV.real θ) ∧ ∀ D, (∀ v ∈ l1, v.ok D ∧ v.one) → ∀ v ∈ l, v.ok D ∧ v.one
theorem Like.is {θ : Env} {o1 o : MObj} {y : Nat} {w : World} (k : Like θ o1 o) (h : ObjIs θ y w o1) : ObjIs θ y w o := by
  rcases k with rfl | ⟨l1, l, r, rfl, rfl, e, _⟩
  · exact h
  · have hl : l.length = l1.length := by simpa using congrArg List.length e
    refine ⟨fun j hj => ?_, ?_⟩
    · have := h.1 j (by omega)
      have ej : l[j].real θ = l1[j].real θ := by
        have := congrArg (fun x => x[j]?) e
        simpa [List.getElem?_eq_getElem hj, List.getElem?_eq_getElem (show j < l1.length by omega)] using this
      rw [ej]; exact this
    · rw [hl]; exact h.2
theorem Like.ok {θ : Env} {o1 o : MObj} {D : Nat → Prop} (k : Like θ o1 o) (h : o1.ok D) : o.ok D := by
  rcases k with rfl | ⟨l1, l, r, rfl, rfl, _, e⟩
  · exact h
  · exact ⟨e D h.1, h.2⟩
theorem Like.alive {θ : Env} {o1 o : MObj} (k : Like θ o1 o) (h : o ≠ .dead) : o1 ≠ .dead := by
  rcases k with rfl | ⟨l1, l, r, rfl, rfl, _, _⟩
  · exact h
  · intro e; cases e
/-- A call that saw a part of the heap alone: the others are as they were. -/
theorem Leads.frame {D : Nat → Prop} {n n1 m : Nat} {θ θ1 : Env} {h small h1 hOut : Heap} {w w1 : World} (hi : Inv Φ D n θ h w) (hp : Part small.get h.get) (l : Leads D n θ small w n1 θ1 h1 w1) (hm : n1 ≤ m)
    (hout : ∀ y o, hOut.get y = some o → (o = .dead ∧ D y) ∨ (small.get y = none ∧ h.get y = some o) ∨ ∃ o1, h1.get y = some o1 ∧ Like θ1 o1 o) : Leads D n θ h w m θ1 hOut w1 := by
  have liveS : ∀ y, Live small y → Live h y := fun y ⟨o, h1, h2⟩ => ⟨o, hp y o h1, h2⟩
  have hD : ∀ y o, h.get y = some o → D y := fun y o e => (hi.ok y o e).1
  have up : ∀ y, Up D n n1 y → Up D n m y := fun y hy => hy.imp id fun ⟨a, b⟩ => ⟨a, by omega⟩
  -- what lives is an old one that the call did not see, or one of its own
  have cls : ∀ y, Live hOut y → (small.get y = none ∧ Live h y) ∨ Live h1 y := by
    rintro y ⟨o, ho, hd⟩
    rcases hout y o ho with ⟨rfl, _⟩ | ⟨h2, h3⟩ | ⟨o1, h2, k⟩
    · exact absurd rfl hd
    · exact .inl ⟨h2, o, h3, hd⟩
    · exact .inr ⟨o1, h2, k.alive hd⟩
  have old : ∀ y, Live h y → θ1.blk y = θ.blk y := fun y ⟨o, ho, _⟩ => (l.same y (hi.lt y (hD y o ho))).1
  have keep : ∀ y, small.get y = none → Live h y → w1.heap[θ.blk y]? = w.heap[θ.blk y]? := fun y hs hy =>
    l.kept _ (hi.rel.lt y hy) fun z hz e => by
      have := hi.rel.sep y z hy (liveS z hz) e.symm
      subst this
      obtain ⟨o, ho, _⟩ := hz
      rw [hs] at ho; cases ho
  have apart : ∀ y z, small.get y = none → Live h y → Live h1 z → θ1.blk y ≠ θ1.blk z := by
    intro y z hs hy hz e
    rw [old y hy] at e
    rcases l.born z hz with ⟨z', hz', e'⟩ | hge
    · have := hi.rel.sep y z' hy (liveS z' hz') (e.trans e'.symm)
      subst this
      obtain ⟨o, ho, _⟩ := hz'
      rw [hs] at ho; cases ho
    · have := hi.rel.lt y hy
      omega
  exact {
    le := Nat.le_trans l.le hm
    same := l.same
    rel := {
      obj := fun y o ho => by
        rcases hout y o ho with ⟨rfl, _⟩ | ⟨h2, h3⟩ | ⟨o1, h2, k⟩
        · trivial
        · by_cases hd : o = .dead
          · subst hd; trivial
          · have hy : Live h y := ⟨o, h3, hd⟩
            exact ObjIs.move (l.same.mono hi.lt) (hD y o h3) (hi.ok y o h3).2 (keep y h2 hy) (hi.rel.obj y o h3)
        · exact k.is (l.rel.obj y o1 h2)
      sep := fun y z hy hz e => by
        rcases cls y hy with ⟨h2, h3⟩ | h2 <;> rcases cls z hz with ⟨h4, h5⟩ | h4
        · rw [old y h3, old z h5] at e
          exact hi.rel.sep y z h3 h5 e
        · exact absurd e (apart y z h2 h3 h4)
        · exact absurd e.symm (apart z y h4 h5 h2)
        · exact l.rel.sep y z h2 h4 e
      lt := fun y hy => by
        rcases cls y hy with ⟨h2, h3⟩ | h2
        · rw [old y h3]; exact Nat.lt_of_lt_of_le (hi.rel.lt y h3) l.size
        · exact l.rel.lt y h2 }
    ok := fun y o ho => by
      rcases hout y o ho with ⟨rfl, hy⟩ | ⟨h2, h3⟩ | ⟨o1, h2, k⟩
      · exact ⟨.inl hy, trivial⟩
      · exact ⟨.inl (hD y o h3), MObj.ok_mono (fun y hy => .inl hy) (hi.ok y o h3).2⟩
      · exact ⟨up y (l.ok y o1 h2).1, k.ok (MObj.ok_mono up (l.ok y o1 h2).2)⟩
    os := l.os
    tape := l.tape
    output := l.output
    size := l.size
    kept := fun b hb hne => l.kept b hb fun y hy => hne y (liveS y hy)
    born := fun y hy => by
      rcases cls y hy with ⟨h2, h3⟩ | h2
      · exact .inl ⟨y, h3, (old y h3).symm⟩
      · rcases l.born y h2 with ⟨z, hz, e⟩ | hge
        · exact .inl ⟨z, liveS z hz, e⟩
        · exact .inr hge }

/-! ### Values held against one another -/
def Told (fr : List Nat) (σ : Nat → UInt8) : Prop := ∀ i b, lget fr i = some b → b < 256 ∧ σ i = UInt8.ofNat b
theorem codeEq_ok {fr : List Nat} {θ : Env} (ht : Told fr θ.sym) {x y : Nat} (e : codeEq fr x y = true) : θ.byte x = θ.byte y := by
  unfold codeEq at e
  cases h : Nat.beq x y
  · rw [h] at e
    change (match Nat.ble 256 y with | true => (match lget fr (Nat.sub y 256) with | some b => Nat.beq x b | none => false) | false => false) = true at e
    split at e
    · rename_i h1
      have h2 := Nat.le_of_ble_eq_true h1
      split at e
      · rename_i b hb
        obtain ⟨h3, h4⟩ := ht _ b hb
        have h5 := Nat.eq_of_beq_eq_true e
        subst h5
        unfold Env.byte
        rw [if_pos h3, if_neg (by omega)]
        exact h4.symm
      · cases e
    · cases e
  · rw [Nat.eq_of_beq_eq_true h]
theorem textEq_ok {fr : List Nat} {θ : Env} (ht : Told fr θ.sym) (a : List Nat) : ∀ {b : List Nat}, textEq fr a b = true → a.map θ.byte = b.map θ.byte := by
  induction a with
  | nil =>
    intro b e
    cases b with
    | nil => rfl
    | cons y s => cases e
  | cons x a ih =>
    intro b e
    cases b with
    | nil => cases e
    | cons y s =>
      change @Bool.rec (fun _ => Bool) false (textEq fr a s) (codeEq fr x y) = true at e
      cases h : codeEq fr x y
      · rw [h] at e; cases e
      · rw [h] at e
        simp only [List.map_cons]
        rw [codeEq_ok ht h, ih e]
theorem vEqC1_ok {fr : List Nat} {θ : Env} (ht : Told fr θ.sym) {a b : MV} (e : vEqC1 fr a b = true) : a.real θ = b.real θ ∧ (∀ D, b.ok D → a.ok D) ∧ (b.one → a.one) := by
  by_cases hs : ∃ l, a = .str l
  · obtain ⟨l, rfl⟩ := hs
    unfold vEqC1 at e
    cases b <;> simp only at e <;> first | (cases e; done) | skip
    rename_i m
    refine ⟨?_, fun D _ => by simp [MV.ok], fun _ => trivial⟩
    simp only [MV.real]
    rw [textEq_ok ht l e]
  · have e' : vEq 4 a b = true := by
      unfold vEqC1 at e
      cases a <;> first | exact e | exact absurd ⟨_, rfl⟩ hs
    rw [vEq_eq e']
    exact ⟨rfl, fun _ h => h, fun h => h⟩
theorem cellsC_ok {fr : List Nat} {θ : Env} (ht : Told fr θ.sym) (a : List MV) : ∀ {b : List MV}, lEq (vEqC1 fr) a b = true → a.map (MV.real θ) = b.map (MV.real θ) ∧ ∀ D, (∀ v ∈ b, v.ok D ∧ v.one) → ∀ v ∈ a, v.ok D ∧ v.one := by
  induction a with
  | nil =>
    intro b e
    cases b with
    | nil => exact ⟨rfl, fun D _ v hv => by cases hv⟩
    | cons y s => cases e
  | cons x a ih =>
    intro b e
    cases b with
    | nil => cases e
    | cons y s =>
      change Bool.and (vEqC1 fr x y) (lEq (vEqC1 fr) a s) = true at e
      simp only [Bool.and_eq_true] at e
      obtain ⟨h1, h2, h3⟩ := vEqC1_ok ht e.1
      obtain ⟨h4, h5⟩ := ih e.2
      refine ⟨by simp only [List.map_cons]; rw [h1, h4], fun D hD v hv => ?_⟩
      have hy := hD y (List.mem_cons_self ..)
      rcases List.mem_cons.1 hv with rfl | hv
      · exact ⟨h2 D hy.1, h3 hy.2⟩
      · exact h5 D (fun v hv => hD v (List.mem_cons_of_mem _ hv)) v hv
theorem obEqC_ok {fr : List Nat} {θ : Env} (ht : Told fr θ.sym) {o oc : MObj} (e : obEqC fr o oc = true) : Like θ oc o := by
  cases o <;> cases oc <;> simp only [obEqC] at e <;> first | (cases e; done) | skip
  · simp only [Bool.and_eq_true] at e
    obtain ⟨h1, h2⟩ := cellsC_ok ht _ e.1
    rw [roomEq_eq e.2]
    exact .inr ⟨_, _, _, rfl, rfl, h1, h2⟩
  · simp only [Bool.and_eq_true] at e
    rw [enEq_eq e.1, Nat.eq_of_beq_eq_true e.2]
    exact .inl rfl
  · exact .inl rfl
theorem inB_ok {fr : List Nat} {h : Heap} {l : List (Nat × MObj)} (e : inB fr h l = true) : ∀ p ∈ l, ∃ o, h.get p.1 = some o ∧ obEqC fr p.2 o = true := by
  unfold inB at e
  rw [List.all_eq_true] at e
  intro p hp
  have := e p hp
  split at this
  · cases this
  · rename_i o ho
    exact ⟨o, ho, this⟩
theorem pick_eq (m n : Nat) : @Bool.rec (fun _ => Nat) m n (Nat.ble m n) = if m ≤ n then n else m := by
  cases h : Nat.ble m n
  · have : ¬ m ≤ n := fun h2 => by rw [Nat.ble_eq_true_of_le h2] at h; cases h
    rw [if_neg this]
  · rw [if_pos (Nat.le_of_ble_eq_true h)]
theorem waysR_ok {f : Nat} {args : List MV} {small : Heap} {n : Nat} {v : MV} {l : List (Nat × MObj)} (ws : List Way) : ∀ {m m' : Nat}, waysR f args small n v l ws m = some m' → m ≤ m' ∧ ∀ w ∈ ws, ∃ r, sf T0 F0 w.t depth f args small n = some r ∧ vEqC1 w.fr v r.v = true ∧ inB w.fr r.h l = true ∧ r.n ≤ m' := by
  induction ws with
  | nil => intro m m' e; obtain rfl := Option.some.inj e; exact ⟨Nat.le_refl _, fun w hw => by cases hw⟩
  | cons w ws ih =>
    intro m m' e
    unfold waysR at e
    split at e
    · cases e
    rename_i r hr
    split at e
    · cases e
    rename_i h1
    split at e
    · cases e
    rename_i h2
    rw [pick_eq] at e
    obtain ⟨h3, h4⟩ := ih e
    have h5 : m ≤ m' ∧ r.n ≤ m' := by
      by_cases h : m ≤ r.n
      · rw [if_pos h] at h3; omega
      · rw [if_neg h] at h3; omega
    refine ⟨h5.1, fun w' hw => ?_⟩
    rcases List.mem_cons.1 hw with rfl | hw
    · exact ⟨r, hr, h1, h2, h5.2⟩
    · exact h4 w' hw
/-- What a call by the fast evaluator yields, where the function has a text. -/
theorem sf_calls {Φ : Fact} {t : OT} (hO : OrcOk Φ Tryz.prog (orcOf t)) {f : Nat} (hf : hasF f = true) {args : List MV} {h : Heap} {n : Nat} {r : R} (e : sf T0 F0 t depth f args h n = some r) {D : Nat → Prop} {θ : Env} {w : World} (hi : Inv Φ D n θ h w) (ha : oks D args) :
    (callFunc f (reals θ args).toArray).run Tryz.prog w = .ok (.enter f (reals θ args).toArray) w ∧ Calls Tryz.prog f (reals θ args).toArray w (Ret D n θ h w r) := by
  obtain ⟨fx, b, h1, h2⟩ := hasF_ok hf
  obtain ⟨g1, g2, _⟩ := fxOk (Φ := Φ) f fx h1
  rcases sf_sound tyOk fxOk hO depth f args h n r e D θ w hi ha with h3 | ⟨θ', w', x, h3, h4, _⟩
  · exact h3
  · rw [enter_of g1 g2 h2] at h3
    injection h3 with h5 h6
    subst h5
    rcases h4 with h4 | ⟨h4, _⟩ <;> cases h4
theorem litV_ok {fr : List Nat} {θ : Env} (ht : Told fr θ.sym) (v : MV) : (litV fr v).real θ = v.real θ ∧ ∀ D, v.ok D ∧ v.one → (litV fr v).ok D ∧ (litV fr v).one := by
  cases v <;> try exact ⟨rfl, fun D h => h⟩
  rename_i l
  refine ⟨?_, fun D _ => ⟨by simp [litV, MV.ok], by simp [litV, MV.one]⟩⟩
  simp only [litV, MV.real, List.map_map]
  congr 3
  refine List.map_congr_left fun x _ => ?_
  show θ.byte (litC fr x) = θ.byte x
  unfold litC
  split
  · rfl
  · rename_i h1
    have h2 := Nat.le_of_ble_eq_true h1
    split
    · rename_i b hb
      obtain ⟨h3, h4⟩ := ht _ b hb
      unfold Env.byte
      rw [if_pos h3, if_neg (by omega)]
      exact h4.symm
    · rfl
theorem litO_ok {fr : List Nat} {θ : Env} (ht : Told fr θ.sym) (o : MObj) : Like θ o (litO fr o) := by
  cases o <;> try exact .inl rfl
  rename_i l r
  refine .inr ⟨l, l.map (litV fr), r, rfl, rfl, ?_, fun D hD v hv => ?_⟩
  · rw [List.map_map]
    exact List.map_congr_left fun v _ => (litV_ok ht v).1
  · obtain ⟨u, hu, rfl⟩ := List.mem_map.1 hv
    exact (litV_ok ht u).2 D (hD u hu)
theorem litA_ok {fr : List Nat} {θ : Env} (ht : Told fr θ.sym) (l : List (Nat × MObj)) (e : Nat × MObj) (he : e ∈ litA fr l) : ∃ o, (e.1, o) ∈ l ∧ Like θ o e.2 := by
  cases fr with
  | nil => exact ⟨e.2, he, .inl rfl⟩
  | cons b fr =>
    obtain ⟨p, hp, rfl⟩ := List.mem_map.1 he
    exact ⟨p.2, hp, litO_ok ht p.2⟩
theorem merge_ok {Φ Φ0 : Fact} {f : Nat} {t : OT} {fr : List Nat} {ws : List Way} (hf : hasF f = true) (h0 : OrcOk Φ0 Tryz.prog (orcOf t)) (h0t : ∀ σ, Φ0 σ → Told fr σ)
    (hc : ∀ σ, Φ σ → Φ0 σ ∨ ∃ w ∈ ws, ∃ Φ' : Fact, Φ' σ ∧ OrcOk Φ' Tryz.prog (orcOf w.t) ∧ Told w.fr σ) {args : List MV} {h : Heap} {n : Nat} {r : R} (e : mergeR f t fr ws args h n = some r) : FnOk Φ Tryz.prog f args h n r := by
  intro D θ w hi ha
  unfold mergeR at e
  split at e
  · cases e
  rename_i p hp
  split at e
  · cases e
  rename_i r1 hr1
  split at e
  · cases e
  rename_i q hq
  split at e
  · cases e
  rename_i m hm
  obtain rfl := Option.some.inj e
  have no : Part (PT.fill (none : Option MObj) 19).get h.get := fun y o e => by rw [get_none] at e; cases e
  obtain ⟨p1, p2, p3⟩ := gcR_part _ hp no (fun e he => by cases he) (fun y o e => by rw [get_none] at e; cases e)
  have no1 : Part (PT.fill (none : Option MObj) 19).get r1.h.get := fun y o e => by rw [get_none] at e; cases e
  obtain ⟨_, q2, _⟩ := gcR_part _ hq no1 (fun e he => by cases he) (fun y o e => by rw [get_none] at e; cases e)
  obtain ⟨m1, m2⟩ := waysR_ok ws hm
  have small : ∀ {Ψ : Fact}, Ψ θ.sym → Inv Ψ D n θ p.1 w := fun hΨ => ⟨hΨ, hi.lt, relG_iff.2 (RelG.part p1 (relG_iff.1 hi.rel)), fun y o e => hi.ok y o (p1 y o e)⟩
  -- what a way yields, as the answer tells it
  have fin : ∀ {t' : OT} {rc : R} {Ψ : Fact}, Ψ θ.sym → OrcOk Ψ Tryz.prog (orcOf t') → sf T0 F0 t' depth f args p.1 n = some rc → rc.n ≤ m →
      (∀ θ', θ'.sym = θ.sym → r1.v.real θ' = rc.v.real θ' ∧ (∀ D, rc.v.ok D → r1.v.ok D) ∧ ∀ e ∈ litA fr q.2, ∃ o1, rc.h.get e.1 = some o1 ∧ Like θ' o1 e.2) →
      (callFunc f (reals θ args).toArray).run Tryz.prog w = .ok (.enter f (reals θ args).toArray) w ∧ Calls Tryz.prog f (reals θ args).toArray w (Ret D n θ h w ⟨r1.v, lay (litA fr q.2) (die p.2 h), m⟩) := by
    intro t' rc Ψ hΨ hO hrc hn hl
    obtain ⟨c1, c2⟩ := sf_calls hO hf hrc (small hΨ) ha
    refine ⟨c1, c2.mono ?_⟩
    rintro ex w' ⟨θ', rfl, l, ok⟩
    obtain ⟨l1, l2, l3⟩ := hl θ' l.same.sym
    refine ⟨θ', by rw [l1], l.frame hi p1 hn fun y o ho => ?_, MV.ok_mono (fun y hy => hy.imp id fun ⟨a, b⟩ => ⟨a, Nat.lt_of_lt_of_le b hn⟩) (l2 _ ok)⟩
    rcases get_lay _ _ _ _ ho with h1 | ⟨_, h1⟩
    · exact .inr (.inr (l3 (y, o) h1))
    · rcases get_die _ _ _ _ h1 with ⟨rfl, e, he, rfl⟩ | ⟨h2, h3⟩
      · exact .inl ⟨rfl, (hi.ok _ _ (p2 e he)).1⟩
      · refine .inr (.inl ⟨?_, h3⟩)
        cases hs : p.1.get y with
        | none => rfl
        | some o' => exact absurd rfl (h2 _ (p3 y o' hs))
  rcases hc θ.sym hi.fact with hΦ | ⟨w', hw, Φ', hΦ, hO, ht⟩
  · refine .inl (fin hΦ h0 hr1 m1 fun θ' hs => ⟨rfl, fun _ h => h, fun e he => ?_⟩)
    have ht' : Told fr θ'.sym := by rw [hs]; exact h0t _ hΦ
    obtain ⟨o, ho, k⟩ := litA_ok ht' _ e he
    exact ⟨o, q2 _ ho, k⟩
  · obtain ⟨rc, g1, g2, g3, g4⟩ := m2 w' hw
    refine .inl (fin hΦ hO g1 g4 fun θ' hs => ?_)
    have ht' : Told w'.fr θ'.sym := by rw [hs]; exact ht
    obtain ⟨a1, a2, _⟩ := vEqC1_ok ht' g2
    refine ⟨a1, a2, fun e he => ?_⟩
    obtain ⟨o, o1, o2⟩ := inB_ok g3 e he
    exact ⟨o, o1, obEqC_ok ht' o2⟩
end
end Go.Proofs.YtkeckbmhaplkpaaGreatDoor.Ln
/- What vars.word and editor.turn answer of texts whose bytes are not all known. -/
namespace Go.Proofs.YtkeckbmhaplkpaaGreatDoor.Ln
open Go Go.RowKit
variable {Φ : Fact}
open Go.Proofs.YtkeckbmhaplkpaaGreatDoor.Wd (isW word_any Fst)
open Go.Proofs.YtkeckbmhaplkpaaGreatDoor.Tu (turn_any Pre PreEnd Suf SufEnd)

/-! ### vars.word -/
/-- Is the first byte that is not known one of a word? -/
def FactW (kw : Bool) : Fact := fun σ => isW ((σ 0).toNat : Int) = kw
theorem text_full (θ : Env) (n : Nat) (s : ByteArray) (hs : s.size ≠ 0) (y : Nat) : (if y = n then s else θ.txt y).size ≠ 0 := by
  by_cases h : y = n
  · rw [if_pos h]; exact hs
  · rw [if_neg h]; exact θ.full y
def Env.text (θ : Env) (n : Nat) (s : ByteArray) (hs : s.size ≠ 0) : Env := { θ with txt := fun y => if y = n then s else θ.txt y, full := text_full θ n s hs }
theorem Env.text_same (θ : Env) (n : Nat) (s : ByteArray) (hs : s.size ≠ 0) : Env.same (· < n) θ (θ.text n s hs) := by
  refine ⟨fun y _ => ⟨rfl, rfl, rfl⟩, fun y hy => ?_, rfl⟩
  show (if y = n then s else θ.txt y) = θ.txt y
  rw [if_neg (by omega)]
theorem word_ok {Φ : Fact} {b0 : Nat} {kw : Bool} (hΦ : ∀ θ : Env, Φ θ.sym → isW ((θ.byte b0).toNat : Int) = kw) {args : List MV} {h : Heap} {n : Nat} {r : R} (e : oWord b0 kw args h n = some (some r)) : FnOk Φ Tryz.prog 218 args h n r := by
  unfold oWord at e
  split at e
  · rename_i b l
    split at e
    · rename_i hb
      simp only [Bool.and_eq_true] at hb
      obtain ⟨hb, _, hl⟩ := hb
      obtain rfl := Nat.eq_of_beq_eq_true hb
      have hl := Nat.le_of_ble_eq_true hl
      rw [llen_eq] at hl
      intro D θ w hi ha
      refine .inl ⟨enter_fn Tryz.func218 (by kernel_rfl) (by rfl) _ w, ?_⟩
      have hf : isW ((θ.byte b).toNat : Int) = kw := hΦ θ hi.fact
      have er : (reals θ [.str (b :: l), .int .i64 (.ofNat 0)]).toArray = #[.string ⟨((b :: l).map θ.byte).toArray⟩, .int .i64 0] := by
        simp only [reals, MV.real]
        rfl
      rw [er]
      have hsz : (⟨((b :: l).map θ.byte).toArray⟩ : ByteArray).size = l.length + 1 := by rw [byte_size]; rfl
      have h0 : ∀ hh : 0 < (⟨((b :: l).map θ.byte).toArray⟩ : ByteArray).size, (⟨((b :: l).map θ.byte).toArray⟩ : ByteArray)[0] = θ.byte b := fun _ => rfl
      refine (word_any _ w (by omega)).mono ?_
      rintro ex w' ⟨⟨k, hk, rfl, h1, h2⟩, hbl⟩
      cases kw
      · simp only [fnat_eq, Option.some.injEq] at e
        subst e
        have hk0 : k = 0 := by
          rcases Nat.eq_zero_or_pos k with hk | hk
          · exact hk
          · obtain ⟨g1, g2⟩ := h1 hk
            rw [h0, hf] at g2; cases g2
        subst hk0
        refine ⟨θ, ?_, leads_env hi hbl (Env.same.refl _ _) (by show n ≤ n + 5; omega), by simp [MV.ok]⟩
        simp only [MV.real]
        congr 2
      · simp only [fnat_eq, Option.some.injEq] at e
        subst e
        have hk0 : k ≠ 0 := by
          intro hk
          have := h2 hk (by omega)
          rw [h0, hf] at this; cases this
        have hne : ((⟨((b :: l).map θ.byte).toArray⟩ : ByteArray).extract 0 k).size ≠ 0 := by
          rw [ByteArray.size_extract]; omega
        refine ⟨θ.text n _ hne, ?_, leads_env hi hbl (Env.text_same θ n _ hne) (Nat.le_succ n), ?_⟩
        · simp only [MV.real]
          show _ = Ending.returned (.string (if n = n then _ else _))
          rw [if_pos rfl]
        · simp only [MV.ok]
          exact .inr ⟨Nat.le_refl _, Nat.lt_succ_self n⟩
    · cases e
  · cases e

/-! ### editor.turn -/
/-- What is known of the first bytes: the first ones, and that the c-th is not ne. -/
def FactT (fr : List Nat) (c : Nat) (ne : Option Nat) : Fact := fun σ => Told fr σ ∧ ∀ d, ne = some d → σ c ≠ UInt8.ofNat d
theorem pre_one {s t : ByteArray} {k c : Nat} (a : Pre s t k) (b : PreEnd s t k) (a' : Pre s t c) (b' : PreEnd s t c) : k = c := by
  obtain ⟨a1, a2, a3⟩ := a
  obtain ⟨c1, c2, c3⟩ := a'
  rcases Nat.lt_trichotomy k c with h | h | h
  · rcases b with b | b | b
    · omega
    · omega
    · exact absurd (c3 k h) b
  · exact h
  · rcases b' with b | b | b
    · omega
    · omega
    · exact absurd (a3 c h) b
theorem suf_one {s t : ByteArray} {k m c : Nat} (a : Suf s t k m) (b : SufEnd s t k m) (a' : Suf s t k c) (b' : SufEnd s t k c) : m = c := by
  obtain ⟨a1, a2, a3⟩ := a
  obtain ⟨c1, c2, c3⟩ := a'
  rcases Nat.lt_trichotomy m c with h | h | h
  · rcases b with b | b | b
    · omega
    · omega
    · exact absurd (c3 m h) b
  · exact h
  · rcases b' with b | b | b
    · omega
    · omega
    · exact absurd (a3 c h) b
theorem lrev_eq (l : List Nat) : ∀ r, lrev l r = l.reverse ++ r := by
  induction l with
  | nil => intro r; rfl
  | cons x l ih =>
    intro r
    show lrev l (x :: r) = _
    rw [ih]; simp
theorem lmin_eq (a b : Nat) : lmin a b = min a b := by
  unfold lmin
  cases h : Nat.ble a b
  · have : ¬ a ≤ b := fun h2 => by rw [Nat.ble_eq_true_of_le h2] at h; cases h
    show b = _; omega
  · have := Nat.le_of_ble_eq_true h
    show a = _; omega
theorem byteEq_no (θ : Env) {x y : Nat} (h : byteEq x y = some false) : θ.byte x ≠ θ.byte y := by
  unfold byteEq at h
  split at h
  · cases h
  · rename_i h1
    have hne := Nat.ne_of_beq_eq_false h1
    split at h
    · rename_i h2
      simp only [Bool.or_eq_true, Bool.and_eq_true] at h2
      have th : ∀ b, thin b = true → b = 9 ∨ b = 10 ∨ b = 32 := by
        intro b hb
        unfold thin at hb
        simp only [Bool.or_eq_true] at hb
        rcases hb with hb | hb | hb
        · exact .inl (Nat.eq_of_beq_eq_true hb)
        · exact .inr (.inl (Nat.eq_of_beq_eq_true hb))
        · exact .inr (.inr (Nat.eq_of_beq_eq_true hb))
      rcases h2 with ⟨h2, h3⟩ | h2 | h2
      · have a := Nat.le_of_ble_eq_true h2
        have b := Nat.le_of_ble_eq_true h3
        unfold Env.byte
        rw [if_pos (by omega), if_pos (by omega)]
        intro e
        have := congrArg UInt8.toNat e
        simp only [UInt8.toNat_ofNat'] at this
        omega
      · have hx := th x h2
        have e1 : θ.byte x = UInt8.ofNat x := by unfold Env.byte; rw [if_pos (by omega)]
        intro e
        rw [e1] at e
        exact hne ((byte_thin θ y x hx).1 e.symm).symm
      · have hy := th y h2
        have e1 : θ.byte y = UInt8.ofNat y := by unfold Env.byte; rw [if_pos (by omega)]
        intro e
        rw [e1] at e
        exact hne ((byte_thin θ x y hy).1 e)
    · cases h
/-- As many bytes as two lists begin with, at most m of them. -/
theorem endK_is (θ : Env) (k : Nat → Option An) (y : An) (a : List Nat) : ∀ (b : List Nat) (m i : Nat), endK a b m i k = some y → m ≤ a.length → m ≤ b.length →
    ∃ j, j ≤ m ∧ k (i + j) = some y ∧ (∀ p, p < j → (a.map θ.byte)[p]? = (b.map θ.byte)[p]?) ∧ (j = m ∨ (a.map θ.byte)[j]? ≠ (b.map θ.byte)[j]?) := by
  induction a with
  | nil =>
    intro b m i e h1 h2
    have : m = 0 := by simpa using h1
    subst this
    exact ⟨0, Nat.le_refl _, e, fun p hp => absurd hp (by omega), .inl rfl⟩
  | cons x a ih =>
    intro b m i e h1 h2
    cases b with
    | nil =>
      have : m = 0 := by simpa using h2
      subst this
      exact ⟨0, Nat.le_refl _, e, fun p hp => absurd hp (by omega), .inl rfl⟩
    | cons z b =>
      change @Bool.rec (fun _ => Option An) (@Bool.rec (fun _ => Option An) (endStop (byteEq x z) (k i)) (fnat (Nat.succ i) fun i => endK a b (Nat.pred m) i k) (Nat.beq x z)) (k i) (Nat.beq m 0) = some y at e
      cases hm : Nat.beq m 0
      · rw [hm] at e
        have m0 := Nat.ne_of_beq_eq_false hm
        cases hx : Nat.beq x z
        · rw [hx] at e
          change endStop (byteEq x z) (k i) = some y at e
          unfold endStop at e
          split at e
          · rename_i hb
            refine ⟨0, Nat.zero_le _, e, fun p hp => absurd hp (by omega), .inr ?_⟩
            simp only [List.map_cons, List.getElem?_cons_zero]
            exact fun h => byteEq_no θ hb (Option.some.inj h)
          · cases e
        · rw [hx] at e
          have exz := Nat.eq_of_beq_eq_true hx
          subst exz
          change fnat (Nat.succ i) (fun i => endK a b (Nat.pred m) i k) = some y at e
          rw [fnat_eq] at e
          obtain ⟨j, g1, g2, g3, g4⟩ := ih b (m - 1) (i + 1) e (by simp at h1; omega) (by simp at h2; omega)
          refine ⟨j + 1, by omega, by rw [show i + (j + 1) = i + 1 + j by omega]; exact g2, fun p hp => ?_, ?_⟩
          · cases p with
            | zero => rfl
            | succ p => simpa using g3 p (by omega)
          · rcases g4 with g4 | g4
            · exact .inl (by omega)
            · exact .inr (by simpa using g4)
      · rw [hm] at e
        obtain rfl := Nat.eq_of_beq_eq_true hm
        exact ⟨0, Nat.le_refl _, e, fun p hp => absurd hp (by omega), .inl rfl⟩
theorem rev_get (l : List UInt8) (i : Nat) (h : i < l.length) : l.reverse[i]? = l[l.length - 1 - i]? := by
  rw [List.getElem?_reverse h]
theorem data_get (θ : Env) (l : List Nat) (i : Nat) : (⟨(l.map θ.byte).toArray⟩ : ByteArray).data[i]? = (l.map θ.byte)[i]? := by simp
theorem turn_ok {fr : List Nat} {c burn g : Nat} {ne : Option Nat} {args : List MV} {h : Heap} {n : Nat} {r : R} (e : oTurn fr c ne burn g args h n = some (some r)) : FnOk (FactT fr c ne) Tryz.prog 60 args h n r := by
  unfold oTurn at e
  split at e
  · rename_i was now
    split at e
    · cases e
    split at e
    · cases e
    rename_i hb
    simp only [Bool.and_eq_true] at hb
    have l1 := Nat.le_of_ble_eq_true hb.1
    have l2 := Nat.le_of_ble_eq_true hb.2
    rw [llen_eq] at l1 l2
    unfold ltakeN at e
    obtain ⟨c1, e⟩ := ltakeK_some e
    obtain ⟨c2, e⟩ := ltakeK_some e
    split at e
    · cases e
    rename_i hp
    simp only [Bool.and_eq_true] at hp
    obtain ⟨hp1, hp2⟩ := hp
    rw [fnat_eq, fnat_eq, llen_eq, llen_eq] at e
    unfold turnEnd at e
    rw [lrev_eq, lrev_eq, List.append_nil, List.append_nil, lmin_eq] at e
    intro D θ w hi ha
    obtain ⟨f1, f2⟩ := hi.fact
    obtain ⟨j, j1, j2, j3, j4⟩ := endK_is θ _ _ was.reverse now.reverse _ _ e (by show min (was.length - c) (now.length - c) ≤ _; simp; omega) (by show min (was.length - c) (now.length - c) ≤ _; simp; omega)
    rw [Nat.zero_add] at j2
    simp only [fnat_eq] at j2
    unfold ltakeN at j2
    obtain ⟨t1, j2⟩ := ltakeK_some j2
    simp only [Option.some.injEq] at j2
    subst j2
    change j ≤ min (was.length - c) (now.length - c) at j1
    have hs1 := byte_size θ was
    have hs2 := byte_size θ now
    -- what both begin with
    have q1 : Pre ⟨(was.map θ.byte).toArray⟩ ⟨(now.map θ.byte).toArray⟩ c := by
      refine ⟨by rw [hs1]; exact c1, by rw [hs2]; exact c2, fun i hic => ?_⟩
      have := textEq_ok (θ := θ) f1 _ hp1
      rw [data_get, data_get]
      have h3 := congrArg (fun x => x[i]?) this
      simp only [List.map_take] at h3
      rw [List.getElem?_take_of_lt hic, List.getElem?_take_of_lt hic] at h3
      exact h3.symm
    have q2 : PreEnd ⟨(was.map θ.byte).toArray⟩ ⟨(now.map θ.byte).toArray⟩ c := by
      unfold PreEnd
      rw [data_get, data_get, hs1, hs2]
      rw [lget_eq, lget_eq] at hp2
      unfold partAt at hp2
      split at hp2
      · rename_i hx
        have := List.getElem?_eq_none_iff.1 hx
        exact .inl (by omega)
      · rename_i x hx
        split at hp2
        · rename_i hy
          have := List.getElem?_eq_none_iff.1 hy
          exact .inr (.inl (by omega))
        · rename_i y hy
          refine .inr (.inr ?_)
          rw [List.getElem?_map, List.getElem?_map, hx, hy]
          simp only [Option.map_some]
          intro hxy
          have hxy := Option.some.inj hxy
          split at hp2
          · rename_i hbe
            exact byteEq_no θ hbe hxy
          · split at hp2
            · cases hp2
            · rename_i d
              simp only [Bool.and_eq_true] at hp2
              obtain ⟨g1, g2, g3⟩ := hp2
              have g1 := Nat.eq_of_beq_eq_true g1
              have g2 := Nat.eq_of_beq_eq_true g2
              have g3 := Nat.le_of_ble_eq_true g3
              change x = 256 + c at g1
              subst g1; subst g2
              have e1 : θ.byte (256 + c) = θ.sym c := by
                unfold Env.byte
                rw [if_neg (Nat.not_lt.2 (Nat.le_add_right 256 c)), Nat.add_sub_cancel_left]
              have e2 : θ.byte y = UInt8.ofNat y := by
                unfold Env.byte
                rw [if_pos (by omega)]
              rw [e1, e2] at hxy
              exact f2 y rfl hxy
    have q3 : Suf ⟨(was.map θ.byte).toArray⟩ ⟨(now.map θ.byte).toArray⟩ c j := by
      refine ⟨by rw [hs1]; omega, by rw [hs2]; omega, fun i hij => ?_⟩
      rw [data_get, data_get, hs1, hs2]
      have h3 := j3 i hij
      rw [List.map_reverse, List.map_reverse, rev_get _ i (by simp; omega), rev_get _ i (by simp; omega)] at h3
      simpa using h3
    have q4 : SufEnd ⟨(was.map θ.byte).toArray⟩ ⟨(now.map θ.byte).toArray⟩ c j := by
      unfold SufEnd
      rw [data_get, data_get, hs1, hs2]
      by_cases hj1 : j = was.length - c
      · exact .inl hj1
      · by_cases hj2 : j = now.length - c
        · exact .inr (.inl hj2)
        · rcases j4 with j4 | j4
          · exfalso
            change j = min (was.length - c) (now.length - c) at j4
            omega
          · refine .inr (.inr ?_)
            rw [List.map_reverse, List.map_reverse, rev_get _ j (by simp; omega), rev_get _ j (by simp; omega)] at j4
            simpa using j4
    refine .inl ⟨enter_fn Tryz.func60 (by kernel_rfl) (by rfl) _ w, ?_⟩
    have er : (reals θ [.str was, .str now]).toArray = #[.string ⟨(was.map θ.byte).toArray⟩, .string ⟨(now.map θ.byte).toArray⟩] := by
      simp only [reals, MV.real]
    rw [er]
    refine (turn_any _ _ w (by omega) (by omega)).mono ?_
    rintro ex w' ⟨⟨k, m, rfl, k1, k2, k3, k4⟩, hbl⟩
    obtain rfl := pre_one k1 k2 q1 q2
    obtain rfl := suf_one k3 k4 q3 q4
    refine ⟨θ, ?_, leads_env hi hbl (Env.same.refl _ _) (by show n ≤ n + burn; omega), ?_⟩
    · simp only [editMV, MV.real, reals, numMV]
      rw [hs1, hs2]
      have et : (⟨(now.map θ.byte).toArray⟩ : ByteArray).extract k (now.length - m) = ⟨(((ldrop now k).take (Nat.sub (Nat.sub now.length m) k)).map θ.byte).toArray⟩ := by
        refine ByteArray.ext ?_
        rw [ByteArray.data_extract]
        show (now.map θ.byte).toArray.extract k (now.length - m) = _
        rw [List.extract_toArray, List.extract_eq_take_drop, ldrop_eq, List.map_take, List.map_drop]
        rfl
      rw [et]
      rfl
    · simp only [editMV, MV.ok, oks, numMV, MV.one]
      refine ⟨⟨trivial, trivial, trivial, trivial⟩, fun v hv => ?_⟩
      simp only [List.mem_cons, List.not_mem_nil, or_false] at hv
      rcases hv with rfl | rfl | rfl <;> trivial
  · cases e
end Go.Proofs.YtkeckbmhaplkpaaGreatDoor.Ln
