/- An editor between two calls, as TopFuel meets it. -/
import Derived.Test.YtkeckbmhaplkpaaGreatDoorCk
import Derived.Test.YtkeckbmhaplkpaaGreatDoorNS
import Derived.Test.YtkeckbmhaplkpaaGreatDoorNA
import Derived.Test.YtkeckbmhaplkpaaGreatDoorNB
import Derived.Test.YtkeckbmhaplkpaaGreatDoorNC
import Derived.Test.YtkeckbmhaplkpaaGreatDoorND
import Derived.WalkKit
import Derived.WalkSpells
namespace Go.Proofs.YtkeckbmhaplkpaaGreatDoor.Ev
open Go Go.RowKit

/-- Between two calls: the heap, what some values are, blocks that are nobody's. -/
def Ed (w0 : World) (h : Heap) (n : Nat) (vs : List (MV × Value)) (F : List (Nat × Obj)) (w : World) : Prop :=
  ∃ D θ, Inv D n θ h w ∧ Below w0.heap.size w0 w ∧ (∀ y, Live h y → w0.heap.size ≤ θ.blk y) ∧ (∀ x ∈ vs, x.1.ok D ∧ x.1.real θ = x.2) ∧ ∀ x ∈ F, w.heap[x.1]? = some x.2 ∧ w0.heap.size ≤ x.1 ∧ ∀ y, Live h y → θ.blk y ≠ x.1
section
variable {w0 w : World} {h : Heap} {n : Nat} {vs : List (MV × Value)} {F : List (Nat × Obj)}
theorem Ed.start (w0 : World) : Ed w0 .lf 0 [] [] w0 := by
  have no : ∀ y, ¬ Live .lf y := by
    rintro y ⟨o, h1, _⟩
    rw [PT.get_lf] at h1; cases h1
  refine ⟨fun _ => False, E0, ⟨fun y hy => hy.elim, ⟨fun y o hy => ?_, fun y z hy => (no y hy).elim, fun y hy => (no y hy).elim⟩, fun y o hy => ?_⟩, Below.refl _ _, fun y hy => (no y hy).elim, fun x hx => (by cases hx), fun x hx => (by cases hx)⟩
  · rw [PT.get_lf] at hy; cases hy
  · rw [PT.get_lf] at hy; cases hy
theorem Ed.call {f : Nat} {args : List MV} {v : MV} {g : Heap} {n' : Nat} {av : Array Value} (hc : Con Tryz.prog f args h n ⟨v, g, n'⟩) (hE : Ed w0 h n vs F w) (ha : ∀ D θ, (∀ x ∈ vs, x.1.ok D ∧ x.1.real θ = x.2) → oks D args ∧ (reals θ args).toArray = av) :
    Calls Tryz.prog f av w fun e w' => ∃ u, e = .returned u ∧ Ed w0 g n' ((v, u) :: vs) F w' := by
  obtain ⟨D, θ, hi, hb, hl, hv, hF⟩ := hE
  obtain ⟨a1, a2⟩ := ha D θ hv
  rw [← a2]
  refine (hc D θ w hi a1).mono ?_
  rintro e w' ⟨θ', rfl, l, ok⟩
  have lt : ∀ k o, w.heap[k]? = some o → k < w.heap.size := fun k o hk => (Array.getElem?_eq_some_iff.1 hk).1
  refine ⟨_, rfl, Up D n n', θ', l.inv hi, ⟨l.os.trans hb.os, l.tape.trans hb.tape, l.output.trans hb.output, Nat.le_trans hb.size l.size, fun k hk => ?_⟩, fun y hy => ?_, fun x hx => ?_, fun x hx => ⟨?_, (hF x hx).2.1, fun y hy => ?_⟩⟩
  · refine (l.kept k (Nat.lt_of_lt_of_le hk hb.size) fun y hy e => ?_).trans (hb.block k hk)
    have := hl y hy
    omega
  · rcases l.born y hy with ⟨z, hz, e⟩ | h1
    · rw [← e]; exact hl z hz
    · exact Nat.le_trans hb.size h1
  · rcases List.mem_cons.1 hx with rfl | hx
    · exact ⟨ok, rfl⟩
    · obtain ⟨o1, o2⟩ := hv x hx
      exact ⟨MV.ok_mono up_mono o1, by rw [MV.real_same (l.env hi) o1]; exact o2⟩
  · obtain ⟨h1, _, h2⟩ := hF x hx
    exact (l.kept x.1 (lt _ _ h1) h2).trans h1
  · obtain ⟨h1, _, h2⟩ := hF x hx
    rcases l.born y hy with ⟨z, hz, e⟩ | h3
    · rw [← e]; exact h2 z hz
    · have := lt _ _ h1
      omega
theorem Ed.val {v : MV} {u : Value} (hE : Ed w0 h n ((v, u) :: vs) F w) : ∃ D θ, v.ok D ∧ u = v.real θ := by
  obtain ⟨D, θ, _, _, _, hv, _⟩ := hE
  exact ⟨D, θ, (hv _ (List.mem_cons_self ..)).1, (hv _ (List.mem_cons_self ..)).2.symm⟩
theorem Ed.other {w' : World} (hE : Ed w0 h n vs F w) (b : Below w.heap.size w w') : Ed w0 h n vs F w' := by
  obtain ⟨D, θ, hi, hb, hl, hv, hF⟩ := hE
  refine ⟨D, θ, ⟨hi.lt, (leads_below hi b).rel, hi.ok⟩, hb.trans (b.mono hb.size), hl, hv, fun x hx => ⟨?_, (hF x hx).2⟩⟩
  have := (hF x hx).1
  exact (b.block x.1 (Array.getElem?_eq_some_iff.1 this).1).trans this
theorem Ed.box {w' : World} {o : Obj} (hE : Ed w0 h n vs F w) (b : Below w.heap.size w w') (ho : w'.heap[w.heap.size]? = some o) : Ed w0 h n vs ((w.heap.size, o) :: F) w' := by
  obtain ⟨D, θ, hi, hb, hl, hv, hF⟩ := hE
  have := hi.rel.lt
  obtain ⟨D', θ', hi', hb', hl', hv', hF'⟩ := Ed.other ⟨D, θ, hi, hb, hl, hv, hF⟩ b
  refine ⟨D, θ, ⟨hi.lt, (leads_below hi b).rel, hi.ok⟩, hb.trans (b.mono hb.size), hl, hv, fun x hx => ?_⟩
  rcases List.mem_cons.1 hx with rfl | hx
  · exact ⟨ho, hb.size, fun y hy e => by have := this y hy; omega⟩
  · have h1 := (hF x hx).1
    exact ⟨(b.block x.1 (Array.getElem?_eq_some_iff.1 h1).1).trans h1, (hF x hx).2⟩
theorem Ed.raise {N : Nat} (hE : Ed w0 h n vs F w) (hN : n ≤ N) : Ed w0 h N vs F w := by
  obtain ⟨D, θ, hi, hr⟩ := hE
  exact ⟨D, θ, ⟨fun y hy => Nat.lt_of_lt_of_le (hi.lt y hy) hN, hi.rel, hi.ok⟩, hr⟩
theorem Ed.sub {vs' : List (MV × Value)} (hE : Ed w0 h n vs F w) (hs : ∀ x ∈ vs', x ∈ vs) : Ed w0 h n vs' F w := by
  obtain ⟨D, θ, hi, hb, hl, hv, hF⟩ := hE
  exact ⟨D, θ, hi, hb, hl, fun x hx => hv x (hs x hx), hF⟩
theorem Ed.below (hE : Ed w0 h n vs F w) : Below w0.heap.size w0 w := by
  obtain ⟨D, θ, hi, hb, _⟩ := hE
  exact hb
theorem Ed.mem {b : Nat} {o : Obj} (hE : Ed w0 h n vs F w) (hx : (b, o) ∈ F) : w.heap[b]? = some o := by
  obtain ⟨D, θ, hi, hb, hl, hv, hF⟩ := hE
  exact (hF _ hx).1
end

/-! ### The calls -/
abbrev op (kind : Nat) (text : ByteArray) : Value := .agg #[.int .i64 kind, .string ⟨#[]⟩, .string text, .int .i64 0, .bool false, .slice none 0 0, .slice none 0 0]
theorem opV_real (θ : Env) (k : Nat) (t : List Nat) : (opV k t).real θ = op k ⟨(t.map UInt8.ofNat).toArray⟩ := by
  simp [opV, MV.real, reals]
theorem opV_ok (D : Nat → Prop) (k : Nat) (t : List Nat) (ht : ∀ b ∈ t, b < 256) : (opV k t).ok D := by
  refine ⟨?_, fun v hv => ?_⟩
  · simp only [oks, MV.ok, true_and, and_true]
    exact ⟨by simp, ht⟩
  · simp only [List.mem_cons, List.mem_nil_iff, or_false] at hv
    rcases hv with rfl | rfl | rfl | rfl | rfl | rfl | rfl <;> trivial
theorem pairVals {p : Value} {vs : List (MV × Value)} {k : Nat} {t : List Nat} (ht : ∀ b ∈ t, b < 256) (hp : (vEd, p) ∈ vs) : ∀ D θ, (∀ x ∈ vs, x.1.ok D ∧ x.1.real θ = x.2) → oks D [vEd, opV k t] ∧ (reals θ [vEd, opV k t]).toArray = #[p, op k ⟨(t.map UInt8.ofNat).toArray⟩] := by
  intro D θ hv
  obtain ⟨h1, h2⟩ := hv _ hp
  refine ⟨?_, ?_⟩
  · simp only [oks, and_true]
    exact ⟨h1, opV_ok D k t ht⟩
  · simp only [reals]
    rw [h2, opV_real]
theorem oneVal {p : Value} {vs : List (MV × Value)} (hp : (vEd, p) ∈ vs) : ∀ D θ, (∀ x ∈ vs, x.1.ok D ∧ x.1.real θ = x.2) → oks D [vEd] ∧ (reals θ [vEd]).toArray = #[p] := by
  intro D θ hv
  obtain ⟨h1, h2⟩ := hv _ hp
  refine ⟨?_, ?_⟩
  · simp only [oks, and_true]
    exact h1
  · simp only [reals]
    rw [h2]
theorem twoVals {q r : Value} {vs : List (MV × Value)} (hq : (vWas, q) ∈ vs) (hr : (vNow, r) ∈ vs) : ∀ D θ, (∀ x ∈ vs, x.1.ok D ∧ x.1.real θ = x.2) → oks D [vNow, vWas] ∧ (reals θ [vNow, vWas]).toArray = #[r, q] := by
  intro D θ hv
  obtain ⟨h1, h2⟩ := hv _ hq
  obtain ⟨h3, h4⟩ := hv _ hr
  refine ⟨?_, ?_⟩
  · simp only [oks, and_true]
    exact ⟨h3, h1⟩
  · simp only [reals]
    rw [h2, h4]
section
variable {w0 w : World} {p q r : Value} {F : List (Nat × Obj)}
theorem fresh_c (w0 : World) : Calls Tryz.prog 7 #[] w0 fun e w' => ∃ p, e = .returned (.tuple #[p, .bool true]) ∧ Ed w0 hp1 12 [(vEd, p)] [] w' := by
  refine (Ed.call con1 (Ed.start w0) (av := #[]) fun D θ _ => ⟨trivial, rfl⟩).mono ?_
  rintro e w' ⟨u, rfl, D, θ, hi, hb, hl, hv, hF⟩
  obtain ⟨o1, o2⟩ := hv _ (List.mem_cons_self ..)
  have o3 : (MV.tuple [vEd, .bool true]).real θ = u := o2
  refine ⟨vEd.real θ, ?_, D, θ, hi, hb, hl, ?_, hF⟩
  · rw [← o3]; simp [MV.real, reals]
  · intro x hx
    obtain rfl := List.mem_singleton.1 hx
    simp only [MV.ok, oks] at o1
    exact ⟨o1.1, rfl⟩
theorem insert_c (hE : Ed w0 hp1 12 [(vEd, p)] [] w) : Calls Tryz.prog 8 #[p, op 7 ⟨([36, 123, 49, 58, 120, 125, 124, 36, 123, 49, 47, 94, 40, 97, 124, 97, 41, 42, 98, 36, 47, 47, 125].map UInt8.ofNat).toArray⟩] w fun e w' =>
    e = .returned (.int .i64 0) ∧ Ed w0 hp2 1465 [(vEd, p)] [] w' := by
  refine (Ed.call con2 hE (pairVals (by decide) (List.mem_cons_self ..))).mono ?_
  rintro e w' ⟨u, rfl, h2⟩
  obtain ⟨D, θ, _, rfl⟩ := h2.val
  exact ⟨by simp [MV.real], h2.sub fun x hx => List.mem_cons_of_mem _ hx⟩
theorem state_c (hE : Ed w0 hp2 1465 [(vEd, p)] [] w) : Calls Tryz.prog 9 #[p] w fun e w' =>
    ∃ a1 c1 a2 c2, e = .returned (.agg #[.string ⟨#[120, 124, 120]⟩, .slice (some a1) 1 c1, .slice (some a2) 1 c2]) ∧ Ed w0 hp3 1543 [(vWas, .agg #[.string ⟨#[120, 124, 120]⟩, .slice (some a1) 1 c1, .slice (some a2) 1 c2]), (vEd, p)] [] w' := by
  refine (Ed.call con3 hE (oneVal (List.mem_cons_self ..))).mono ?_
  rintro e w' ⟨u, rfl, h2⟩
  obtain ⟨D, θ, _, e1⟩ := h2.val
  have e2 : u = .agg #[.string ⟨#[120, 124, 120]⟩, .slice (some ⟨θ.blk 1542, θ.off 1542 + 0, none⟩) 1 (1 + θ.cap 1542), .slice (some ⟨θ.blk 1540, θ.off 1540 + 0, none⟩) 1 (1 + θ.cap 1540)] := by
    rw [e1]; simp [vWas, MV.real, reals, Cap.real]
  subst e2
  exact ⟨_, _, _, _, rfl, h2⟩
theorem now_c (hE : Ed w0 hp3 4000 [(vWas, q), (vEd, p)] F w) : Calls Tryz.prog 9 #[p] w fun e w' => ∃ r, e = .returned r ∧ Ed w0 hp5 4078 [(vNow, r), (vWas, q)] F w' := by
  refine (Ed.call conB hE (oneVal (by simp))).mono ?_
  rintro e w' ⟨u, rfl, h2⟩
  exact ⟨u, rfl, h2.sub fun x hx => by
    simp only [List.mem_cons, List.mem_nil_iff, or_false] at hx ⊢
    rcases hx with rfl | rfl <;> simp⟩
theorem same_c (hE : Ed w0 hp5 4078 [(vNow, r), (vWas, q)] F w) : Calls Tryz.prog 11 #[r, q] w fun e w' => e = .returned (.bool true) ∧ Below w0.heap.size w0 w' := by
  refine (Ed.call conC hE (twoVals (by simp) (by simp))).mono ?_
  rintro e w' ⟨u, rfl, h2⟩
  obtain ⟨D, θ, _, rfl⟩ := h2.val
  exact ⟨by simp [MV.real], h2.below⟩
theorem awake_c (w : World) : Calls Tryz.prog 12 #[] w fun e w' => e = .returned (.bool true) ∧ Below w.heap.size w w' := by
  refine (Ed.call conW (Ed.start w) (av := #[]) fun D θ _ => ⟨trivial, rfl⟩).mono ?_
  rintro e w' ⟨u, rfl, h2⟩
  obtain ⟨D, θ, _, rfl⟩ := h2.val
  exact ⟨by simp [MV.real], h2.below⟩
end
end Go.Proofs.YtkeckbmhaplkpaaGreatDoor.Ev
/- The end of TopFuel where the text is long: run by the kernel, whatever the text was. -/
namespace Go.Proofs.YtkeckbmhaplkpaaGreatDoor.Ev
open Go Go.RowKit
noncomputable section

/-- The region of a number. -/
def findR (id : Nat) (c : Code) : Option Code := Code.rec (motive := fun _ => Option Code) none
  (fun i ops d => match Nat.beq i id with | true => some (.region i ops d) | false => none)
  (fun _ _ x y => match x with | some c => some c | none => y) (fun _ _ _ x y => match x with | some c => some c | none => y) (fun _ _ x => x) (fun _ x => x) (fun _ _ _ _ _ _ => none) (fun _ => none) (fun _ _ => none) (fun _ => none) (fun _ => none) none (fun _ => none) c
def c12 : Code := match Tryz.f3.body with | none => .skip | some b => match findR 12 b with | none => .skip | some c => c
def aT : Fr := ((((PT.fill none 9).set 7 vEd).set 9 (.int .i64 (.ofNat 0))).set 10 (.ptr 4000 0)).set 11 (.int .i64 (.ofNat 9))
def boxT : MObj := match vWas with | .agg l => .cells l none | _ => .dead
def hT : Heap := (fillT hp3 19).set 4000 boxT
def yes4 (x : Option X) : Bool := match x with
  | none => false
  | some x => match x.e with
    | .normal => (match x.s.a.get 4 with | some (.bool b) => b | _ => false)
    | _ => false
theorem tail_run : yes4 ((gns T0 F0 orcS 100000).c fx3.plans c12 aT hT 4001) = true := by kernel_rfl
theorem tail_fit : Fit Tryz.prog T0 70 fx3.plans c12 := fitB_ok tyOk (by kernel_rfl) (by kernel_rfl)
/-- A block that is nobody's gets a name. -/
theorem Inv.adopt {D : Nat → Prop} {n : Nat} {θ : Env} {h : Heap} {w : World} (hi : Inv D n θ h w) {b : Nat} (hb : b < w.heap.size) (hno : ∀ y, Live h y → θ.blk y ≠ b) {mo : MObj} (hobj : ObjIs (θ.upd n b 0 0) n w mo) (hok : mo.ok (Up D n (n + 1))) :
    Inv (Up D n (n + 1)) (n + 1) (θ.upd n b 0 0) (h.set n mo) w := by
  have hs := upd_same (θ := θ) (b := b) (o := 0) (c := 0) hi.lt
  have live : ∀ y, Live (h.set n mo) y → y = n ∨ (y ≠ n ∧ Live h y) := by
    rintro y ⟨o, ho', hd⟩
    rcases PT.get_set ho' with ⟨rfl, _⟩ | ⟨hne, h2⟩
    · exact .inl rfl
    · exact .inr ⟨hne, o, h2, hd⟩
  have blk : ∀ y, Live h y → (θ.upd n b 0 0).blk y = θ.blk y := fun y ⟨o, h1, _⟩ => (hs y (hi.ok y o h1).1).1
  refine ⟨fun y hy => ?_, ⟨fun y o hy => ?_, fun y z hy hz e => ?_, fun y hy => ?_⟩, fun y o hy => ?_⟩
  · rcases hy with h1 | h1
    · have := hi.lt y h1; omega
    · exact h1.2
  · rcases PT.get_set hy with ⟨rfl, rfl⟩ | ⟨hne, h2⟩
    · exact hobj
    · by_cases hd : o = .dead
      · subst hd; trivial
      · exact ObjIs.move hs (hi.ok y _ h2).1 (hi.ok y _ h2).2 rfl (hi.rel.obj y _ h2)
  · rcases live y hy with rfl | ⟨hyn, hy'⟩ <;> rcases live z hz with rfl | ⟨hzn, hz'⟩
    · rfl
    · rw [blk z hz', (upd_self θ _ _ _ _).1] at e
      exact absurd e.symm (hno z hz')
    · rw [blk y hy', (upd_self θ _ _ _ _).1] at e
      exact absurd e (hno y hy')
    · rw [blk y hy', blk z hz'] at e
      exact hi.rel.sep y z hy' hz' e
  · rcases live y hy with rfl | ⟨_, hy'⟩
    · rw [(upd_self θ _ _ _ _).1]; exact hb
    · rw [blk y hy']; exact hi.rel.lt y hy'
  · rcases PT.get_set hy with ⟨rfl, rfl⟩ | ⟨hne, h2⟩
    · exact ⟨.inr ⟨Nat.le_refl _, by omega⟩, hok⟩
    · exact ⟨.inl (hi.ok y o h2).1, MObj.ok_mono up_mono (hi.ok y o h2).2⟩
theorem tail_c {w0 w : World} {p q : Value} {b : Nat} {cs : Array Value} (hq : q = .agg cs) (hE : Ed w0 hp3 4000 [(vWas, q), (vEd, p)] [(b, .cells cs 34 (0, 0))] w) (c : Code) (hc : c = c12)
    (A : Act) (h7 : A.tmps.getD 7 undef = p) (h9 : A.tmps.getD 9 undef = .int .i64 0) (h10 : A.tmps.getD 10 undef = .pointer (some ⟨b, 0, none⟩)) (h11 : A.tmps.getD 11 undef = .int .i64 9) (hd : A.defers = []) (hsz : 70 ≤ A.tmps.size)
    (Q : Exit → Act → World → Prop) (hQ : ∀ A' w', A'.tmps.getD 4 undef = .bool true → A'.defers = [] → Below w0.heap.size w0 w' → Q .normal A' w') : c.wp Tryz.prog Q A w := by
  subst hc
  obtain ⟨D, θ, hi, hb, hl, hv, hF⟩ := hE
  obtain ⟨f1, f2, f3⟩ := hF _ (List.mem_cons_self ..)
  have hblt : b < w.heap.size := (Array.getElem?_eq_some_iff.1 f1).1
  obtain ⟨ow, vw⟩ := hv (vWas, q) (by simp)
  obtain ⟨oe, ve⟩ := hv (vEd, p) (by simp)
  dsimp only at ow vw oe ve f1 f2 f3
  have hs := upd_same (θ := θ) (b := b) (o := 0) (c := 0) hi.lt
  -- what stands in the box
  obtain ⟨l, hvl⟩ : ∃ l, vWas = .agg l := ⟨_, rfl⟩
  have hbox : boxT = .cells l none := by unfold boxT; rw [hvl]
  have ol : oks D l ∧ ∀ v ∈ l, v.one := by rw [hvl] at ow; simpa only [MV.ok] using ow
  have hcs : cs = (reals θ l).toArray := by
    rw [hvl, hq] at vw
    simp only [MV.real] at vw
    injection vw with vw
    exact vw.symm
  have hobj : ObjIs (θ.upd 4000 b 0 0) 4000 w boxT := by
    rw [hbox]
    simp only [ObjIs, HasRoom, (upd_self θ _ _ _ _).1, (upd_self θ _ _ _ _).2.1]
    refine ⟨fun j hj => ?_, trivial⟩
    have oj := (oks_iff D l).1 ol.1 l[j] (List.getElem_mem hj)
    refine ⟨?_, by simp [World.frozen?, f1]⟩
    rw [Nat.zero_add, MV.real_same hs oj]
    simp only [World.cell?, f1, hcs]
    have := reals_get θ l j
    rw [List.getElem?_eq_getElem hj] at this
    simpa using this
  have hok : boxT.ok (Up D 4000 (4000 + 1)) := by
    rw [hbox]
    simp only [MObj.ok]
    exact ⟨fun v hv' => ⟨MV.ok_mono up_mono ((oks_iff D l).1 ol.1 v hv'), ol.2 v hv'⟩, fun x hx => by cases hx⟩
  have hi1 : Inv D 4000 θ (fillT hp3 19) w := hi.to (by funext y; exact get_fillT hp3 19 y)
  have live1 : ∀ y, Live (fillT hp3 19) y → Live hp3 y := fun y ⟨o, h1, h2⟩ => ⟨o, by rw [← get_fillT hp3 19]; exact h1, h2⟩
  have hi2 := hi1.adopt hblt (fun y hy => f3 y (live1 y hy)) hobj hok
  -- the frame
  have hframe : FrOk (Up D 4000 (4000 + 1)) (θ.upd 4000 b 0 0) aT A 70 := by
    have cases4 : ∀ t v, aT.get t = some v → (t = 11 ∧ v = .int .i64 (.ofNat 9)) ∨ (t = 10 ∧ v = .ptr 4000 0) ∨ (t = 9 ∧ v = .int .i64 (.ofNat 0)) ∨ (t = 7 ∧ v = vEd) := by
      intro t v e
      unfold aT at e
      rcases PT.get_set e with ⟨rfl, rfl⟩ | ⟨_, e⟩
      · exact .inl ⟨rfl, rfl⟩
      rcases PT.get_set e with ⟨rfl, rfl⟩ | ⟨_, e⟩
      · exact .inr (.inl ⟨rfl, rfl⟩)
      rcases PT.get_set e with ⟨rfl, rfl⟩ | ⟨_, e⟩
      · exact .inr (.inr (.inl ⟨rfl, rfl⟩))
      rcases PT.get_set e with ⟨rfl, rfl⟩ | ⟨_, e⟩
      · exact .inr (.inr (.inr ⟨rfl, rfl⟩))
      rw [get_none] at e; cases e
    refine ⟨fun t v e => ?_, ⟨fun t v e => ?_, hd⟩, hsz⟩
    · rcases cases4 t v e with ⟨_, rfl⟩ | ⟨_, rfl⟩ | ⟨_, rfl⟩ | ⟨_, rfl⟩
      · simp [MV.ok]
      · simp only [MV.ok]; exact .inr ⟨Nat.le_refl _, by omega⟩
      · simp [MV.ok]
      · exact MV.ok_mono up_mono oe
    · rcases cases4 t v e with ⟨rfl, rfl⟩ | ⟨rfl, rfl⟩ | ⟨rfl, rfl⟩ | ⟨rfl, rfl⟩
      · rw [h11]; simp [MV.real]
      · rw [h10]; simp [MV.real, Env.upd]
      · rw [h9]; simp [MV.real]
      · rw [h7, MV.real_same hs oe]; exact ve.symm
  have hrun := tail_run
  rw [(gns_same T0 F0 orcS 100000).1] at hrun
  unfold yes4 at hrun
  split at hrun
  · cases hrun
  rename_i x hx
  split at hrun
  · rename_i he
    split at hrun
    · rename_i bb hbb
      subst hrun
      refine (sound tyOk fxOk orcS_ok 100000).1 fx3.plans c12 ⟨aT, hT, 4001⟩ x hx 70 tail_fit (Up D 4000 (4000 + 1)) (θ.upd 4000 b 0 0) w A Q hi2 hframe ?_
      rintro ex A' w' ⟨rfl, θ2, l2, fr⟩
      rw [he]
      refine hQ A' w' ?_ fr.rel.2 ⟨l2.os.trans hb.os, l2.tape.trans hb.tape, l2.output.trans hb.output, Nat.le_trans hb.size l2.size, fun k hk => ?_⟩
      · rw [fr.rel.1 4 _ hbb]; simp [MV.real]
      · refine (l2.kept k (Nat.lt_of_lt_of_le hk hb.size) fun y hy e => ?_).trans (hb.block k hk)
        obtain ⟨o, ho, hd'⟩ := hy
        rcases PT.get_set ho with ⟨rfl, _⟩ | ⟨hne, h2⟩
        · rw [(upd_self θ _ _ _ _).1] at e; omega
        · have hy' := live1 y ⟨o, h2, hd'⟩
          have := hl y hy'
          have e2 : (θ.upd 4000 b 0 0).blk y = θ.blk y := by simp [Env.upd, hne]
          rw [e2] at e
          omega
    · cases hrun
  · cases hrun
end
end Go.Proofs.YtkeckbmhaplkpaaGreatDoor.Ev
