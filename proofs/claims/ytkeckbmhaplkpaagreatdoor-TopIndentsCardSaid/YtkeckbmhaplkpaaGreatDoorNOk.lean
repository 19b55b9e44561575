/- What slices.Sorted answers of maps.Keys. -/
import Derived.Test.YtkeckbmhaplkpaaGreatDoorSrt
import Derived.Test.YtkeckbmhaplkpaaGreatDoorChecked
import Derived.Test.YtkeckbmhaplkpaaGreatDoorNEvC
namespace Go.Proofs.YtkeckbmhaplkpaaGreatDoor.Ln
open Go Go.RowKit Go.Maps Go.Sort Go.Shelf
variable {Φ : Fact}
open Go.WideElems (rg)
open Go.MapKept (Stamped)

theorem natBle2 {a b : Nat} (h : Nat.ble a b = true) : a ≤ b := Nat.le_of_ble_eq_true h
theorem insI_perm (x : Int) (l : List Int) : (insI x l).Perm (x :: l) := by
  induction l with
  | nil => exact .refl _
  | cons y r ih =>
    show (match intLe x y with | true => x :: y :: r | false => y :: insI x r).Perm _
    cases intLe x y
    · exact (ih.cons y).trans (.swap x y r)
    · exact .refl _
theorem srtI_perm (l : List Int) : (srtI l).Perm l := by
  induction l with
  | nil => exact .refl _
  | cons x r ih => exact (insI_perm x (srtI r)).trans (ih.cons x)
theorem upI_sorted {l : List Int} (h : upI l = true) : l.Pairwise fun a b => a < b := by
  induction l with
  | nil => exact .nil
  | cons x r ih =>
    cases r with
    | nil => exact .cons (fun y hy => by cases hy) .nil
    | cons y r =>
      change Bool.and (Bool.not (intLe y x)) (upI (y :: r)) = true at h
      simp only [Bool.and_eq_true, Bool.not_eq_true'] at h
      have hp := ih h.2
      have hxy : x < y := by
        have := h.1
        rw [intLe_eq, decide_eq_false_iff_not] at this
        omega
      refine .cons (fun z hz => ?_) hp
      rcases List.mem_cons.1 hz with rfl | hz
      · exact hxy
      · exact Int.lt_trans hxy ((List.pairwise_cons.1 hp).1 z hz)
theorem sorted_is {ks ss : List Int} (hp : ss.Perm ks) (hu : upI (srtI ks) = true) : ss.mergeSort (fun x y => decide (x ≤ y)) = srtI ks := by
  have tr : ∀ a b c : Int, decide (a ≤ b) = true → decide (b ≤ c) = true → decide (a ≤ c) = true := fun a b c h1 h2 => by simp only [decide_eq_true_eq] at *; exact Int.le_trans h1 h2
  have to : ∀ a b : Int, (decide (a ≤ b) || decide (b ≤ a)) = true := fun a b => by simp only [Bool.or_eq_true, decide_eq_true_eq]; exact Int.le_total a b
  refine List.Perm.eq_of_pairwise (le := fun a b : Int => a ≤ b) (fun a b _ _ h1 h2 => Int.le_antisymm h1 h2) ?_ ?_ ?_
  · exact (List.pairwise_mergeSort tr to ss).imp fun h => by simpa using h
  · exact (upI_sorted hu).imp fun h => Int.le_of_lt h
  · exact ((List.mergeSort_perm ss _).trans hp).trans (srtI_perm ks).symm
theorem keysI_some {es : List Entry} : ∀ {ks : List Int}, keysI es = some ks → es.map (·.key) = ks.map (MV.int .i64) := by
  induction es with
  | nil => intro ks h; obtain rfl := Option.some.inj h; rfl
  | cons e r ih =>
    intro ks h
    change (match e.key with
      | .int .i64 k => (match keysI r with | some r => some (k :: r) | none => none)
      | _ => none) = some ks at h
    split at h
    · rename_i k hk
      split at h
      · rename_i r' hr
        obtain rfl := Option.some.inj h
        rw [List.map_cons, hk, ih hr]; rfl
      · cases h
    · cases h
theorem smallI_mem {l : List Int} (h : smallI l = true) : ∀ x ∈ l, small x = true := by
  induction l with
  | nil => intro x hx; cases hx
  | cons y r ih =>
    change Bool.and (small y) (smallI r) = true at h
    simp only [Bool.and_eq_true] at h
    intro x hx
    rcases List.mem_cons.1 hx with rfl | hx
    · exact h.1
    · exact ih h.2 x hx
theorem small_wf {x : Int} (h : small x = true) : (Lit.int .i64 x).wf = true := by
  unfold small at h
  simp only [Lit.wf, Bool.and_eq_true, decide_eq_true_eq]
  split at h
  · have := natBle2 h
    constructor <;> simp [IntKind.min, IntKind.max, IntKind.signed, IntKind.bits] <;> omega
  · have := natBle2 h
    constructor <;> simp [IntKind.min, IntKind.max, IntKind.signed, IntKind.bits] <;> omega
theorem bornB_some {c : Nat} {es : List Entry} : ∀ {lo : Nat}, bornB c es lo = true → (∀ e ∈ es, lo ≤ e.born ∧ e.born < c) ∧ (es.map (·.born)).Nodup := by
  induction es with
  | nil => intro lo _; exact ⟨fun e he => (by cases he), List.nodup_nil⟩
  | cons e r ih =>
    intro lo h
    change Bool.and (Nat.ble lo e.born) (Bool.and (Nat.ble (Nat.succ e.born) c) (bornB c r (Nat.succ e.born))) = true at h
    simp only [Bool.and_eq_true] at h
    obtain ⟨h1, h2⟩ := ih h.2.2
    have a := natBle2 h.1
    have b := natBle2 h.2.1
    refine ⟨fun x hx => ?_, ?_⟩
    · rcases List.mem_cons.1 hx with rfl | hx
      · exact ⟨a, b⟩
      · have := h1 x hx; exact ⟨by omega, this.2⟩
    · rw [List.map_cons]
      refine List.nodup_cons.2 ⟨fun hm => ?_, h2⟩
      obtain ⟨x, hx, e1⟩ := List.mem_map.1 hm
      have := (h1 x hx).1
      omega
theorem cellsI_is {β : Type} (l : List Int) : ∀ k : List MV → β, cellsI l k = k (l.map (MV.int .i64)) := by
  induction l with
  | nil => intro k; rfl
  | cons x r ih =>
    intro k
    show fint x (fun x => cellsI r fun r => k (.int .i64 x :: r)) = _
    rw [fint_eq, ih]
    rfl

/-- How an element reads: it does not matter. -/
abbrev anyR : Value → Option (DataW Unit × List MemPlace) := fun _ => some (.nil, [])
theorem rd_int {x : MapEntry} {k : Int} (hx : x.key = .int .i64 k) (hw : (Lit.int .i64 k).wf = true) : WideElems.rd Tryz.prog 3 anyR x = some (.int .i64 k, .nil) := by
  simp [WideElems.rd, hx, keyOf_int_mk Tryz.underlying3 hw]
theorem map_data {θ : Env} {es : List Entry} {c : Nat} {ks : List Int} (hk : keysI es = some ks) (hs : smallI ks = true) (hb : bornB c es 0 = true) (hu : upI (srtI ks) = true) (hl : es.length ≤ 1000000) :
    WideElems.Fit Tryz.prog 3 anyR (es.map (Entry.real θ)).toArray c ∧ (intKeys (.map (((es.map (Entry.real θ)).map (rg Tryz.prog 3 anyR)).foldr DataW.insert []) : DataW Unit)).Perm ks ∧
      Maps.size (.map (((es.map (Entry.real θ)).map (rg Tryz.prog 3 anyR)).foldr DataW.insert []) : DataW Unit) = es.length := by
  have hkeys := keysI_some hk
  have hrk : (es.map (Entry.real θ)).map (·.key) = ks.map (Value.int .i64) := by
    rw [List.map_map]
    have : es.map ((fun x : MapEntry => x.key) ∘ Entry.real θ) = (es.map (·.key)).map (MV.real θ) := by rw [List.map_map]; rfl
    rw [this, hkeys, List.map_map]
    rfl
  have hnd : ks.Nodup := by
    refine (srtI_perm ks).nodup_iff.1 ?_
    exact (upI_sorted hu).imp fun h => by omega
  have hin : ∀ x ∈ es.map (Entry.real θ), ∃ k ∈ ks, x.key = .int .i64 k := by
    intro x hx
    have : x.key ∈ ks.map (Value.int .i64) := by rw [← hrk]; exact List.mem_map_of_mem hx
    obtain ⟨k, hk1, hk2⟩ := List.mem_map.1 this
    exact ⟨k, hk1, hk2.symm⟩
  have hwf := fun k hk => small_wf (smallI_mem hs k hk)
  obtain ⟨b1, b2⟩ := bornB_some hb
  refine ⟨⟨?_, ⟨?_, ?_, ?_⟩, ?_⟩, ?_, ?_⟩
  · simp only [List.size_toArray, List.length_map]; unfold maxLen; omega
  · intro x hx
    simp only [List.mem_map] at hx
    obtain ⟨e, he, rfl⟩ := hx
    exact (b1 e he).2
  · simp only [List.map_map]
    exact b2
  · show ((es.map (Entry.real θ)).map (·.key)).Nodup
    rw [hrk]
    exact (List.pairwise_map.2 (hnd.imp fun h e => h (by simpa using e)))
  · intro x hx
    obtain ⟨k, h1, h2⟩ := hin x hx
    exact ⟨_, rd_int h2 (hwf k h1)⟩
  · show ((((es.map (Entry.real θ)).map (rg Tryz.prog 3 anyR)).foldr DataW.insert []).map fun p => Go.intOf p.1).Perm ks
    refine ((Go.WideShapes.sorted_perm _).map _).trans ?_
    rw [List.map_map]
    have : (es.map (Entry.real θ)).map ((fun p : Lit × DataW Unit => Go.intOf p.1) ∘ rg Tryz.prog 3 anyR) = ks := by
      have h1 : (es.map (Entry.real θ)).map ((fun p : Lit × DataW Unit => Go.intOf p.1) ∘ rg Tryz.prog 3 anyR) = ((es.map (Entry.real θ)).map (·.key)).map (fun v => match v with | .int .i64 k => k | _ => 0) := by
        refine (List.map_congr_left fun x hx => ?_).trans (List.map_map ..).symm
        obtain ⟨k, h1, h2⟩ := hin x hx
        simp only [Function.comp, WideElems.rg_of (rd_int h2 (hwf k h1)), h2, Go.intOf]
      rw [h1, hrk, List.map_map]
      exact List.map_id' ks
    rw [this]
  · show (((es.map (Entry.real θ)).map (rg Tryz.prog 3 anyR)).foldr DataW.insert []).length = es.length
    rw [(Go.WideShapes.sorted_perm _).length_eq]
    simp

theorem sortsA (m : Nat) : AnyZI.SortsIn Tryz.prog Tryz.sortedA_ren Fence.wide m :=
  ⟨fun blk off cap ss W hH hblk hsz => callsIn_wide.2 (AnyM.slices_Sort_int Tryz.sortA blk off cap ss W hH hblk hsz),
   fun p cap W => callsIn_wide.2 (AnyM.slices_Sort_int_none Tryz.sortA p cap W)⟩
theorem sorted_any (g : Nat) (eg : ∀ args w, (callFunc g args).run Tryz.prog w = .ok (.enter g args) w) (B : Nat) (D0 : DataW Unit) (w : World) (hN : Maps.size D0 ≤ 1000000)
    (hseq : SeqGives Fence.wide 2 Tryz.prog g #[.pointer (some ⟨B, 0, none⟩)] encZ (fun ss => ss.Perm (intKeys D0)) (Maps.size D0) w) :
    Calls Tryz.prog 127 #[.func (.func g) #[] #[.pointer (some ⟨B, 0, none⟩)]] w fun e w' => ∃ (v : Value) (ss : List Int), e = .returned v ∧ ss.Perm (intKeys D0) ∧
      w'.ownsRow w.heap.size 3 1 v ss.length ((ss.mergeSort (fun x y => decide (x ≤ y))).map encZ) ∧ (v = .slice none 0 0 ↔ ss = []) ∧ Below w.heap.size w w' := by
  have cS := AnyZI.sorted_in Tryz.sortedA Fence.wide 5 trivial trivial trivial trivial rfl (by omega) (sortsA _) (fun args w => enter_fn Tryz.func188 (by kernel_rfl) (by rfl) args w) g #[.pointer (some ⟨B, 0, none⟩)] trivial eg _ _ (by unfold maxLen; omega) (by omega) w hseq
  exact (callsIn_wide (n := 5)).1 cS
theorem keys_any (g : Nat) (hg : g = 189 ∨ g = 274) (B b nn : Nat) (D0 : DataW Unit) (w : World) (hBm : B < w.heap.size) (hm : w.cell? ⟨B, 0, none⟩ = some (.map (some b))) (hown : w.ownsMap Tryz.prog 3 anyR b nn D0) :
    SeqGives Fence.wide 2 Tryz.prog g #[.pointer (some ⟨B, 0, none⟩)] encZ (fun ss => ss.Perm (intKeys D0)) (Maps.size D0) w := by
  rcases hg with rfl | rfl
  · exact AnyZI.keys_gives (ρ := Tryz.keysA_ren) { Tryz.keysA with } Fence.wide 2 trivial rfl (by omega) B b nn D0 w hBm hm hown
  · exact AnyZI.keys_gives (ρ := Tryz.keysB_ren) { Tryz.keysB with } Fence.wide 2 trivial rfl (by omega) B b nn D0 w hBm hm hown

theorem sorted_ok {args : List MV} {h : Heap} {n : Nat} {r : R} (e : oSorted args h n = some r) : FnOk Φ Tryz.prog 127 args h n r := by
  unfold oSorted at e
  split at e
  · rename_i g z
    split at e
    · rename_i hg
      have hg : g = 189 ∨ g = 274 := by
        simp only [Bool.or_eq_true] at hg
        exact hg.imp Nat.eq_of_beq_eq_true Nat.eq_of_beq_eq_true
      unfold sortedOf at e
      split at e
      · cases e
      rename_i ks hks
      split at e
      · cases e
      rename_i hchk
      simp only [Bool.and_eq_true] at hchk
      unfold keysAt at hks
      split at hks
      · rename_i y hy
        split at hks
        · rename_i es hes
          unfold boxAt at hy
          split at hy
          · rename_i v hz
            obtain rfl := Option.some.inj hy
            unfold entriesOf at hes
            split at hes
            · rename_i es' c hm
              split at hes
              · rename_i hc
                obtain rfl := Option.some.inj hes
                simp only [Bool.and_eq_true] at hc
                have hlen := natBle2 hc.1
                rw [llen_eq] at hlen
                intro D θ w hi ha
                obtain ⟨fit, hperm, hsize⟩ := map_data (θ := θ) hks hchk.1 hc.2 hchk.2 hlen
                have hoz := hi.rel.obj z _ hz
                have hom := hi.rel.obj y _ hm
                simp only [ObjIs, HasRoom] at hoz hom
                have hlz := hi.rel.lt z ⟨_, hz, by simp⟩
                have hcell : w.cell? ⟨θ.blk z, 0, none⟩ = some (.map (some (θ.blk y))) := by
                  have := (hoz.1 0 (by simp)).1
                  rw [hoz.2] at this
                  simpa [MV.real] using this
                have hown : w.ownsMap Tryz.prog 3 anyR (θ.blk y) es'.length (.map (((es'.map (Entry.real θ)).map (rg Tryz.prog 3 anyR)).foldr DataW.insert [])) :=
                  ⟨_, _, hom, fit, by simp, rfl⟩
                have hseq := keys_any g hg (θ.blk z) (θ.blk y) _ _ w hlz hcell hown
                have eg : ∀ args w, (callFunc g args).run Tryz.prog w = .ok (.enter g args) w := by
                  rcases hg with rfl | rfl
                  · exact fun args w => enter_fn Tryz.func189 (by kernel_rfl) (by rfl) args w
                  · exact fun args w => enter_fn Tryz.func274 (by kernel_rfl) (by rfl) args w
                have con := sorted_any g eg (θ.blk z) _ w (by rw [hsize]; exact hlen) hseq
                have hargs : (reals θ [.func g [] [.ptr z 0]]).toArray = #[.func (.func g) #[] #[.pointer (some ⟨θ.blk z, 0, none⟩)]] := by
                  simp only [reals, MV.real]
                  rw [hoz.2]
                refine .inl ⟨enter_fn Tryz.func127 (by kernel_rfl) (by rfl) _ w, ?_⟩
                rw [hargs]
                refine con.mono ?_
                rintro e1 w' ⟨v, ss, rfl, hss, hrow, hnil, hb⟩
                have hsp := hss.trans hperm
                rw [sorted_is hsp hchk.2] at hrow
                have hlk : ss.length = (srtI ks).length := by rw [hsp.length_eq, (srtI_perm ks).length_eq]
                split at e
                · rename_i hs
                  obtain rfl := Option.some.inj e
                  have : ss = [] := List.eq_nil_of_length_eq_zero (by rw [hlk, hs]; rfl)
                  obtain rfl := hnil.2 this
                  exact ⟨θ, by simp [MV.real], leads_below hi hb, by simp [MV.ok]⟩
                · rename_i x l hs
                  rw [cellsI_is] at e
                  unfold newRoom put1 at e
                  rw [PT.setK_eq, fnat_eq] at e
                  obtain rfl := Option.some.inj e
                  have hpos : 0 < (srtI ks).length := by rw [hs]; simp
                  rw [← hs]
                  rw [llen_eq, List.length_map]
                  rcases hrow.2 with ⟨rfl, h0⟩ | ⟨gb, cap, cur, rfl, hbase, hgb, r1, r2, r3, r4⟩
                  · omega
                  · have hgl : gb < w'.heap.size := (Array.getElem?_eq_some_iff.1 hgb).1
                    have hcur : ∀ j, j < cur.size → ∃ v, w'.cell? ⟨gb, j, none⟩ = some v := by
                      intro j hj
                      exact ⟨cur[j], by simp [World.cell?, hgb, Array.getElem?_eq_getElem hj]⟩
                    have hfz : ∀ j, w'.frozen? ⟨gb, j, none⟩ = false := by
                      intro j
                      simp [World.frozen?, hgb]
                    refine ⟨θ.upd n gb 0 (cap - (srtI ks).length), ?_, lead_far hi hb hbase hgl (cap - (srtI ks).length) ?_ ?_, ?_⟩
                    · simp only [MV.real, Cap.real, (upd_self θ _ _ _ _).1, (upd_self θ _ _ _ _).2.1, (upd_self θ _ _ _ _).2.2]
                      rw [hlk]
                      congr 2
                      omega
                    · simp only [ObjIs, HasRoom, (upd_self θ _ _ _ _).1, (upd_self θ _ _ _ _).2.1, (upd_self θ _ _ _ _).2.2, List.length_map]
                      refine ⟨fun j hj => ?_, fun j hj => ?_⟩
                      · refine ⟨?_, by rw [hfz]⟩
                        have h2 : (cur.toList.take (ss.length * 1))[j]? = ((srtI ks).map encZ)[j]? := by rw [r4]
                        rw [List.getElem?_take_of_lt (by omega), List.getElem?_map, List.getElem?_eq_getElem hj] at h2
                        rw [Nat.zero_add]
                        simp only [World.cell?, hgb]
                        simpa [MV.real, encZ] using h2
                      · rw [Nat.zero_add]
                        exact ⟨hcur _ (by omega), hfz _⟩
                    · simp only [MObj.ok]
                      refine ⟨fun v hv => ?_, fun x hx => ?_⟩
                      · obtain ⟨k, _, rfl⟩ := List.mem_map.1 hv
                        simp [MV.ok, MV.one]
                      · obtain rfl := Option.some.inj hx
                        exact .inr ⟨Nat.le_refl _, by simp⟩
                    · simp only [MV.ok, Cap.ok]
                      exact ⟨.inr ⟨Nat.le_refl _, by simp⟩, .inr ⟨Nat.le_refl _, by simp⟩⟩
              · cases hes
            · cases hes
          · cases hy
        · cases hks
      · cases hks
    · cases e
  · cases e
end Go.Proofs.YtkeckbmhaplkpaaGreatDoor.Ln
