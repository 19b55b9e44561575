/- A row of bytes that the call has made out of a text: what it holds, a byte stored in it, the text made of it again. -/
import Derived.Test.YtnjeicaikcnpdaaSmall
import Derived.Lib.ConvBytes
namespace Go.Proofs.Ytnjeicaikcnpdaa
open Go.RowKit
open M

/-- The bytes l lie in block g, from its beginning on, none of them frozen. -/
def Bts (w : World) (g : Nat) (l : List UInt8) : Prop :=
  g < w.heap.size ∧ (∀ j (hj : j < l.length), w.cell? ⟨g, j, none⟩ = some (.int .u8 (l[j].toNat : Int))) ∧ ∀ j, j < l.length → w.frozen? ⟨g, j, none⟩ = false
/-- The world behind a text's turning into bytes. -/
def cw (w : World) (s : ByteArray) : World := Lib.bytesWorld w 5 s
def cap5 (w : World) (s : ByteArray) : Nat := grownCap w s.size 0 5

theorem conv_to (s : ByteArray) (w : World) : (convert 9 32 (.string s)).run Try.prog w = .ok (.slice (some ⟨w.heap.size, 0, none⟩) s.size (cap5 w s)) (cw w s) :=
  Lib.run_convert_string_bytes w 9 32 5 s Try.underlying9 Try.underlying32 Try.underlying5
theorem cap5_ge (s : ByteArray) (w : World) : s.size ≤ cap5 w s := grownCap_ge w s.size 0 5
theorem cw_below (s : ByteArray) (w : World) : Below w.heap.size w (cw w s) :=
  ⟨rfl, rfl, rfl, by rw [cw, Lib.bytesWorld_size]; omega, fun k hk => Lib.bytesWorld_at_old w 5 s k hk⟩
theorem cw_bts (s : ByteArray) (w : World) : Bts (cw w s) w.heap.size s.data.toList := by
  refine ⟨by rw [cw, Lib.bytesWorld_size]; omega, fun j hj => ?_, fun j hj => ?_⟩
  · rw [cw, Lib.bytesWorld_cell w 5 s j (by simpa using hj), List.getD_eq_getElem?_getD, List.getElem?_eq_getElem hj, Option.getD_some]
  · have h1 := Lib.bytesWorld_at_new w 5 s
    have h2 : s.data.toList.length ≤ (Lib.bytesCells w 5 s).size := by simp [Lib.bytesCells]
    simp [cw, World.frozen?, h1]
    omega
theorem Bts.set {w : World} {g : Nat} {l : List UInt8} (h : Bts w g l) (k : Nat) (c : UInt8) (hk : k < l.length) : Bts (w.setCell ⟨g, k, none⟩ (.int .u8 (c.toNat : Int))) g (l.set k c) := by
  obtain ⟨h0, h1, h2⟩ := h
  refine ⟨by simpa [World.setCell] using h0, fun j hj => ?_, fun j hj => ?_⟩
  · rw [List.length_set] at hj
    by_cases hjk : k = j
    · subst hjk
      have := h1 k hk
      rw [List.getElem_set_self]
      exact World.cell?_setCell_same w ⟨g, k, none⟩ _ this
    · rw [List.getElem_set_ne hjk, World.cell?_setCell_other w _ _ _ (by intro e; injection e with _ e; exact hjk e)]
      exact h1 j hj
  · rw [List.length_set] at hj
    rw [World.frozen?_setCell]
    exact h2 j hj
theorem Bts.below {w w' : World} {g : Nat} {l : List UInt8} (h : Bts w g l) (hb : Below w.heap.size w w') : Bts w' g l :=
  ⟨Nat.lt_of_lt_of_le h.1 hb.size, fun j hj => (hb.cell (p := ⟨g, j, none⟩) h.1).trans (h.2.1 j hj), fun j hj => (hb.frozen (p := ⟨g, j, none⟩) h.1).trans (h.2.2 j hj)⟩
theorem Bts.back {w : World} {g : Nat} {l : List UInt8} (h : Bts w g l) (n cap : Nat) (hn : l.length = n) : (convert 32 9 (.slice (some ⟨g, 0, none⟩) n cap)).run Try.prog w = .ok (.string ⟨l.toArray⟩) w := by
  subst hn
  exact run_convert_bytes_back w 32 9 5 ⟨g, 0, none⟩ cap l Try.underlying32 Try.underlying5 Try.underlying9 (fun j hj => by rw [Addr.add_lit, Nat.zero_add]; exact h.2.1 j hj)
end Go.Proofs.Ytnjeicaikcnpdaa
