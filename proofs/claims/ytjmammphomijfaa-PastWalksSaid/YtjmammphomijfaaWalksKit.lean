/- What PastWalks' walk is told of its texts; its loops' relations. -/
import Derived.Test.YtjmammphomijfaaWalksMath
namespace Go.Proofs.Ytjmammphomijfaa.pastWalks
open Go.RowKit

/-- The slice is nil; or it leads to a row of texts. -/
def IsRowS (w : World) (a : Option Addr) (len cap : Nat) (ss : List ByteArray) : Prop :=
  (a = none ∧ len = 0 ∧ cap = 0 ∧ ss = []) ∨
  ∃ x, a = some x ∧ len ≤ cap ∧ cap ≤ maxLen ∧ ss.length = cap ∧ (∀ i, i < ss.length → w.cell? (x.add i) = some (.string (ss.getD i ByteArray.empty)))
theorem IsRowS.open_ {w : World} {a : Option Addr} {len cap : Nat} {zs : List ByteArray} (h : IsRowS w a len cap zs) (hl : 0 < len) :
    ∃ b off, a = some ⟨b, off, none⟩ ∧ b < w.heap.size ∧ ∃ ss : List ByteArray, ss.length = len ∧ ∀ i, i < ss.length → w.cell? ⟨b, off + i, none⟩ = some (.string (sg ss i)) := by
  rcases h with ⟨_, h0, _⟩ | ⟨x, rfl, h1, h2, h3, h4⟩
  · omega
  · obtain ⟨b, off, spot⟩ := x
    have hc := h4 0 (by omega)
    have hspot : spot = none := by simpa [Addr.add] using World.cell?_spot hc
    subst hspot
    refine ⟨b, off, rfl, World.block_lt_of_cell? w _ hc, zs.take len, by simp; omega, fun i hi => ?_⟩
    have h6 := h4 i (by simp at hi; omega)
    rw [Addr.add_lit] at h6
    rw [h6]
    have hi' : i < len := by simp at hi; omega
    simp [sg, List.getD_eq_getElem?_getD, hi']

theorem low_ex (x n : Int) (h : 1 ≤ n) : ∃ K : Nat, low x n = K ∧ (K : Int) < n := by
  have h2 := low_bd x n h
  exact ⟨(low x n).toNat, by omega, by omega⟩
theorem kept_none (ss : List ByteArray) (N : Nat) : kept ss N 0 = [] := by simp [kept]
def Rel1 (w : World) (N : Nat) (ss : List ByteArray) (k : Nat) (wr : World) : Prop := Ok 51 9 w.heap.size w wr w.heap.size N (LS (kept ss N k)) (LS [])
/-- j steps back: the place q, what is behind, what is ahead. -/
def Rel2 (w : World) (N L : Nat) (ss : List ByteArray) (j q : Nat) (wr : World) : Prop := j + q = L ∧ Ok 51 9 w.heap.size w wr w.heap.size N (LS (back ss N L j)) (LS (fore ss L j))
end Go.Proofs.Ytjmammphomijfaa.pastWalks
