/- What a walk is told of a slice of integers that came in. -/
import Derived.Test.YtjmammphomijfaaAwake
import Derived.OpenShut
namespace Go.Proofs.Ytjmammphomijfaa
open Go.RowKit

/-- The slice is nil; or it leads to a row of 'cap' cells, the numbers 'zs' (the first 'len' are its elements, the rest its spare room), each fitting its kind. -/
def IsRow (k : IntKind) (w : World) (a : Option Addr) (len cap : Nat) (zs : List Int) : Prop :=
  (a = none ∧ len = 0 ∧ cap = 0 ∧ zs = []) ∨
  ∃ x, a = some x ∧ len ≤ cap ∧ cap ≤ maxLen ∧ zs.length = cap ∧ (∀ i, i < zs.length → w.cell? (x.add i) = some (.int k (zs.getD i 0))) ∧ ∀ n ∈ zs, (Lit.int k n).wf = true
/-- Where there is an element: the address written out, the elements' cells. -/
theorem IsRow.open_ {k : IntKind} {w : World} {a : Option Addr} {len cap : Nat} {zs : List Int} (h : IsRow k w a len cap zs) (hl : 0 < len) :
    ∃ b off, a = some ⟨b, off, none⟩ ∧ b < w.heap.size ∧ ∃ ns : List Int, ns.length = len ∧ ∀ i (hi : i < ns.length), w.cell? ⟨b, off + i, none⟩ = some (.int k ns[i]) := by
  rcases h with ⟨_, h0, _⟩ | ⟨x, rfl, h1, h2, h3, h4, h5⟩
  · omega
  · obtain ⟨b, off, spot⟩ := x
    have hc := h4 0 (by omega)
    have hspot : spot = none := by simpa [Addr.add] using World.cell?_spot hc
    subst hspot
    refine ⟨b, off, rfl, World.block_lt_of_cell? w _ hc, zs.take len, by simp; omega, fun i hi => ?_⟩
    have h6 := h4 i (by simp at hi; omega)
    rw [Addr.add_lit] at h6
    rw [h6]
    simp at hi
    simp [List.getD_eq_getElem?_getD, List.getElem?_eq_getElem (show i < zs.length by omega)]
end Go.Proofs.Ytjmammphomijfaa
