/- A past of which nothing is told but what it holds: the deeds' contracts follow in this form; what a push makes of what is behind. -/
import Derived.Test.YtjmammphomijfaaPastIs
namespace Go.Proofs.Ytjmammphomijfaa
open Go.RowKit

/-- What is behind when one more has been pushed. -/
def pushed {α : Type} (most : Int) (l : List α) (x : α) : List α := if (l.length : Int) + 1 ≤ most then l ++ [x] else l.tail ++ [x]
theorem pushed_length {α : Type} (most : Int) (l : List α) (x : α) : (pushed most l x).length ≤ l.length + 1 := by
  unfold pushed
  split <;> simp
/-- From w0 on nothing below base has turned; at g lies a past. -/
def Ok (T e : TypeId) (base : Nat) (w0 w : World) (g : Nat) (most : Int) (bs fs : List Value) : Prop := ∃ F, PastIs T e base w g most bs fs F ∧ Below base w0 w
section
variable {T e : TypeId} {base : Nat} {w0 w w' : World} {g : Nat} {most : Int} {bs fs bs' fs' : List Value} {F : Nat → Prop}
theorem Ok.left (hP : PastIs T e base w g most bs fs F) (hb : Below base w0 w) (h : Left T e base w g most bs' fs' F w') : Ok T e base w0 w' g most bs' fs' := by
  obtain ⟨F', h1, _, h3⟩ := h
  have hl := hP.low
  have hg : base ≤ w.heap.size := by
    obtain ⟨vb, va, h⟩ := hP
    have := h.low g h.inG
    omega
  exact ⟨F', h1, hb.trans (h3.below (fun q hq => (hl q hq).1) hg)⟩
theorem Ok.drewN (h : Ok T e base w0 w g most bs fs) (n : Nat) : Ok T e base w0 (w.drewN n) g most bs fs := by
  obtain ⟨F, h1, h2⟩ := h
  exact ⟨F, h1.drewN n, h2.os, h2.tape, h2.output, h2.size, h2.block⟩
theorem Ok.below (h : Ok T e base w0 w g most bs fs) : Below base w0 w := h.choose_spec.2
theorem Ok.new (T e : TypeId) (w : World) (n : Int) (hne : T ≠ e) : Ok T e w.heap.size w (w.alloc (.cells #[.int .i64 n, .slice none 0 0, .slice none 0 0] T)) w.heap.size n [] [] :=
  ⟨_, past_new T e w.heap.size w n (Nat.le_refl _) hne, (Below.refl _ _).alloc (Nat.le_refl _) _⟩
end
end Go.Proofs.Ytjmammphomijfaa
