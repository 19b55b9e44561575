/- The walk of PastWalks: whatever the texts and the numbers, it answers true; nothing that was there has turned. -/
import Derived.Test.YtjmammphomijfaaWalksLess
import Derived.Test.YtjmammphomijfaaWalksSame
import Derived.Test.YtjmammphomijfaaWalksMore
namespace Go.Proofs.Ytjmammphomijfaa.pastWalks
open Go.RowKit

set_option maxRecDepth 100000 in
theorem walk (a0 : Option Addr) (len0 cap0 : Nat) (z0 : List ByteArray) (a1 : Int) (a2 : Int) (w : World) (w0 : IsRowS w a0 len0 cap0 z0) (_w1 : (Lit.int .i64 a1).wf = true) (_w2 : (Lit.int .i64 a2).wf = true) :
    Calls Try.prog 4 #[.slice a0 len0 cap0, .int .i64 a1, .int .i64 a2] w fun e w' => e = .returned (.bool true) ∧ Below w.heap.size w w' := by
  clear _w1 _w2
  by_cases h0 : len0 = 0
  · subst h0
    go_enter Try.func4, Try.ntmps4
    go_wp2_with fail
    refine (awake_any _).mono ?_
    rintro e w1 ⟨rfl, hb⟩
    go_wp2
    go_ret
    exact ⟨rfl, hb⟩
  have e0 : ((len0 : Int) == 0) = false := by simp only [beq_eq_false_iff_ne]; omega
  by_cases h1 : 120 < len0
  · clear w0 h0
    go_enter Try.func4, Try.ntmps4
    go_wp2_with fail
    refine (awake_any _).mono ?_
    rintro e w1 ⟨rfl, hb⟩
    go_wp2
    go_ret
    exact ⟨rfl, hb⟩
  obtain ⟨b, off, rfl, hbl, ss, hlen, hcell⟩ := w0.open_ (by omega)
  obtain ⟨L, rfl⟩ : ∃ L, len0 = L + 1 := ⟨len0 - 1, by omega⟩
  have hlb := low_bd a1 100 (by omega)
  obtain ⟨N, hN⟩ : ∃ N : Nat, 1 + low a1 100 = N := ⟨(1 + low a1 100).toNat, by omega⟩
  by_cases hc : N < L
  · exact walk_less b off L cap0 N ss a1 a2 w hN hc (by omega) hbl hlen hcell
  · by_cases hd : N = L
    · subst hd
      exact walk_same b off N cap0 ss a1 a2 w hN (by omega) hbl hlen hcell
    · exact walk_more b off L cap0 N ss a1 a2 w hN (by omega) (by omega) hbl hlen hcell
end Go.Proofs.Ytjmammphomijfaa.pastWalks
