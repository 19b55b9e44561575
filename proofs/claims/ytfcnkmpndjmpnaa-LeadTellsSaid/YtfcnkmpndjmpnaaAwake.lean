/- What every program answers that is one: 'awake' answers true; Unit. -/
import Derived.Test.YtfcnkmpndjmpnaaGet
namespace Go.Proofs.Ytfcnkmpndjmpnaa
open Go.RowKit
open M

def indent : ByteArray := ⟨#[73, 78, 68, 69, 78, 84]⟩
theorem unit_some (b off cap : Nat) (ps : Pairs) (w : World) (hR : PRow w b off ps) (hlen : ps.length ≤ 1048576) :
    Calls Try.prog 13 #[.slice (some ⟨b, off, none⟩) ps.length cap] w fun e w' => e = .returned (.string (look indent ps).1) ∧ Below w.heap.size w w' := by
  have h := Lib.hid (get_some indent b off cap ps w hR hlen)
  clear hR hlen
  go_enter Try.func13, Try.ntmps13
  go_wp2_with fail
  refine h.out.mono ?_
  rintro e w1 ⟨rfl, hb⟩
  go_wp2
  go_ret
  exact ⟨rfl, hb⟩
theorem unit_none (ao : Option Addr) (cap : Nat) (w : World) :
    Calls Try.prog 13 #[.slice ao 0 cap] w fun e w' => e = .returned (.string (look indent []).1) ∧ Below w.heap.size w w' := by
  have h := Lib.hid (get_none indent ao cap w)
  go_enter Try.func13, Try.ntmps13
  go_wp2_with fail
  refine h.out.mono ?_
  rintro e w1 ⟨rfl, hb⟩
  go_wp2
  go_ret
  exact ⟨rfl, hb⟩
theorem ad_c : ad [32, 32] [46, 32] false [97, 10, 9, 98, 9, 99] = [97, 10, 32, 32, 46, 32, 98, 9, 99] := by decide
theorem adapt_c (w : World) : Calls Try.prog 11 #[.string ⟨#[97, 10, 9, 98, 9, 99]⟩, .string ⟨#[32, 32]⟩, .string ⟨#[46, 32]⟩] w fun e w' => e = .returned (.string ⟨#[97, 10, 32, 32, 46, 32, 98, 9, 99]⟩) ∧ Below w.heap.size w w' := by
  have h1 : (ByteArray.mk #[97, 10, 9, 98, 9, 99]).size = 6 := rfl
  have h2 : (ByteArray.mk #[32, 32]).size = 2 := rfl
  have h3 : (ByteArray.mk #[46, 32]).size = 2 := rfl
  refine (adapt_any ⟨#[97, 10, 9, 98, 9, 99]⟩ ⟨#[32, 32]⟩ ⟨#[46, 32]⟩ w (by rw [h1]; decide) (by rw [h2]; decide) (by rw [h3]; decide)).mono fun e w' ⟨he, hb⟩ => ⟨?_, hb⟩
  rw [he]
  exact congrArg (fun l : List UInt8 => Ending.returned (.string ⟨l.toArray⟩)) ad_c
theorem bt {W w1 w2 : World} (h : Below W.heap.size W w1) (h2 : Below w1.heap.size w1 w2) : Below W.heap.size W w2 := h.trans (h2.mono h.size)
theorem prow_one (w1 : World) (a b : ByteArray) : PRow (w1.alloc (.cells #[.string a, .string b] 36)) w1.heap.size 0 [(a, b)] := by
  refine ⟨by simp, fun k hk => ?_⟩
  have : k = 0 := by simp only [List.length_cons, List.length_nil] at hk; omega
  subst this
  have hn : (w1.alloc (.cells #[.string a, .string b] 36)).heap[w1.heap.size]? = some (.cells #[.string a, .string b] 36) := by
    show (w1.heap.push _)[w1.heap.size]? = _
    exact Array.getElem?_push_size
  constructor
  · show (match (w1.alloc (.cells #[.string a, .string b] 36)).heap[w1.heap.size]? with | some (.cells c _ _) => c[0]? | _ => none) = _
    rw [hn]; rfl
  · show (match (w1.alloc (.cells #[.string a, .string b] 36)).heap[w1.heap.size]? with | some (.cells c _ _) => c[1]? | _ => none) = _
    rw [hn]; rfl
theorem awake_any (w : World) : Calls Try.prog 9 #[] w fun e w' => e = .returned (.bool true) ∧ Below w.heap.size w w' := by
  go_enter Try.func9, Try.ntmps9
  go_wp2_with fail
  refine (adapt_c _).mono ?_
  rintro e w1 ⟨rfl, hb1⟩
  have hP := prow_one w1 indent ⟨#[32, 32]⟩
  have hl : look indent [(indent, ⟨#[32, 32]⟩)] = (⟨#[32, 32]⟩, true) := by simp [look]
  have hu := (unit_some w1.heap.size 0 1 [(indent, ⟨#[32, 32]⟩)] _ hP (by decide))
  rw [hl] at hu
  have HU := Lib.hid hu
  clear hu hl
  have hA : Below w1.heap.size w1 (w1.alloc (.cells #[.string indent, .string ⟨#[32, 32]⟩] 36)) := (Below.refl _ _).alloc (Nat.le_refl _) _
  go_wp2_with fail
  refine HU.out.mono ?_
  rintro e w2 ⟨rfl, hb2⟩
  go_wp2
  go_ret
  exact ⟨rfl, bt hb1 (bt hA hb2)⟩
end Go.Proofs.Ytfcnkmpndjmpnaa
