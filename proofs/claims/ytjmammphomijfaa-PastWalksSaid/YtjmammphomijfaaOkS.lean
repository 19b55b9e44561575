/- The contracts of package past at string, told by what the past holds alone. -/
import Derived.Test.YtjmammphomijfaaPushS
import Derived.Test.YtjmammphomijfaaOk
namespace Go.Proofs.Ytjmammphomijfaa
open Go.RowKit

def LS (l : List ByteArray) : List Value := l.map (Value.string)
theorem lenS (l : List ByteArray) : (LS l).length = l.length := by simp [LS]
theorem snocS (l : List ByteArray) (x : ByteArray) : LS (l ++ [x]) = LS l ++ [.string x] := by simp [LS]
theorem oneS (l : List ByteArray) : ∀ u ∈ LS l, u.oneCell' = true := by
  intro u hu
  simp only [LS, List.mem_map] at hu
  obtain ⟨n, _, rfl⟩ := hu
  rfl
theorem okPushS {base : Nat} {w0 w : World} {g : Nat} {most : Int} {bs fs : List ByteArray} (h : Ok 51 9 base w0 w g most (LS bs) (LS fs)) (x : ByteArray) (hl : bs.length ≤ 1048576) (h1 : 1 ≤ most) :
    Calls Try.prog 15 #[.pointer (some ⟨g, 0, none⟩), .string x] w fun e w' => e = .returned (.tuple #[]) ∧ Ok 51 9 base w0 w' g most (LS (pushed most bs x)) (LS []) := by
  obtain ⟨F, hP, hb⟩ := h
  by_cases hm : (bs.length : Int) + 1 ≤ most
  · refine (pushS_few base w g most _ _ F x hP (by rw [lenS]; exact hl) (by rw [lenS]; exact hm)).mono fun e w' ⟨he, hL⟩ => ⟨he, ?_⟩
    rw [pushed, if_pos hm, snocS]
    exact Ok.left hP hb hL
  · refine (pushS_more base w g most _ _ F x hP (by rw [lenS]; exact hl) (by rw [lenS]; omega) h1 (oneS bs)).mono fun e w' ⟨he, hL⟩ => ⟨he, ?_⟩
    rw [pushed, if_neg hm, snocS]
    have et : LS bs.tail = (LS bs).tail := by simp [LS, List.map_tail]
    rw [et]
    exact Ok.left hP hb hL
theorem okManyS {base : Nat} {w0 w : World} {g : Nat} {most : Int} {bs fs : List ByteArray} (h : Ok 51 9 base w0 w g most (LS bs) (LS fs)) :
    Calls Try.prog 18 #[.pointer (some ⟨g, 0, none⟩)] w fun e w' => e = .returned (.tuple #[.int .i64 (bs.length : Int), .int .i64 (fs.length : Int)]) ∧ Ok 51 9 base w0 w' g most (LS bs) (LS fs) := by
  have h0 := h
  obtain ⟨F, hP, hb⟩ := h
  refine (manyS base w g most _ _ F hP).mono fun e w' ⟨he, n, hw⟩ => ⟨by rw [he, lenS, lenS], ?_⟩
  rw [← hw]
  exact h0.drewN n
theorem okBackS {base : Nat} {w0 w : World} {g : Nat} {most : Int} {bs fs : List ByteArray} (x : ByteArray) (h : Ok 51 9 base w0 w g most (LS (bs ++ [x])) (LS fs)) (y : ByteArray) (hl : bs.length ≤ 1048576) (hl2 : fs.length ≤ 1048576) :
    Calls Try.prog 16 #[.pointer (some ⟨g, 0, none⟩), .string y] w fun e w' => e = .returned (.tuple #[.string x, .bool true]) ∧ Ok 51 9 base w0 w' g most (LS bs) (LS (fs ++ [y])) := by
  obtain ⟨F, hP, hb⟩ := h
  rw [snocS] at hP
  refine (backS base w g most _ _ F x y hP (by rw [lenS]; exact hl) (by rw [lenS]; exact hl2)).mono fun e w' ⟨he, hL⟩ => ⟨he, ?_⟩
  rw [snocS]
  exact Ok.left hP hb hL
theorem okForthS {base : Nat} {w0 w : World} {g : Nat} {most : Int} {bs fs : List ByteArray} (x : ByteArray) (h : Ok 51 9 base w0 w g most (LS bs) (LS (fs ++ [x]))) (y : ByteArray) (hl : bs.length ≤ 1048576) (hl2 : fs.length ≤ 1048576) :
    Calls Try.prog 17 #[.pointer (some ⟨g, 0, none⟩), .string y] w fun e w' => e = .returned (.tuple #[.string x, .bool true]) ∧ Ok 51 9 base w0 w' g most (LS (bs ++ [y])) (LS fs) := by
  obtain ⟨F, hP, hb⟩ := h
  rw [snocS] at hP
  refine (forthS base w g most _ _ F x y hP (by rw [lenS]; exact hl2) (by rw [lenS]; exact hl)).mono fun e w' ⟨he, hL⟩ => ⟨he, ?_⟩
  rw [snocS]
  exact Ok.left hP hb hL
theorem okBackS_none {base : Nat} {w0 w : World} {g : Nat} {most : Int} {fs : List ByteArray} (h : Ok 51 9 base w0 w g most (LS []) (LS fs)) (y : ByteArray) :
    Calls Try.prog 16 #[.pointer (some ⟨g, 0, none⟩), .string y] w fun e w' => e = .returned (.tuple #[.string ⟨#[]⟩, .bool false]) ∧ Ok 51 9 base w0 w' g most (LS []) (LS fs) := by
  have h0 := h
  obtain ⟨F, hP, hb⟩ := h
  refine (backS_none base w g most _ F y hP).mono fun e w' ⟨he, n, hw⟩ => ⟨he, ?_⟩
  rw [← hw]
  exact h0.drewN n
theorem okForthS_none {base : Nat} {w0 w : World} {g : Nat} {most : Int} {bs : List ByteArray} (h : Ok 51 9 base w0 w g most (LS bs) (LS [])) (y : ByteArray) :
    Calls Try.prog 17 #[.pointer (some ⟨g, 0, none⟩), .string y] w fun e w' => e = .returned (.tuple #[.string ⟨#[]⟩, .bool false]) ∧ Ok 51 9 base w0 w' g most (LS bs) (LS []) := by
  have h0 := h
  obtain ⟨F, hP, hb⟩ := h
  refine (forthS_none base w g most _ F y hP).mono fun e w' ⟨he, n, hw⟩ => ⟨he, ?_⟩
  rw [← hw]
  exact h0.drewN n
end Go.Proofs.Ytjmammphomijfaa
