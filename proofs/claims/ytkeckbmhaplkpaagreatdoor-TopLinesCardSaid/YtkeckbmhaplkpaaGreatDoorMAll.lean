/- All runs of TopLines by the kernel, joined: the walk of TopLines. -/
import Derived.Test.YtkeckbmhaplkpaaGreatDoorMWalk
import Derived.Test.YtkeckbmhaplkpaaGreatDoorMSh0
import Derived.Test.YtkeckbmhaplkpaaGreatDoorMSh1
import Derived.Test.YtkeckbmhaplkpaaGreatDoorMSh2
import Derived.Test.YtkeckbmhaplkpaaGreatDoorMSh3
import Derived.Test.YtkeckbmhaplkpaaGreatDoorMSh4
import Derived.Test.YtkeckbmhaplkpaaGreatDoorMSh5
import Derived.Test.YtkeckbmhaplkpaaGreatDoorMSh6
import Derived.Test.YtkeckbmhaplkpaaGreatDoorMSh7
import Derived.Test.YtkeckbmhaplkpaaGreatDoorMSh8
import Derived.Test.YtkeckbmhaplkpaaGreatDoorMSh9
import Derived.Test.YtkeckbmhaplkpaaGreatDoorMSh10
import Derived.Test.YtkeckbmhaplkpaaGreatDoorMSo0
import Derived.Test.YtkeckbmhaplkpaaGreatDoorMSo1
import Derived.Test.YtkeckbmhaplkpaaGreatDoorMSo2
import Derived.Test.YtkeckbmhaplkpaaGreatDoorMSo3
import Derived.Test.YtkeckbmhaplkpaaGreatDoorMSo4
import Derived.Test.YtkeckbmhaplkpaaGreatDoorMSo5
import Derived.Test.YtkeckbmhaplkpaaGreatDoorMSo6
import Derived.Test.YtkeckbmhaplkpaaGreatDoorMSo7
import Derived.Test.YtkeckbmhaplkpaaGreatDoorMSo8
import Derived.Test.YtkeckbmhaplkpaaGreatDoorMSo9
namespace Go.Proofs.YtkeckbmhaplkpaaGreatDoor.Ln
open Go Go.RowKit
theorem runs0 : ∀ many, many < 12 → RunsTrue (tM many 0) (codes 0) many ∨ ∀ c, c ≤ 3 → c ≤ 0 → RunsTrue (tMc 0 c) (codesT (frs c) 0) many
  | 0, _ => .inl (sh_ok sh0a).1
  | 1, _ => .inl (sh_ok (sh_ok sh0a).2).1
  | 2, _ => .inl (sh_ok (sh_ok (sh_ok sh0a).2).2).1
  | 3, _ => .inl (sh_ok (sh_ok (sh_ok (sh_ok sh0a).2).2).2).1
  | 4, _ => .inl (sh_ok (sh_ok (sh_ok (sh_ok (sh_ok sh0a).2).2).2).2).1
  | 5, _ => .inl (sh_ok (sh_ok (sh_ok (sh_ok (sh_ok (sh_ok sh0a).2).2).2).2).2).1
  | 6, _ => .inl (sh_ok (sh_ok (sh_ok (sh_ok (sh_ok (sh_ok (sh_ok sh0a).2).2).2).2).2).2).1
  | 7, _ => .inl (sh_ok (sh_ok (sh_ok (sh_ok (sh_ok (sh_ok (sh_ok (sh_ok sh0a).2).2).2).2).2).2).2).1
  | 8, _ => .inl (sh_ok (sh_ok (sh_ok (sh_ok (sh_ok (sh_ok (sh_ok (sh_ok (sh_ok sh0a).2).2).2).2).2).2).2).2).1
  | 9, _ => .inl (sh_ok (sh_ok (sh_ok (sh_ok (sh_ok (sh_ok (sh_ok (sh_ok (sh_ok (sh_ok sh0a).2).2).2).2).2).2).2).2).2).1
  | 10, _ => .inl (sh_ok (sh_ok (sh_ok (sh_ok (sh_ok (sh_ok (sh_ok (sh_ok (sh_ok (sh_ok (sh_ok sh0a).2).2).2).2).2).2).2).2).2).2).1
  | 11, _ => .inl (sh_ok sh0b).1
  | _ + 12, h => absurd h (by omega)
theorem runs1 : ∀ many, many < 12 → RunsTrue (tM many 1) (codes 1) many ∨ ∀ c, c ≤ 3 → c ≤ 1 → RunsTrue (tMc 1 c) (codesT (frs c) 1) many
  | 0, _ => .inl (sh_ok sh1a).1
  | 1, _ => .inl (sh_ok (sh_ok sh1a).2).1
  | 2, _ => .inl (sh_ok (sh_ok (sh_ok sh1a).2).2).1
  | 3, _ => .inl (sh_ok (sh_ok (sh_ok (sh_ok sh1a).2).2).2).1
  | 4, _ => .inl (sh_ok (sh_ok (sh_ok (sh_ok (sh_ok sh1a).2).2).2).2).1
  | 5, _ => .inl (sh_ok (sh_ok (sh_ok (sh_ok (sh_ok (sh_ok sh1a).2).2).2).2).2).1
  | 6, _ => .inl (sh_ok (sh_ok (sh_ok (sh_ok (sh_ok (sh_ok (sh_ok sh1a).2).2).2).2).2).2).1
  | 7, _ => .inl (sh_ok (sh_ok (sh_ok (sh_ok (sh_ok (sh_ok (sh_ok (sh_ok sh1a).2).2).2).2).2).2).2).1
  | 8, _ => .inl (sh_ok (sh_ok (sh_ok (sh_ok (sh_ok (sh_ok (sh_ok (sh_ok (sh_ok sh1a).2).2).2).2).2).2).2).2).1
  | 9, _ => .inl (sh_ok (sh_ok (sh_ok (sh_ok (sh_ok (sh_ok (sh_ok (sh_ok (sh_ok (sh_ok sh1a).2).2).2).2).2).2).2).2).2).1
  | 10, _ => .inl (sh_ok (sh_ok (sh_ok (sh_ok (sh_ok (sh_ok (sh_ok (sh_ok (sh_ok (sh_ok (sh_ok sh1a).2).2).2).2).2).2).2).2).2).2).1
  | 11, _ => .inl (sh_ok sh1b).1
  | _ + 12, h => absurd h (by omega)
theorem runs2 : ∀ many, many < 12 → RunsTrue (tM many 2) (codes 2) many ∨ ∀ c, c ≤ 3 → c ≤ 2 → RunsTrue (tMc 2 c) (codesT (frs c) 2) many
  | 0, _ => .inl (sh_ok sh2a).1
  | 1, _ => .inl (sh_ok (sh_ok sh2a).2).1
  | 2, _ => .inl (sh_ok (sh_ok (sh_ok sh2a).2).2).1
  | 3, _ => .inl (sh_ok (sh_ok (sh_ok (sh_ok sh2a).2).2).2).1
  | 4, _ => .inl (sh_ok (sh_ok (sh_ok (sh_ok (sh_ok sh2a).2).2).2).2).1
  | 5, _ => .inl (sh_ok (sh_ok (sh_ok (sh_ok (sh_ok (sh_ok sh2a).2).2).2).2).2).1
  | 6, _ => .inl (sh_ok (sh_ok (sh_ok (sh_ok (sh_ok (sh_ok (sh_ok sh2a).2).2).2).2).2).2).1
  | 7, _ => .inl (sh_ok (sh_ok (sh_ok (sh_ok (sh_ok (sh_ok (sh_ok (sh_ok sh2a).2).2).2).2).2).2).2).1
  | 8, _ => .inl (sh_ok (sh_ok (sh_ok (sh_ok (sh_ok (sh_ok (sh_ok (sh_ok (sh_ok sh2a).2).2).2).2).2).2).2).2).1
  | 9, _ => .inl (sh_ok (sh_ok (sh_ok (sh_ok (sh_ok (sh_ok (sh_ok (sh_ok (sh_ok (sh_ok sh2a).2).2).2).2).2).2).2).2).2).1
  | 10, _ => .inl (sh_ok sh2b).1
  | 11, _ => .inl (sh_ok (sh_ok sh2b).2).1
  | _ + 12, h => absurd h (by omega)
theorem runs3 : ∀ many, many < 12 → RunsTrue (tM many 3) (codes 3) many ∨ ∀ c, c ≤ 3 → c ≤ 3 → RunsTrue (tMc 3 c) (codesT (frs c) 3) many
  | 0, _ => .inl (sh_ok sh3a).1
  | 1, _ => .inl (sh_ok (sh_ok sh3a).2).1
  | 2, _ => .inl (sh_ok (sh_ok (sh_ok sh3a).2).2).1
  | 3, _ => .inl (sh_ok (sh_ok (sh_ok (sh_ok sh3a).2).2).2).1
  | 4, _ => .inl (sh_ok (sh_ok (sh_ok (sh_ok (sh_ok sh3a).2).2).2).2).1
  | 5, _ => .inl (sh_ok (sh_ok (sh_ok (sh_ok (sh_ok (sh_ok sh3a).2).2).2).2).2).1
  | 6, _ => .inl (sh_ok (sh_ok (sh_ok (sh_ok (sh_ok (sh_ok (sh_ok sh3a).2).2).2).2).2).2).1
  | 7, _ => .inl (sh_ok (sh_ok (sh_ok (sh_ok (sh_ok (sh_ok (sh_ok (sh_ok sh3a).2).2).2).2).2).2).2).1
  | 8, _ => .inl (sh_ok (sh_ok (sh_ok (sh_ok (sh_ok (sh_ok (sh_ok (sh_ok (sh_ok sh3a).2).2).2).2).2).2).2).2).1
  | 9, _ => .inl (sh_ok (sh_ok (sh_ok (sh_ok (sh_ok (sh_ok (sh_ok (sh_ok (sh_ok (sh_ok sh3a).2).2).2).2).2).2).2).2).2).1
  | 10, _ => .inl (sh_ok sh3b).1
  | 11, _ => .inl (sh_ok (sh_ok sh3b).2).1
  | _ + 12, h => absurd h (by omega)
theorem runs4 : ∀ many, many < 12 → RunsTrue (tM many 4) (codes 4) many ∨ ∀ c, c ≤ 3 → c ≤ 4 → RunsTrue (tMc 4 c) (codesT (frs c) 4) many
  | 0, _ => .inl (sh_ok sh4a).1
  | 1, _ => .inl (sh_ok (sh_ok sh4a).2).1
  | 2, _ => .inl (sh_ok (sh_ok (sh_ok sh4a).2).2).1
  | 3, _ => .inl (sh_ok (sh_ok (sh_ok (sh_ok sh4a).2).2).2).1
  | 4, _ => .inl (sh_ok (sh_ok (sh_ok (sh_ok (sh_ok sh4a).2).2).2).2).1
  | 5, _ => .inl (sh_ok (sh_ok (sh_ok (sh_ok (sh_ok (sh_ok sh4a).2).2).2).2).2).1
  | 6, _ => .inl (sh_ok (sh_ok (sh_ok (sh_ok (sh_ok (sh_ok (sh_ok sh4a).2).2).2).2).2).2).1
  | 7, _ => .inl (sh_ok (sh_ok (sh_ok (sh_ok (sh_ok (sh_ok (sh_ok (sh_ok sh4a).2).2).2).2).2).2).2).1
  | 8, _ => .inl (sh_ok (sh_ok (sh_ok (sh_ok (sh_ok (sh_ok (sh_ok (sh_ok (sh_ok sh4a).2).2).2).2).2).2).2).2).1
  | 9, _ => .inl (sh_ok sh4b).1
  | 10, _ => .inl (sh_ok (sh_ok sh4b).2).1
  | 11, _ => .inl (sh_ok (sh_ok (sh_ok sh4b).2).2).1
  | _ + 12, h => absurd h (by omega)
theorem runs5 : ∀ many, many < 12 → RunsTrue (tM many 5) (codes 5) many ∨ ∀ c, c ≤ 3 → c ≤ 5 → RunsTrue (tMc 5 c) (codesT (frs c) 5) many
  | 0, _ => .inl (sh_ok sh5a).1
  | 1, _ => .inl (sh_ok (sh_ok sh5a).2).1
  | 2, _ => .inl (sh_ok (sh_ok (sh_ok sh5a).2).2).1
  | 3, _ => .inl (sh_ok (sh_ok (sh_ok (sh_ok sh5a).2).2).2).1
  | 4, _ => .inl (sh_ok (sh_ok (sh_ok (sh_ok (sh_ok sh5a).2).2).2).2).1
  | 5, _ => .inl (sh_ok (sh_ok (sh_ok (sh_ok (sh_ok (sh_ok sh5a).2).2).2).2).2).1
  | 6, _ => .inr fun c h3 _ => match c, h3 with
    | 0, _ => (shc_ok so6_5).1
    | 1, _ => (shc_ok (shc_ok so6_5).2).1
    | 2, _ => (shc_ok (shc_ok (shc_ok so6_5).2).2).1
    | 3, _ => (shc_ok (shc_ok (shc_ok (shc_ok so6_5).2).2).2).1
    | _ + 4, h => absurd h (by omega)
  | 7, _ => .inl (sh_ok (sh_ok (sh_ok (sh_ok (sh_ok (sh_ok (sh_ok sh5a).2).2).2).2).2).2).1
  | 8, _ => .inl (sh_ok (sh_ok (sh_ok (sh_ok (sh_ok (sh_ok (sh_ok (sh_ok sh5a).2).2).2).2).2).2).2).1
  | 9, _ => .inl (sh_ok sh5b).1
  | 10, _ => .inl (sh_ok (sh_ok sh5b).2).1
  | 11, _ => .inl (sh_ok sh5c).1
  | _ + 12, h => absurd h (by omega)
theorem runs6 : ∀ many, many < 12 → RunsTrue (tM many 6) (codes 6) many ∨ ∀ c, c ≤ 3 → c ≤ 6 → RunsTrue (tMc 6 c) (codesT (frs c) 6) many
  | 0, _ => .inl (sh_ok sh6a).1
  | 1, _ => .inl (sh_ok (sh_ok sh6a).2).1
  | 2, _ => .inl (sh_ok (sh_ok (sh_ok sh6a).2).2).1
  | 3, _ => .inl (sh_ok (sh_ok (sh_ok (sh_ok sh6a).2).2).2).1
  | 4, _ => .inl (sh_ok (sh_ok (sh_ok (sh_ok (sh_ok sh6a).2).2).2).2).1
  | 5, _ => .inr fun c h3 _ => match c, h3 with
    | 0, _ => (shc_ok so5_6).1
    | 1, _ => (shc_ok (shc_ok so5_6).2).1
    | 2, _ => (shc_ok (shc_ok (shc_ok so5_6).2).2).1
    | 3, _ => (shc_ok (shc_ok (shc_ok (shc_ok so5_6).2).2).2).1
    | _ + 4, h => absurd h (by omega)
  | 6, _ => .inl (sh_ok (sh_ok (sh_ok (sh_ok (sh_ok (sh_ok sh6a).2).2).2).2).2).1
  | 7, _ => .inl (sh_ok (sh_ok (sh_ok (sh_ok (sh_ok (sh_ok (sh_ok sh6a).2).2).2).2).2).2).1
  | 8, _ => .inl (sh_ok (sh_ok (sh_ok (sh_ok (sh_ok (sh_ok (sh_ok (sh_ok sh6a).2).2).2).2).2).2).2).1
  | 9, _ => .inl (sh_ok sh6b).1
  | 10, _ => .inl (sh_ok (sh_ok sh6b).2).1
  | 11, _ => .inl (sh_ok sh6c).1
  | _ + 12, h => absurd h (by omega)
theorem runs7 : ∀ many, many < 12 → RunsTrue (tM many 7) (codes 7) many ∨ ∀ c, c ≤ 3 → c ≤ 7 → RunsTrue (tMc 7 c) (codesT (frs c) 7) many
  | 0, _ => .inl (sh_ok sh7a).1
  | 1, _ => .inl (sh_ok (sh_ok sh7a).2).1
  | 2, _ => .inl (sh_ok (sh_ok (sh_ok sh7a).2).2).1
  | 3, _ => .inl (sh_ok (sh_ok (sh_ok (sh_ok sh7a).2).2).2).1
  | 4, _ => .inl (sh_ok (sh_ok (sh_ok (sh_ok (sh_ok sh7a).2).2).2).2).1
  | 5, _ => .inr fun c h3 _ => match c, h3 with
    | 0, _ => (shc_ok so5_7).1
    | 1, _ => (shc_ok (shc_ok so5_7).2).1
    | 2, _ => (shc_ok (shc_ok (shc_ok so5_7).2).2).1
    | 3, _ => (shc_ok (shc_ok (shc_ok (shc_ok so5_7).2).2).2).1
    | _ + 4, h => absurd h (by omega)
  | 6, _ => .inl (sh_ok (sh_ok (sh_ok (sh_ok (sh_ok (sh_ok sh7a).2).2).2).2).2).1
  | 7, _ => .inl (sh_ok (sh_ok (sh_ok (sh_ok (sh_ok (sh_ok (sh_ok sh7a).2).2).2).2).2).2).1
  | 8, _ => .inr fun c h3 _ => match c, h3 with
    | 0, _ => (shc_ok so8_7).1
    | 1, _ => (shc_ok (shc_ok so8_7).2).1
    | 2, _ => (shc_ok (shc_ok (shc_ok so8_7).2).2).1
    | 3, _ => (shc_ok (shc_ok (shc_ok (shc_ok so8_7).2).2).2).1
    | _ + 4, h => absurd h (by omega)
  | 9, _ => .inl (sh_ok sh7b).1
  | 10, _ => .inr fun c h3 _ => match c, h3 with
    | 0, _ => (shc_ok so10_7).1
    | 1, _ => (shc_ok (shc_ok so10_7).2).1
    | 2, _ => (shc_ok (shc_ok (shc_ok so10_7).2).2).1
    | 3, _ => (shc_ok (shc_ok (shc_ok (shc_ok so10_7).2).2).2).1
    | _ + 4, h => absurd h (by omega)
  | 11, _ => .inl (sh_ok (sh_ok sh7b).2).1
  | _ + 12, h => absurd h (by omega)
theorem runs8 : ∀ many, many < 12 → RunsTrue (tM many 8) (codes 8) many ∨ ∀ c, c ≤ 3 → c ≤ 8 → RunsTrue (tMc 8 c) (codesT (frs c) 8) many
  | 0, _ => .inl (sh_ok sh8a).1
  | 1, _ => .inl (sh_ok (sh_ok sh8a).2).1
  | 2, _ => .inl (sh_ok (sh_ok (sh_ok sh8a).2).2).1
  | 3, _ => .inl (sh_ok (sh_ok (sh_ok (sh_ok sh8a).2).2).2).1
  | 4, _ => .inr fun c h3 _ => match c, h3 with
    | 0, _ => (shc_ok so4_8).1
    | 1, _ => (shc_ok (shc_ok so4_8).2).1
    | 2, _ => (shc_ok (shc_ok (shc_ok so4_8).2).2).1
    | 3, _ => (shc_ok (shc_ok (shc_ok (shc_ok so4_8).2).2).2).1
    | _ + 4, h => absurd h (by omega)
  | 5, _ => .inl (sh_ok (sh_ok (sh_ok (sh_ok (sh_ok sh8a).2).2).2).2).1
  | 6, _ => .inl (sh_ok (sh_ok (sh_ok (sh_ok (sh_ok (sh_ok sh8a).2).2).2).2).2).1
  | 7, _ => .inl (sh_ok (sh_ok (sh_ok (sh_ok (sh_ok (sh_ok (sh_ok sh8a).2).2).2).2).2).2).1
  | 8, _ => .inl (sh_ok sh8b).1
  | 9, _ => .inr fun c h3 _ => match c, h3 with
    | 0, _ => (shc_ok so9_8).1
    | 1, _ => (shc_ok (shc_ok so9_8).2).1
    | 2, _ => (shc_ok (shc_ok (shc_ok so9_8).2).2).1
    | 3, _ => (shc_ok (shc_ok (shc_ok (shc_ok so9_8).2).2).2).1
    | _ + 4, h => absurd h (by omega)
  | 10, _ => .inl (sh_ok (sh_ok sh8b).2).1
  | 11, _ => .inl (sh_ok sh8c).1
  | _ + 12, h => absurd h (by omega)
theorem runs9 : ∀ many, many < 12 → RunsTrue (tM many 9) (codes 9) many ∨ ∀ c, c ≤ 3 → c ≤ 9 → RunsTrue (tMc 9 c) (codesT (frs c) 9) many
  | 0, _ => .inl (sh_ok sh9a).1
  | 1, _ => .inl (sh_ok (sh_ok sh9a).2).1
  | 2, _ => .inl (sh_ok (sh_ok (sh_ok sh9a).2).2).1
  | 3, _ => .inl (sh_ok (sh_ok (sh_ok (sh_ok sh9a).2).2).2).1
  | 4, _ => .inr fun c h3 _ => match c, h3 with
    | 0, _ => (shc_ok so4_9).1
    | 1, _ => (shc_ok (shc_ok so4_9).2).1
    | 2, _ => (shc_ok (shc_ok (shc_ok so4_9).2).2).1
    | 3, _ => (shc_ok (shc_ok (shc_ok (shc_ok so4_9).2).2).2).1
    | _ + 4, h => absurd h (by omega)
  | 5, _ => .inl (sh_ok (sh_ok (sh_ok (sh_ok (sh_ok sh9a).2).2).2).2).1
  | 6, _ => .inl (sh_ok (sh_ok (sh_ok (sh_ok (sh_ok (sh_ok sh9a).2).2).2).2).2).1
  | 7, _ => .inl (sh_ok (sh_ok (sh_ok (sh_ok (sh_ok (sh_ok (sh_ok sh9a).2).2).2).2).2).2).1
  | 8, _ => .inl (sh_ok sh9b).1
  | 9, _ => .inl (sh_ok (sh_ok sh9b).2).1
  | 10, _ => .inl (sh_ok sh9c).1
  | 11, _ => .inl (sh_ok sh9d).1
  | _ + 12, h => absurd h (by omega)
theorem runs10 : ∀ many, many < 12 → RunsTrue (tM many 10) (codes 10) many ∨ ∀ c, c ≤ 3 → c ≤ 10 → RunsTrue (tMc 10 c) (codesT (frs c) 10) many
  | 0, _ => .inl (sh_ok sh10a).1
  | 1, _ => .inl (sh_ok (sh_ok sh10a).2).1
  | 2, _ => .inl (sh_ok (sh_ok (sh_ok sh10a).2).2).1
  | 3, _ => .inl (sh_ok (sh_ok (sh_ok (sh_ok sh10a).2).2).2).1
  | 4, _ => .inr fun c h3 _ => match c, h3 with
    | 0, _ => (shc_ok so4_10).1
    | 1, _ => (shc_ok (shc_ok so4_10).2).1
    | 2, _ => (shc_ok (shc_ok (shc_ok so4_10).2).2).1
    | 3, _ => (shc_ok (shc_ok (shc_ok (shc_ok so4_10).2).2).2).1
    | _ + 4, h => absurd h (by omega)
  | 5, _ => .inl (sh_ok (sh_ok (sh_ok (sh_ok (sh_ok sh10a).2).2).2).2).1
  | 6, _ => .inl (sh_ok (sh_ok (sh_ok (sh_ok (sh_ok (sh_ok sh10a).2).2).2).2).2).1
  | 7, _ => .inl (sh_ok (sh_ok (sh_ok (sh_ok (sh_ok (sh_ok (sh_ok sh10a).2).2).2).2).2).2).1
  | 8, _ => .inr fun c h3 _ => match c, h3 with
    | 0, _ => (shc_ok so8_10).1
    | 1, _ => (shc_ok (shc_ok so8_10).2).1
    | 2, _ => (shc_ok (shc_ok (shc_ok so8_10).2).2).1
    | 3, _ => (shc_ok (shc_ok (shc_ok (shc_ok so8_10).2).2).2).1
    | _ + 4, h => absurd h (by omega)
  | 9, _ => .inl (sh_ok sh10b).1
  | 10, _ => .inl (sh_ok (sh_ok sh10b).2).1
  | 11, _ => .inl (sh_ok sh10c).1
  | _ + 12, h => absurd h (by omega)
theorem runs : Runs := fun many L hm hL => match L, hL with
  | 0, _ => runs0 many hm
  | 1, _ => runs1 many hm
  | 2, _ => runs2 many hm
  | 3, _ => runs3 many hm
  | 4, _ => runs4 many hm
  | 5, _ => runs5 many hm
  | 6, _ => runs6 many hm
  | 7, _ => runs7 many hm
  | 8, _ => runs8 many hm
  | 9, _ => runs9 many hm
  | 10, _ => runs10 many hm
  | _ + 11, h => absurd h (by omega)
theorem walk : ∀ (a0 : Int) (s : ByteArray) (w : World), Calls Tryz.prog 4 #[.int .i64 a0, .string s] w fun e w' => e = .returned (.bool true) ∧ Below w.heap.size w w' := walk_of runs
end Go.Proofs.YtkeckbmhaplkpaaGreatDoor.Ln
