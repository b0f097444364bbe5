-- Written by print.py out of the translation; a slip of it corrected by fixprint.py (this session's). Lean checks it.
import Derived.Test.YtmhodkkfbbpgaaaPNfax0
import Derived.Test.YtmhodkkfbbpgaaaPNfax3
import Derived.Test.YtmhodkkfbbpgaaaPNfax4
import Derived.Test.YtmhodkkfbbpgaaaPNfax5
namespace Go.Proofs.Ytmhodkkfbbpgaaa.PNfa
open Go.RowKit Go.Proofs.YtmhodkkfbbpgaaaW.PrintWords Go.Proofs.YtmhodkkfbbpgaaaW.PrintLast Go.Proofs.YtmhodkkfbbpgaaaW.PrintMore
attribute [local go_sem] max2_int min2_int max_two min_two max_three min_three max_four min_four   -- for this text's walks alone
set_option linter.unusedVariables false
set_option linter.unusedSimpArgs false

/-! ### colloquyref03_Table: function 15 -/
mutual
def colloquyref03_Table.l0 : Nat → ByteArray → List (List Bool) → Int → Int → List (S64) → List (S25) → Option ((List (List Bool)))
  | 0, _, _, _, _, _, _ => none
  | k + 1, x1, x5, x6, x260000, x260001, x260002 => if x6 < (x1.size : Int) then (if 0 ≤ x6 then (if x6 < (x5.length : Int) then ((colloquyref03_In.f k x260001 (wrap64 (bt x1 x6))).bind fun t264 => (if 0 ≤ (wrap64 (x6 + 1)) then (if (wrap64 (x6 + 1)) < ((rd_L6 x5 x6).length : Int) then (colloquyref03_Table.l0 k x1 (x5.set (x6 : Int).toNat ((rd_L6 x5 x6).set ((wrap64 (x6 + 1)) : Int).toNat t264)) (wrap64 (x6 + 1)) x260000 x260001 x260002) else (none)) else (none))) else (none)) else (none)) else (some x5)
def colloquyref03_Table.j1 : Nat → ByteArray → Bool → Int → List (S64) → List (S25) → Option ((List (List Bool)))
  | 0, _, _, _, _, _ => none
  | k + 1, x1, x49, x260000, x260001, x260002 => if x49 = true then ((colloquyref03_none.f k (wrap64 ((x1.size : Int) + 1))).bind fun t268 => (if x260000 = 2 then ((colloquyref03_same.f k (wrap64 ((x1.size : Int) + 1))).bind fun t271 => (colloquyref03_Table.j2 k x1 t271 x260000 x260001 x260002)) else (colloquyref03_Table.j2 k x1 t268 x260000 x260001 x260002))) else (if x260000 < 4 then (colloquyref03_Table.j4 k x1 true x260000 x260001 x260002) else (if x260000 > 6 then (colloquyref03_Table.j4 k x1 true x260000 x260001 x260002) else (colloquyref03_Table.j4 k x1 ((x260002.length : Int) == 0) x260000 x260001 x260002)))
def colloquyref03_Table.j2 : Nat → ByteArray → List (List Bool) → Int → List (S64) → List (S25) → Option ((List (List Bool)))
  | 0, _, _, _, _, _ => none
  | k + 1, x1, x7, x260000, x260001, x260002 => colloquyref03_Table.l1 k x1 x7 0 x260000 x260001 x260002
def colloquyref03_Table.l1 : Nat → ByteArray → List (List Bool) → Int → Int → List (S64) → List (S25) → Option ((List (List Bool)))
  | 0, _, _, _, _, _, _ => none
  | k + 1, x1, x7, x8, x260000, x260001, x260002 => if x8 < (x260002.length : Int) then (if 0 ≤ x8 then ((colloquyref03_Table.f k ((rd_T25 x260002 x8).f0) ((rd_T25 x260002 x8).f1) ((rd_T25 x260002 x8).f2) x1).bind fun t275 => (if x260000 = 2 then ((colloquyref03_both.f k x7 t275).bind fun t278 => (colloquyref03_Table.l1 k x1 t278 (wrap64 (x8 + 1)) x260000 x260001 x260002)) else ((colloquyref03_either.f k x7 t275).bind fun t281 => (colloquyref03_Table.l1 k x1 t281 (wrap64 (x8 + 1)) x260000 x260001 x260002)))) else (none)) else (some x7)
def colloquyref03_Table.j4 : Nat → ByteArray → Bool → Int → List (S64) → List (S25) → Option ((List (List Bool)))
  | 0, _, _, _, _, _ => none
  | k + 1, x1, x98, x260000, x260001, x260002 => if x98 = true then ((colloquyref03_none.f k (wrap64 ((x1.size : Int) + 1))).bind fun t284 => (some t284)) else (if 0 < (x260002.length : Int) then ((colloquyref03_Table.f k ((rd_T25 x260002 0).f0) ((rd_T25 x260002 0).f1) ((rd_T25 x260002 0).f2) x1).bind fun t288 => (if x260000 = 6 then ((colloquyref03_same.f k (wrap64 ((x1.size : Int) + 1))).bind fun t291 => ((colloquyref03_either.f k t288 t291).bind fun t294 => (some t294))) else (colloquyref03_Table.l2 k x1 t288 0 x260000 x260001 x260002))) else (none))
def colloquyref03_Table.l2 : Nat → ByteArray → List (List Bool) → Int → Int → List (S64) → List (S25) → Option ((List (List Bool)))
  | 0, _, _, _, _, _, _ => none
  | k + 1, x1, x10, x11, x260000, x260001, x260002 => if x11 < (x10.length : Int) then (colloquyref03_Table.l3 k x1 x10 x11 0 x260000 x260001 x260002) else (if x260000 = 4 then ((colloquyref03_same.f k (wrap64 ((x1.size : Int) + 1))).bind fun t310 => ((colloquyref03_either.f k x10 t310).bind fun t313 => (some t313))) else (some x10))
def colloquyref03_Table.l3 : Nat → ByteArray → List (List Bool) → Int → Int → Int → List (S64) → List (S25) → Option ((List (List Bool)))
  | 0, _, _, _, _, _, _, _ => none
  | k + 1, x1, x10, x11, x12, x260000, x260001, x260002 => if x12 < (x10.length : Int) then (colloquyref03_Table.l4 k x1 x10 x11 x12 0 x260000 x260001 x260002) else (colloquyref03_Table.l2 k x1 x10 (wrap64 (x11 + 1)) x260000 x260001 x260002)
def colloquyref03_Table.l4 : Nat → ByteArray → List (List Bool) → Int → Int → Int → Int → List (S64) → List (S25) → Option ((List (List Bool)))
  | 0, _, _, _, _, _, _, _, _ => none
  | k + 1, x1, x10, x11, x12, x13, x260000, x260001, x260002 => if x13 < (x10.length : Int) then (if 0 ≤ x12 then (if x12 < (x10.length : Int) then (if 0 ≤ x11 then (if x11 < ((rd_L6 x10 x12).length : Int) then (if rdOf false (rd_L6 x10 x12) x11 = true then (if 0 ≤ x13 then (if x13 < ((rd_L6 x10 x12).length : Int) then (if rdOf false (rd_L6 x10 x12) x13 = true then (colloquyref03_Table.l4 k x1 (x10.set (x12 : Int).toNat ((rd_L6 x10 x12).set (x13 : Int).toNat true)) x11 x12 (wrap64 (x13 + 1)) x260000 x260001 x260002) else (if x11 < (x10.length : Int) then (if x13 < ((rd_L6 x10 x11).length : Int) then (colloquyref03_Table.l4 k x1 (x10.set (x12 : Int).toNat ((rd_L6 x10 x12).set (x13 : Int).toNat (rdOf false (rd_L6 x10 x11) x13))) x11 x12 (wrap64 (x13 + 1)) x260000 x260001 x260002) else (none)) else (none))) else (none)) else (none)) else (colloquyref03_Table.l3 k x1 x10 x11 (wrap64 (x12 + 1)) x260000 x260001 x260002)) else (none)) else (none)) else (none)) else (none)) else (colloquyref03_Table.l3 k x1 x10 x11 (wrap64 (x12 + 1)) x260000 x260001 x260002)
def colloquyref03_Table.f : Nat → Int → List (S64) → List (S25) → ByteArray → Option ((List (List Bool)))
  | 0, _, _, _, _ => none
  | k + 1, a0_0, l0_1, l0_2, a1 => if a0_0 = 1 then ((colloquyref03_none.f k (wrap64 ((a1.size : Int) + 1))).bind fun t260 => (colloquyref03_Table.l0 k a1 t260 0 a0_0 l0_1 l0_2)) else (if a0_0 = 2 then (colloquyref03_Table.j1 k a1 true a0_0 l0_1 l0_2) else (colloquyref03_Table.j1 k a1 (a0_0 == 3) a0_0 l0_1 l0_2))
end
theorem colloquyref03_Table.mono_l : ∀ k, (∀ y0 y1 y2 y3, LeO (colloquyref03_Table.f k y0 y1 y2 y3) (colloquyref03_Table.f (k + 1) y0 y1 y2 y3)) ∧ (∀ y0 y1 y2 y3 y4 y5, LeO (colloquyref03_Table.l0 k y0 y1 y2 y3 y4 y5) (colloquyref03_Table.l0 (k + 1) y0 y1 y2 y3 y4 y5)) ∧ (∀ y0 y1 y2 y3 y4, LeO (colloquyref03_Table.j1 k y0 y1 y2 y3 y4) (colloquyref03_Table.j1 (k + 1) y0 y1 y2 y3 y4)) ∧ (∀ y0 y1 y2 y3 y4, LeO (colloquyref03_Table.j2 k y0 y1 y2 y3 y4) (colloquyref03_Table.j2 (k + 1) y0 y1 y2 y3 y4)) ∧ (∀ y0 y1 y2 y3 y4 y5, LeO (colloquyref03_Table.l1 k y0 y1 y2 y3 y4 y5) (colloquyref03_Table.l1 (k + 1) y0 y1 y2 y3 y4 y5)) ∧ (∀ y0 y1 y2 y3 y4, LeO (colloquyref03_Table.j4 k y0 y1 y2 y3 y4) (colloquyref03_Table.j4 (k + 1) y0 y1 y2 y3 y4)) ∧ (∀ y0 y1 y2 y3 y4 y5, LeO (colloquyref03_Table.l2 k y0 y1 y2 y3 y4 y5) (colloquyref03_Table.l2 (k + 1) y0 y1 y2 y3 y4 y5)) ∧ (∀ y0 y1 y2 y3 y4 y5 y6, LeO (colloquyref03_Table.l3 k y0 y1 y2 y3 y4 y5 y6) (colloquyref03_Table.l3 (k + 1) y0 y1 y2 y3 y4 y5 y6)) ∧ (∀ y0 y1 y2 y3 y4 y5 y6 y7, LeO (colloquyref03_Table.l4 k y0 y1 y2 y3 y4 y5 y6 y7) (colloquyref03_Table.l4 (k + 1) y0 y1 y2 y3 y4 y5 y6 y7))
  | 0 => ⟨fun _ _ _ _ r h => by simp [colloquyref03_Table.f] at h, fun _ _ _ _ _ _ r h => by simp [colloquyref03_Table.l0] at h, fun _ _ _ _ _ r h => by simp [colloquyref03_Table.j1] at h, fun _ _ _ _ _ r h => by simp [colloquyref03_Table.j2] at h, fun _ _ _ _ _ _ r h => by simp [colloquyref03_Table.l1] at h, fun _ _ _ _ _ r h => by simp [colloquyref03_Table.j4] at h, fun _ _ _ _ _ _ r h => by simp [colloquyref03_Table.l2] at h, fun _ _ _ _ _ _ _ r h => by simp [colloquyref03_Table.l3] at h, fun _ _ _ _ _ _ _ _ r h => by simp [colloquyref03_Table.l4] at h⟩
  | k + 1 => by
    obtain ⟨ih0, ih1, ih2, ih3, ih4, ih5, ih6, ih7, ih8⟩ := colloquyref03_Table.mono_l k
    refine ⟨?_, ?_, ?_, ?_, ?_, ?_, ?_, ?_, ?_⟩
    · intro y0 y1 y2 y3
      unfold colloquyref03_Table.f
      repeat' first
      | (with_reducible exact ih0 _ _ _ _)
      | (with_reducible exact ih1 _ _ _ _ _ _)
      | (with_reducible exact ih2 _ _ _ _ _)
      | (with_reducible exact ih3 _ _ _ _ _)
      | (with_reducible exact ih4 _ _ _ _ _ _)
      | (with_reducible exact ih5 _ _ _ _ _)
      | (with_reducible exact ih6 _ _ _ _ _ _)
      | (with_reducible exact ih7 _ _ _ _ _ _ _)
      | (with_reducible exact ih8 _ _ _ _ _ _ _ _)
      | (with_reducible exact colloquyref03_In.mono _ _ _)
      | (with_reducible exact colloquyref03_both.mono _ _ _)
      | (with_reducible exact colloquyref03_either.mono _ _ _)
      | (with_reducible exact colloquyref03_none.mono _ _)
      | (with_reducible exact colloquyref03_same.mono _ _)
      | (with_reducible exact LeO.refl _)
      | (with_reducible exact LeO.none _)
      | (with_reducible refine LeO.ite ?_ ?_)
      | (with_reducible refine LeO.bind ?_ (fun _ => ?_))
      | exact ih0 _ _ _ _
      | exact ih1 _ _ _ _ _ _
      | exact ih2 _ _ _ _ _
      | exact ih3 _ _ _ _ _
      | exact ih4 _ _ _ _ _ _
      | exact ih5 _ _ _ _ _
      | exact ih6 _ _ _ _ _ _
      | exact ih7 _ _ _ _ _ _ _
      | exact ih8 _ _ _ _ _ _ _ _
      | exact colloquyref03_In.mono _ _ _
      | exact colloquyref03_both.mono _ _ _
      | exact colloquyref03_either.mono _ _ _
      | exact colloquyref03_none.mono _ _
      | exact colloquyref03_same.mono _ _
      | exact LeO.none _
      | refine LeO.ite ?_ ?_
      | refine LeO.bind ?_ (fun _ => ?_)
    · intro y0 y1 y2 y3 y4 y5
      unfold colloquyref03_Table.l0
      repeat' first
      | (with_reducible exact ih0 _ _ _ _)
      | (with_reducible exact ih1 _ _ _ _ _ _)
      | (with_reducible exact ih2 _ _ _ _ _)
      | (with_reducible exact ih3 _ _ _ _ _)
      | (with_reducible exact ih4 _ _ _ _ _ _)
      | (with_reducible exact ih5 _ _ _ _ _)
      | (with_reducible exact ih6 _ _ _ _ _ _)
      | (with_reducible exact ih7 _ _ _ _ _ _ _)
      | (with_reducible exact ih8 _ _ _ _ _ _ _ _)
      | (with_reducible exact colloquyref03_In.mono _ _ _)
      | (with_reducible exact colloquyref03_both.mono _ _ _)
      | (with_reducible exact colloquyref03_either.mono _ _ _)
      | (with_reducible exact colloquyref03_none.mono _ _)
      | (with_reducible exact colloquyref03_same.mono _ _)
      | (with_reducible exact LeO.refl _)
      | (with_reducible exact LeO.none _)
      | (with_reducible refine LeO.ite ?_ ?_)
      | (with_reducible refine LeO.bind ?_ (fun _ => ?_))
      | exact ih0 _ _ _ _
      | exact ih1 _ _ _ _ _ _
      | exact ih2 _ _ _ _ _
      | exact ih3 _ _ _ _ _
      | exact ih4 _ _ _ _ _ _
      | exact ih5 _ _ _ _ _
      | exact ih6 _ _ _ _ _ _
      | exact ih7 _ _ _ _ _ _ _
      | exact ih8 _ _ _ _ _ _ _ _
      | exact colloquyref03_In.mono _ _ _
      | exact colloquyref03_both.mono _ _ _
      | exact colloquyref03_either.mono _ _ _
      | exact colloquyref03_none.mono _ _
      | exact colloquyref03_same.mono _ _
      | exact LeO.none _
      | refine LeO.ite ?_ ?_
      | refine LeO.bind ?_ (fun _ => ?_)
    · intro y0 y1 y2 y3 y4
      unfold colloquyref03_Table.j1
      repeat' first
      | (with_reducible exact ih0 _ _ _ _)
      | (with_reducible exact ih1 _ _ _ _ _ _)
      | (with_reducible exact ih2 _ _ _ _ _)
      | (with_reducible exact ih3 _ _ _ _ _)
      | (with_reducible exact ih4 _ _ _ _ _ _)
      | (with_reducible exact ih5 _ _ _ _ _)
      | (with_reducible exact ih6 _ _ _ _ _ _)
      | (with_reducible exact ih7 _ _ _ _ _ _ _)
      | (with_reducible exact ih8 _ _ _ _ _ _ _ _)
      | (with_reducible exact colloquyref03_In.mono _ _ _)
      | (with_reducible exact colloquyref03_both.mono _ _ _)
      | (with_reducible exact colloquyref03_either.mono _ _ _)
      | (with_reducible exact colloquyref03_none.mono _ _)
      | (with_reducible exact colloquyref03_same.mono _ _)
      | (with_reducible exact LeO.refl _)
      | (with_reducible exact LeO.none _)
      | (with_reducible refine LeO.ite ?_ ?_)
      | (with_reducible refine LeO.bind ?_ (fun _ => ?_))
      | exact ih0 _ _ _ _
      | exact ih1 _ _ _ _ _ _
      | exact ih2 _ _ _ _ _
      | exact ih3 _ _ _ _ _
      | exact ih4 _ _ _ _ _ _
      | exact ih5 _ _ _ _ _
      | exact ih6 _ _ _ _ _ _
      | exact ih7 _ _ _ _ _ _ _
      | exact ih8 _ _ _ _ _ _ _ _
      | exact colloquyref03_In.mono _ _ _
      | exact colloquyref03_both.mono _ _ _
      | exact colloquyref03_either.mono _ _ _
      | exact colloquyref03_none.mono _ _
      | exact colloquyref03_same.mono _ _
      | exact LeO.none _
      | refine LeO.ite ?_ ?_
      | refine LeO.bind ?_ (fun _ => ?_)
    · intro y0 y1 y2 y3 y4
      unfold colloquyref03_Table.j2
      repeat' first
      | (with_reducible exact ih0 _ _ _ _)
      | (with_reducible exact ih1 _ _ _ _ _ _)
      | (with_reducible exact ih2 _ _ _ _ _)
      | (with_reducible exact ih3 _ _ _ _ _)
      | (with_reducible exact ih4 _ _ _ _ _ _)
      | (with_reducible exact ih5 _ _ _ _ _)
      | (with_reducible exact ih6 _ _ _ _ _ _)
      | (with_reducible exact ih7 _ _ _ _ _ _ _)
      | (with_reducible exact ih8 _ _ _ _ _ _ _ _)
      | (with_reducible exact colloquyref03_In.mono _ _ _)
      | (with_reducible exact colloquyref03_both.mono _ _ _)
      | (with_reducible exact colloquyref03_either.mono _ _ _)
      | (with_reducible exact colloquyref03_none.mono _ _)
      | (with_reducible exact colloquyref03_same.mono _ _)
      | (with_reducible exact LeO.refl _)
      | (with_reducible exact LeO.none _)
      | (with_reducible refine LeO.ite ?_ ?_)
      | (with_reducible refine LeO.bind ?_ (fun _ => ?_))
      | exact ih0 _ _ _ _
      | exact ih1 _ _ _ _ _ _
      | exact ih2 _ _ _ _ _
      | exact ih3 _ _ _ _ _
      | exact ih4 _ _ _ _ _ _
      | exact ih5 _ _ _ _ _
      | exact ih6 _ _ _ _ _ _
      | exact ih7 _ _ _ _ _ _ _
      | exact ih8 _ _ _ _ _ _ _ _
      | exact colloquyref03_In.mono _ _ _
      | exact colloquyref03_both.mono _ _ _
      | exact colloquyref03_either.mono _ _ _
      | exact colloquyref03_none.mono _ _
      | exact colloquyref03_same.mono _ _
      | exact LeO.none _
      | refine LeO.ite ?_ ?_
      | refine LeO.bind ?_ (fun _ => ?_)
    · intro y0 y1 y2 y3 y4 y5
      unfold colloquyref03_Table.l1
      repeat' first
      | (with_reducible exact ih0 _ _ _ _)
      | (with_reducible exact ih1 _ _ _ _ _ _)
      | (with_reducible exact ih2 _ _ _ _ _)
      | (with_reducible exact ih3 _ _ _ _ _)
      | (with_reducible exact ih4 _ _ _ _ _ _)
      | (with_reducible exact ih5 _ _ _ _ _)
      | (with_reducible exact ih6 _ _ _ _ _ _)
      | (with_reducible exact ih7 _ _ _ _ _ _ _)
      | (with_reducible exact ih8 _ _ _ _ _ _ _ _)
      | (with_reducible exact colloquyref03_In.mono _ _ _)
      | (with_reducible exact colloquyref03_both.mono _ _ _)
      | (with_reducible exact colloquyref03_either.mono _ _ _)
      | (with_reducible exact colloquyref03_none.mono _ _)
      | (with_reducible exact colloquyref03_same.mono _ _)
      | (with_reducible exact LeO.refl _)
      | (with_reducible exact LeO.none _)
      | (with_reducible refine LeO.ite ?_ ?_)
      | (with_reducible refine LeO.bind ?_ (fun _ => ?_))
      | exact ih0 _ _ _ _
      | exact ih1 _ _ _ _ _ _
      | exact ih2 _ _ _ _ _
      | exact ih3 _ _ _ _ _
      | exact ih4 _ _ _ _ _ _
      | exact ih5 _ _ _ _ _
      | exact ih6 _ _ _ _ _ _
      | exact ih7 _ _ _ _ _ _ _
      | exact ih8 _ _ _ _ _ _ _ _
      | exact colloquyref03_In.mono _ _ _
      | exact colloquyref03_both.mono _ _ _
      | exact colloquyref03_either.mono _ _ _
      | exact colloquyref03_none.mono _ _
      | exact colloquyref03_same.mono _ _
      | exact LeO.none _
      | refine LeO.ite ?_ ?_
      | refine LeO.bind ?_ (fun _ => ?_)
    · intro y0 y1 y2 y3 y4
      unfold colloquyref03_Table.j4
      repeat' first
      | (with_reducible exact ih0 _ _ _ _)
      | (with_reducible exact ih1 _ _ _ _ _ _)
      | (with_reducible exact ih2 _ _ _ _ _)
      | (with_reducible exact ih3 _ _ _ _ _)
      | (with_reducible exact ih4 _ _ _ _ _ _)
      | (with_reducible exact ih5 _ _ _ _ _)
      | (with_reducible exact ih6 _ _ _ _ _ _)
      | (with_reducible exact ih7 _ _ _ _ _ _ _)
      | (with_reducible exact ih8 _ _ _ _ _ _ _ _)
      | (with_reducible exact colloquyref03_In.mono _ _ _)
      | (with_reducible exact colloquyref03_both.mono _ _ _)
      | (with_reducible exact colloquyref03_either.mono _ _ _)
      | (with_reducible exact colloquyref03_none.mono _ _)
      | (with_reducible exact colloquyref03_same.mono _ _)
      | (with_reducible exact LeO.refl _)
      | (with_reducible exact LeO.none _)
      | (with_reducible refine LeO.ite ?_ ?_)
      | (with_reducible refine LeO.bind ?_ (fun _ => ?_))
      | exact ih0 _ _ _ _
      | exact ih1 _ _ _ _ _ _
      | exact ih2 _ _ _ _ _
      | exact ih3 _ _ _ _ _
      | exact ih4 _ _ _ _ _ _
      | exact ih5 _ _ _ _ _
      | exact ih6 _ _ _ _ _ _
      | exact ih7 _ _ _ _ _ _ _
      | exact ih8 _ _ _ _ _ _ _ _
      | exact colloquyref03_In.mono _ _ _
      | exact colloquyref03_both.mono _ _ _
      | exact colloquyref03_either.mono _ _ _
      | exact colloquyref03_none.mono _ _
      | exact colloquyref03_same.mono _ _
      | exact LeO.none _
      | refine LeO.ite ?_ ?_
      | refine LeO.bind ?_ (fun _ => ?_)
    · intro y0 y1 y2 y3 y4 y5
      unfold colloquyref03_Table.l2
      repeat' first
      | (with_reducible exact ih0 _ _ _ _)
      | (with_reducible exact ih1 _ _ _ _ _ _)
      | (with_reducible exact ih2 _ _ _ _ _)
      | (with_reducible exact ih3 _ _ _ _ _)
      | (with_reducible exact ih4 _ _ _ _ _ _)
      | (with_reducible exact ih5 _ _ _ _ _)
      | (with_reducible exact ih6 _ _ _ _ _ _)
      | (with_reducible exact ih7 _ _ _ _ _ _ _)
      | (with_reducible exact ih8 _ _ _ _ _ _ _ _)
      | (with_reducible exact colloquyref03_In.mono _ _ _)
      | (with_reducible exact colloquyref03_both.mono _ _ _)
      | (with_reducible exact colloquyref03_either.mono _ _ _)
      | (with_reducible exact colloquyref03_none.mono _ _)
      | (with_reducible exact colloquyref03_same.mono _ _)
      | (with_reducible exact LeO.refl _)
      | (with_reducible exact LeO.none _)
      | (with_reducible refine LeO.ite ?_ ?_)
      | (with_reducible refine LeO.bind ?_ (fun _ => ?_))
      | exact ih0 _ _ _ _
      | exact ih1 _ _ _ _ _ _
      | exact ih2 _ _ _ _ _
      | exact ih3 _ _ _ _ _
      | exact ih4 _ _ _ _ _ _
      | exact ih5 _ _ _ _ _
      | exact ih6 _ _ _ _ _ _
      | exact ih7 _ _ _ _ _ _ _
      | exact ih8 _ _ _ _ _ _ _ _
      | exact colloquyref03_In.mono _ _ _
      | exact colloquyref03_both.mono _ _ _
      | exact colloquyref03_either.mono _ _ _
      | exact colloquyref03_none.mono _ _
      | exact colloquyref03_same.mono _ _
      | exact LeO.none _
      | refine LeO.ite ?_ ?_
      | refine LeO.bind ?_ (fun _ => ?_)
    · intro y0 y1 y2 y3 y4 y5 y6
      unfold colloquyref03_Table.l3
      repeat' first
      | (with_reducible exact ih0 _ _ _ _)
      | (with_reducible exact ih1 _ _ _ _ _ _)
      | (with_reducible exact ih2 _ _ _ _ _)
      | (with_reducible exact ih3 _ _ _ _ _)
      | (with_reducible exact ih4 _ _ _ _ _ _)
      | (with_reducible exact ih5 _ _ _ _ _)
      | (with_reducible exact ih6 _ _ _ _ _ _)
      | (with_reducible exact ih7 _ _ _ _ _ _ _)
      | (with_reducible exact ih8 _ _ _ _ _ _ _ _)
      | (with_reducible exact colloquyref03_In.mono _ _ _)
      | (with_reducible exact colloquyref03_both.mono _ _ _)
      | (with_reducible exact colloquyref03_either.mono _ _ _)
      | (with_reducible exact colloquyref03_none.mono _ _)
      | (with_reducible exact colloquyref03_same.mono _ _)
      | (with_reducible exact LeO.refl _)
      | (with_reducible exact LeO.none _)
      | (with_reducible refine LeO.ite ?_ ?_)
      | (with_reducible refine LeO.bind ?_ (fun _ => ?_))
      | exact ih0 _ _ _ _
      | exact ih1 _ _ _ _ _ _
      | exact ih2 _ _ _ _ _
      | exact ih3 _ _ _ _ _
      | exact ih4 _ _ _ _ _ _
      | exact ih5 _ _ _ _ _
      | exact ih6 _ _ _ _ _ _
      | exact ih7 _ _ _ _ _ _ _
      | exact ih8 _ _ _ _ _ _ _ _
      | exact colloquyref03_In.mono _ _ _
      | exact colloquyref03_both.mono _ _ _
      | exact colloquyref03_either.mono _ _ _
      | exact colloquyref03_none.mono _ _
      | exact colloquyref03_same.mono _ _
      | exact LeO.none _
      | refine LeO.ite ?_ ?_
      | refine LeO.bind ?_ (fun _ => ?_)
    · intro y0 y1 y2 y3 y4 y5 y6 y7
      unfold colloquyref03_Table.l4
      repeat' first
      | (with_reducible exact ih0 _ _ _ _)
      | (with_reducible exact ih1 _ _ _ _ _ _)
      | (with_reducible exact ih2 _ _ _ _ _)
      | (with_reducible exact ih3 _ _ _ _ _)
      | (with_reducible exact ih4 _ _ _ _ _ _)
      | (with_reducible exact ih5 _ _ _ _ _)
      | (with_reducible exact ih6 _ _ _ _ _ _)
      | (with_reducible exact ih7 _ _ _ _ _ _ _)
      | (with_reducible exact ih8 _ _ _ _ _ _ _ _)
      | (with_reducible exact colloquyref03_In.mono _ _ _)
      | (with_reducible exact colloquyref03_both.mono _ _ _)
      | (with_reducible exact colloquyref03_either.mono _ _ _)
      | (with_reducible exact colloquyref03_none.mono _ _)
      | (with_reducible exact colloquyref03_same.mono _ _)
      | (with_reducible exact LeO.refl _)
      | (with_reducible exact LeO.none _)
      | (with_reducible refine LeO.ite ?_ ?_)
      | (with_reducible refine LeO.bind ?_ (fun _ => ?_))
      | exact ih0 _ _ _ _
      | exact ih1 _ _ _ _ _ _
      | exact ih2 _ _ _ _ _
      | exact ih3 _ _ _ _ _
      | exact ih4 _ _ _ _ _ _
      | exact ih5 _ _ _ _ _
      | exact ih6 _ _ _ _ _ _
      | exact ih7 _ _ _ _ _ _ _
      | exact ih8 _ _ _ _ _ _ _ _
      | exact colloquyref03_In.mono _ _ _
      | exact colloquyref03_both.mono _ _ _
      | exact colloquyref03_either.mono _ _ _
      | exact colloquyref03_none.mono _ _
      | exact colloquyref03_same.mono _ _
      | exact LeO.none _
      | refine LeO.ite ?_ ?_
      | refine LeO.bind ?_ (fun _ => ?_)
theorem colloquyref03_Table.mono : ∀ a0 a1 a2 a3 k, LeO (colloquyref03_Table.f k a0 a1 a2 a3) (colloquyref03_Table.f (k + 1) a0 a1 a2 a3) := by
  intro a0 a1 a2 a3 k
  obtain ⟨ih0, ih1, ih2, ih3, ih4, ih5, ih6, ih7, ih8⟩ := colloquyref03_Table.mono_l k
  exact ih0 a0 a1 a2 a3
def colloquyref03_Table.T6 : Bool × List (List Nat × List Nat) := (true, [([], []), ([], []), ([0, 1], [0, 1]), ([2], [2]), ([], []), ([4], [4]), ([], []), ([6], [6]), ([], []), ([], []), ([8, 9], [8, 9]), ([10], [10]), ([7, 11], [7, 11]), ([3, 5, 0, 1, 2, 3, 4, 5, 6, 7, 8, 9, 10, 11, 12], [3, 5]), ([13, 12, 12, 0, 1, 2, 3, 4, 5, 6, 7, 8, 9, 10, 11, 12], [12, 13])])
def colloquyref03_Table.B6 : List Nat := [0, 0, 3, 7, 0, 16, 0, 64, 0, 0, 768, 1792, 4032, 8191, 16383]
theorem colloquyref03_Table.tab6 : rtab .any (opsOf Try.f15 6) = colloquyref03_Table.T6 := by kernel_rfl
theorem colloquyref03_Table.bits6 : waitsOk colloquyref03_Table.T6.2 colloquyref03_Table.B6 = true := by kernel_rfl
def colloquyref03_Table.T34 : Bool × List (List Nat × List Nat) := (true, [([], []), ([], []), ([0, 1], [0, 1]), ([2], [2]), ([], []), ([], []), ([], []), ([5, 6], [5, 6]), ([7], [7]), ([], []), ([8, 9], [8, 9]), ([10], [10]), ([11], [11]), ([12], [12]), ([12], [12]), ([13, 14, 12], [12, 13, 14]), ([15, 12], [12, 15]), ([12], [12]), ([16, 17, 12], [12, 16, 17]), ([18, 12], [12, 18]), ([12, 19], [12, 19]), ([3, 4, 0, 1, 2, 3, 4, 5, 6, 7, 8, 9, 10, 11, 12, 13, 14, 15, 16, 17, 18, 19, 20], [3, 4]), ([21, 20, 12, 0, 1, 2, 3, 4, 5, 6, 7, 8, 9, 10, 11, 12, 13, 14, 15, 16, 17, 18, 19, 20], [20, 21])])
def colloquyref03_Table.B34 : List Nat := [0, 0, 3, 7, 0, 0, 0, 96, 224, 0, 992, 2016, 4064, 8160, 8160, 32736, 65504, 8160, 262112, 524256, 1048544, 2097151, 4194303]
theorem colloquyref03_Table.tab34 : rtab .any (opsOf Try.f15 34) = colloquyref03_Table.T34 := by kernel_rfl
theorem colloquyref03_Table.bits34 : waitsOk colloquyref03_Table.T34.2 colloquyref03_Table.B34 = true := by kernel_rfl
set_option maxHeartbeats 8000000 in
set_option maxRecDepth 100000 in
theorem colloquyref03_Table.calls (k : Nat) : ∀ (a0_0 : Int) (A0_1 : Option Addr) (c0_1 : Nat) (l0_1 : List (S64)) (A0_2 : Option Addr) (c0_2 : Nat) (l0_2 : List (S25)) (a1 : ByteArray) (r : List (List Bool)) (w : World) (hr0_1 : Kd.C k64 w A0_1 l0_1.length l0_1) (hc0_1 : l0_1.length ≤ c0_1) (hr0_2 : Kd.C k25 w A0_2 l0_2.length l0_2) (hc0_2 : l0_2.length ≤ c0_2) (h : colloquyref03_Table.f k a0_0 l0_1 l0_2 a1 = some r),
    Calls Try.prog 15 #[.agg #[.int .i64 a0_0, .slice A0_1 l0_1.length c0_1, .slice A0_2 l0_2.length c0_2], .string a1] w fun e w' => ∃ v0_ : Value, e = .returned (v0_) ∧ Kd.S (Kd.slice 4 Kd.bool) 61 w' w.heap.size (fun _ => True) v0_ r ∧ Below w.heap.size w w' := by
  induction k using Nat.strongRecOn with
  | _ k ih =>
  intro a0_0 A0_1 c0_1 l0_1 A0_2 c0_2 l0_2 a1 r w hr0_1 hc0_1 hr0_2 hc0_2 h
  cases k with
  | zero => exact absurd h (by simp [colloquyref03_Table.f])
  | succ k =>
  simp only [colloquyref03_Table.f] at h
  have hu25 := Try.underlying25
  have HR0_1 := Aside0.mk hr0_1
  have HC0_1 := Aside0.mk hc0_1
  clear hr0_1 hc0_1
  have HR0_2 := Aside0.mk hr0_2
  have HC0_2 := Aside0.mk hc0_2
  clear hr0_2 hc0_2
  have HB := Aside0.mk (Below.refl w.heap.size w)
  have H : (if a0_0 = 1 then ((colloquyref03_none.f k (wrap64 ((a1.size : Int) + 1))).bind fun t260 => (colloquyref03_Table.l0 k a1 t260 0 a0_0 l0_1 l0_2)) else (if a0_0 = 2 then (colloquyref03_Table.j1 k a1 true a0_0 l0_1 l0_2) else (colloquyref03_Table.j1 k a1 (a0_0 == 3) a0_0 l0_1 l0_2))) = some r := h
  clear h
  by_cases c3 : a0_0 = 1
  · rw [if_pos c3] at H
    have c3b0 : (a0_0 == 1) = true := beq_iff_eq.mpr c3
    have c3b1 : (a0_0 != 1) = false := bne_eq_false_iff_eq.mpr c3
    clear c3
    replace H := Option.bind_eq_some_iff.mp H
    obtain ⟨t260, A40, H⟩ := H
    replace H : (colloquyref03_Table.l0 k a1 t260 0 a0_0 l0_1 l0_2) = some r := H
    have A4 := Aside0.mk A40
    clear A40
    have H' := Aside0.mk H
    clear H
    go_enter Try.func15, Try.ntmps15
    go_wp2_with (first | ((with_reducible refine gate_dst (N := 2) rfl ?_); (try (refine gate_guard (by rfl) ?_; dsimp only)); refine box_event ?hg (N := 2) ?hd (cs := #[.int .i64 a0_0, .slice A0_1 l0_1.length c0_1, .slice A0_2 l0_2.length c0_2]) (t := 25) ?hr ?_; (case hd => rfl); (case hg => rfl); (case hr => first | (go_simp; done) | (go_simp; rfl)); intro gb259 hg w5 hbox hb; have n0_ := Aside0.mk (below_step (by repeat (first | (with_reducible first | exact HB.out | apply below_alloc | apply pw_below_drewN | apply below_drew1) | exact HB.out)) hb); have n1_ := Aside0.mk (hbox); have n2_ := Aside0.mk ((by rw [hg]; exact (below_size (by repeat (first | (with_reducible first | exact HB.out | apply below_alloc | apply pw_below_drewN | apply below_drew1) | exact HB.out))) : w.heap.size ≤ gb259)); have n3_ := Aside0.mk ((by rw [hg]; exact (below_size (by repeat (first | (with_reducible first | exact HB.out | apply below_alloc | apply pw_below_drewN | apply below_drew1) | exact HB.out))) : w.heap.size ≤ gb259)); clear HB; have HB := n0_; have BK259 := n1_; have GW259 := n2_; have GE259 := n3_; clear n0_ n1_ n2_ n3_; clear hb hbox hg; have hcz6_0 : w5.cell? ⟨gb259, 0, none⟩ = some (.int .i64 a0_0) := (blk_cell BK259.out 0).trans rfl; have hcz6_1 : w5.cell? ⟨gb259, 1, none⟩ = some (.slice A0_1 l0_1.length c0_1) := (blk_cell BK259.out 1).trans rfl; have hcz6_2 : w5.cell? ⟨gb259, 2, none⟩ = some (.slice A0_2 l0_2.length c0_2) := (blk_cell BK259.out 2).trans rfl; have hfz6_0 := blk_frozen BK259.out 0; have hfz6_1 := blk_frozen BK259.out 1; have hfz6_2 := blk_frozen BK259.out 2) | ((with_reducible refine gate_callee (f := 30) rfl ?_); refine goesL_ (some 20) rfl rfl Try.func30 (by kernel_rfl) rfl #[.int .i64 (wrap64 ((a1.size : Int) + 1))] rfl (by (try simp only [List.map_toArray, List.map_cons, List.map_nil]); first | done | rfl | (simp only [List.length_drop, List.length_take]; rfl)) ?_; (with_reducible refine (colloquyref03_none.calls k (wrap64 ((a1.size : Int) + 1)) t260 _ A4.out).mono ?_); rintro e w7 ⟨v261, rfl, ho0, hb⟩; refine ⟨_, rfl, ?_⟩; have n0_ := Aside0.mk (Kd.S_lower ho0 (below_size (by repeat (first | (with_reducible first | exact HB.out | apply below_alloc | apply pw_below_drewN | apply below_drew1 | refine below_set ?_ GE259.out) | exact HB.out)))); have n1_ := Aside0.mk (blk_below (g := gb259) (o := .cells #[.int .i64 a0_0, .slice A0_1 l0_1.length c0_1, .slice A0_2 l0_2.length c0_2] 25 (0, 0)) (by (with_reducible repeat (first | refine blk_drewN ?_ _ | refine blk_drew ?_ | refine blk_alloc ?_ _)); exact BK259.out) hb); have n2_ := Aside0.mk (below_step (by repeat (first | (with_reducible first | exact HB.out | apply below_alloc | apply pw_below_drewN | apply below_drew1 | refine below_set ?_ GE259.out) | exact HB.out)) hb); clear BK259; clear HB; have HO262 := n0_; have BK259 := n1_; have HB := n2_; clear n0_ n1_ n2_; (try clear hb); (try clear hb2); (try clear hk); (try clear hi); (try clear ho0)))
    go_loopg [6] k (fun kq v6 w' => ∃ (x5_1 : List (List Bool)) (x6_1 : Int), v6 = .int .i64 x6_1 ∧ Aside0 (colloquyref03_Table.l0 kq a1 x5_1 x6_1 a0_0 l0_1 l0_2 = some r) ∧ Aside0 (kq ≤ k) ∧ Aside0 (Kd.S (Kd.slice 4 Kd.bool) 61 w' w.heap.size (fun _ => True) v261 x5_1) ∧ Aside0 (w'.heap[gb259]? = some (.cells #[.int .i64 a0_0, (.slice A0_1 l0_1.length c0_1), (.slice A0_2 l0_2.length c0_2)] 25 (0, 0))) ∧ Aside0 (Below w.heap.size w w'))
    case atStart => exact ⟨(t260), (0), (by first | rfl | (simp; done) | (simp [*]; done)), H', ⟨Nat.le_refl _⟩, ⟨by (with_reducible repeat (first | apply Kd.S_alloc | apply Kd.S_drewN | apply Kd.S_drew)); exact HO262.out⟩, ⟨by (with_reducible repeat (first | refine blk_drewN ?_ _ | refine blk_drew ?_ | refine blk_alloc ?_ _)); exact BK259.out⟩, ⟨by repeat (first | (with_reducible first | exact HB.out | apply below_alloc | apply pw_below_drewN | apply below_drew1 | refine below_set ?_ GE259.out) | exact HB.out)⟩⟩
    case round =>
      clear H'
      try clear c1
      try clear p2
      try clear c3
      try clear c3b0
      try clear c3b1
      try clear p6
      try clear hcz6_0
      try clear hcz6_1
      try clear hcz6_2
      try clear hfz6_0
      try clear hfz6_1
      try clear hfz6_2
      obtain ⟨x5_1, x6_1, rfl, HA, HK1, HO_5, BK259, HB⟩ := hrel
      cases gk with
      | zero => exact absurd HA.out (by simp [colloquyref03_Table.l0])
      | succ k1 =>
        have H := HA.out
        clear HA
        simp only [colloquyref03_Table.l0] at H
        by_cases c8 : x6_1 < (a1.size : Int)
        · rw [if_pos c8] at H
          have c8b0 : decide (x6_1 < (a1.size : Int)) = true := decide_eq_true c8
          clear c8
          by_cases c9 : 0 ≤ x6_1
          · rw [if_pos c9] at H
            have c9b0 : decide (0 ≤ x6_1) = true := decide_eq_true c9
            clear c9
            by_cases c10 : x6_1 < (x5_1.length : Int)
            · rw [if_pos c10] at H
              have c10b0 : decide (x6_1 < (x5_1.length : Int)) = true := decide_eq_true c10
              clear c10
              replace H := Option.bind_eq_some_iff.mp H
              obtain ⟨t264, A120, H⟩ := H
              replace H : (if 0 ≤ (wrap64 (x6_1 + 1)) then (if (wrap64 (x6_1 + 1)) < ((rd_L6 x5_1 x6_1).length : Int) then (colloquyref03_Table.l0 k1 a1 (x5_1.set (x6_1 : Int).toNat ((rd_L6 x5_1 x6_1).set ((wrap64 (x6_1 + 1)) : Int).toNat t264)) (wrap64 (x6_1 + 1)) a0_0 l0_1 l0_2) else (none)) else (none)) = some r := H
              have A12 := Aside0.mk A120
              clear A120
              obtain ⟨ji13, hji13⟩ : ∃ j_ : Int, (wrap64 (x6_1 + 1)) = j_ := ⟨_, rfl⟩
              replace H : (if 0 ≤ (ji13) then (if (ji13) < ((rd_L6 x5_1 x6_1).length : Int) then (colloquyref03_Table.l0 k1 a1 (x5_1.set (x6_1 : Int).toNat ((rd_L6 x5_1 x6_1).set ((ji13) : Int).toNat t264)) ji13 a0_0 l0_1 l0_2) else (none)) else (none)) = some r := by first | (rw [hji13] at H; exact H) | (simp only [hji13] at H ⊢; exact H)
              (try rw [hji13] at A12)
              have hji13w : (IntKind.i64.wrap (x6_1 + 1)) = ji13 := (i64_w _).trans hji13
              by_cases c14 : 0 ≤ (ji13)
              · rw [if_pos c14] at H
                have c14b0 : decide (0 ≤ (ji13)) = true := decide_eq_true c14
                clear c14
                by_cases c15 : (ji13) < ((rd_L6 x5_1 x6_1).length : Int)
                · rw [if_pos c15] at H
                  have c15b0 : decide ((ji13) < ((rd_L6 x5_1 x6_1).length : Int)) = true := decide_eq_true c15
                  clear c15
                  obtain ⟨y265, hy265⟩ : ∃ y_ : List Bool, y_ = ((rd_L6 x5_1 x6_1).set ((ji13) : Int).toNat t264) := ⟨_, rfl⟩
                  replace H : (colloquyref03_Table.l0 k1 a1 (x5_1.set (x6_1 : Int).toNat y265) ji13 a0_0 l0_1 l0_2) = some r := by first | (rw [hy265]; with_reducible exact H) | (have H2_ := (Option.bind_some _ _).symm.trans H; rw [hy265]; with_reducible exact H2_) | (have H2_ := (Option.bind_some _ _).symm.trans H; with_reducible exact H2_) | with_reducible exact H | (rw [hy265]; exact H) | exact H
                  have Ny265 := Aside0.mk hy265
                  clear hy265
                  obtain ⟨y267, hy267⟩ : ∃ y_ : List (List Bool), y_ = (x5_1.set (x6_1 : Int).toNat y265) := ⟨_, rfl⟩
                  replace H : (colloquyref03_Table.l0 k1 a1 y267 ji13 a0_0 l0_1 l0_2) = some r := by first | (rw [hy267]; with_reducible exact H) | (have H2_ := (Option.bind_some _ _).symm.trans H; rw [hy267]; with_reducible exact H2_) | (have H2_ := (Option.bind_some _ _).symm.trans H; with_reducible exact H2_) | with_reducible exact H | (rw [hy267]; exact H) | exact H
                  have Ny267 := Aside0.mk hy267
                  clear hy267
                  have H' := Aside0.mk H
                  clear H
                  try go_wp2
                  have n0_ := Aside0.mk (Kd.S_drew HO_5.out)
                  have n1_ := Aside0.mk (blk_drew BK259.out)
                  have n2_ := Aside0.mk (below_drew1 HB.out)
                  clear HO_5
                  clear BK259
                  clear HB
                  have HO_5 := n0_
                  have BK259 := n1_
                  have HB := n2_
                  clear n0_ n1_ n2_
                  obtain ⟨Ao18, co18, eo18⟩ := Kd.S_slice HO_5.out
                  (first | subst eo18 | (injection eo18 with f1_ f2_ f3_; have f4_ := f1_.symm; have f5_ := f3_.symm; clear f1_ f2_ f3_; subst f4_; subst f5_))
                  have p263 : 0 ≤ (x6_1 : Int) := of_decide_eq_true (by first | (with_reducible assumption) | assumption)
                  have q263 : x6_1 < (x5_1.length : Int) := of_decide_eq_true (by first | (with_reducible assumption) | assumption)
                  obtain ⟨ad263, A263_0, c263_0, e263, hx263_0, hl263_0, hi263_0⟩ := at_L6 (Kd.S_reads' HO_5.out).2.2 x6_1 p263 q263
                  cases e263
                  obtain ⟨ce263, hce263, hMe263, hcc263⟩ := Kd.S_get HO_5.out [] x6_1 p263 (by first | exact q263 | exact of_decide_eq_true (by first | (with_reducible assumption) | assumption) | (have e_ := (Kd.S_reads' HO_5.out).1; omega))
                  obtain ⟨ve263_0, rfl, ge263_0⟩ := hMe263
                  have hv263_0 := hcc263 0 _ rfl
                  rw [Nat.add_zero, show ((Kd.slice 4 Kd.bool)).sz = 1 from rfl, Nat.mul_one] at hv263_0
                  replace hv263_0 := Option.some.inj (hv263_0.symm.trans hx263_0)
                  rw [hv263_0] at ge263_0
                  have HL263_0 := Aside0.mk (show Kd.R Kd.bool 4 _ _ _ _ (rd_L6 x5_1 x6_1) from ge263_0)
                  clear hv263_0 ge263_0
                  have HX263_0 := Aside0.mk hx263_0
                  clear hcc263 hce263
                  have HR263_0 := Aside0.mk hi263_0
                  have HC263_0 := Aside0.mk hl263_0
                  clear hi263_0 hl263_0
                  replace p263 := eq_true p263
                  replace q263 := eq_true q263
                  have p11 : 0 ≤ (x6_1 : Int) := of_decide_eq_true (by first | (with_reducible assumption) | assumption)
                  have q11 : x6_1 < (a1.size : Int) := of_decide_eq_true (by first | (with_reducible assumption) | assumption)
                  have hx11 := bt_at a1 x6_1
                  replace p11 := eq_true p11
                  replace q11 := eq_true q11
                  refine start_ (n := 15) (S := fun w' => w'.cell? ⟨gb259, 0, none⟩ = some (.int .i64 a0_0) ∧ w'.cell? ⟨gb259, 1, none⟩ = some (.slice A0_1 l0_1.length c0_1) ∧ w'.cell? ⟨gb259, 2, none⟩ = some (.slice A0_2 l0_2.length c0_2) ∧ w'.cell? (ad263.add (x6_1).toNat) = some (.slice A263_0 (rd_L6 x5_1 x6_1).length c263_0)) (ds := [14]) #[false, false, false, false, false, false, false, false, false, false, false, false, false, false, false] (by kernel_rfl) rfl rfl ⟨(blk_cell BK259.out 0).trans rfl, (blk_cell BK259.out 1).trans rfl, (blk_cell BK259.out 2).trans rfl, hx263_0⟩ (fun hHeld => ?_); refine with_tabW colloquyref03_Table.tab6 colloquyref03_Table.bits6 (fun HT_ HW_ => ?_)
                  generalize wr.drew = w17 at HO_5 BK259 HB HL263_0 HR263_0 HX263_0 hx263_0 hHeld ⊢
                  refine pure_ (i := 0) (N := some 27) (v := ?_) (a' := ?_) #[true, false, false, false, false, false, false, false, false, false, false, false, false, false, false] rfl rfl (any_of HT_.out (by kernel_rfl)) (fun _ _ _ h => h) (Or.inl ⟨by rfl, ?_⟩) ?_ ?_
                  rotate_left
                  · intro w'
                    go_simp
                    with_reducible rfl
                  rotate_left
                  · simp only [Act.put, List.setIfInBounds_toArray, List.set_cons_zero, List.set_cons_succ, i64_w, i32_w]
                    rfl
                  refine pure_ (i := 1) (N := some 28) (v := ?_) (a' := ?_) #[true, true, false, false, false, false, false, false, false, false, false, false, false, false, false] rfl rfl (any_of HT_.out (by kernel_rfl)) (fun _ _ _ h => h) (Or.inl ⟨by rfl, ?_⟩) ?_ ?_
                  rotate_left
                  · intro w'
                    go_simp
                    with_reducible rfl
                  rotate_left
                  · simp only [Act.put, List.setIfInBounds_toArray, List.set_cons_zero, List.set_cons_succ, i64_w, i32_w]
                    rfl
                  refine pure_ (i := 2) (N := some 29) (v := ?_) (a' := ?_) #[true, true, true, false, false, false, false, false, false, false, false, false, false, false, false] rfl rfl (any_of HT_.out (by kernel_rfl)) (fun _ _ _ h => h) (Or.inl ⟨by rfl, ?_⟩) ?_ ?_
                  rotate_left
                  · intro w'
                    go_simp
                    with_reducible rfl
                  rotate_left
                  · simp only [Act.put, List.setIfInBounds_toArray, List.set_cons_zero, List.set_cons_succ, i64_w, i32_w]
                    rfl
                  refine pure_ (i := 4) (N := some 31) (v := ?_) (a' := ?_) #[true, true, true, false, true, false, false, false, false, false, false, false, false, false, false] rfl rfl (any_of HT_.out (by kernel_rfl)) (fun _ _ _ h => h) (Or.inl ⟨by rfl, ?_⟩) ?_ ?_
                  rotate_left
                  · intro w'
                    go_simp
                    with_reducible rfl
                  rotate_left
                  · simp only [Act.put, List.setIfInBounds_toArray, List.set_cons_zero, List.set_cons_succ, i64_w, i32_w]
                    rfl
                  refine pure_ (i := 5) (N := some 32) (v := ?_) (a' := ?_) #[true, true, true, false, true, true, false, false, false, false, false, false, false, false, false] rfl rfl (any_of HT_.out (by kernel_rfl)) (fun _ _ _ h => h) (Or.inl ⟨by rfl, ?_⟩) ?_ ?_
                  rotate_left
                  · intro w'
                    go_simp
                    with_reducible rfl
                  rotate_left
                  · simp only [Act.put, List.setIfInBounds_toArray, List.set_cons_zero, List.set_cons_succ, i64_w, i32_w]
                    rfl
                  refine pure_ (i := 6) (N := some 33) (v := ?_) (a' := ?_) #[true, true, true, false, true, true, true, false, false, false, false, false, false, false, false] rfl rfl (any_of HT_.out (by kernel_rfl)) (fun _ _ _ h => h) (Or.inl ⟨by rfl, ?_⟩) ?_ ?_
                  rotate_left
                  · intro w'
                    go_simp
                    with_reducible rfl
                  rotate_left
                  · simp only [Act.put, List.setIfInBounds_toArray, List.set_cons_zero, List.set_cons_succ, i64_w, i32_w]
                    rfl
                  refine pure_ (i := 8) (N := some 35) (v := ?_) (a' := ?_) #[true, true, true, false, true, true, true, false, true, false, false, false, false, false, false] rfl rfl (any_of HT_.out (by kernel_rfl)) (fun _ _ _ h => h) (Or.inl ⟨by rfl, ?_⟩) ?_ ?_
                  rotate_left
                  · intro w'
                    go_simp
                    with_reducible rfl
                  rotate_left
                  · simp only [Act.put, List.setIfInBounds_toArray, List.set_cons_zero, List.set_cons_succ, i64_w, i32_w]
                    rfl
                  refine pure_ (i := 9) (N := some 36) (v := ?_) (a' := ?_) #[true, true, true, false, true, true, true, false, true, true, false, false, false, false, false] rfl rfl (any_of HT_.out (by kernel_rfl)) (fun _ _ _ h => h) (Or.inl ⟨by rfl, ?_⟩) ?_ ?_
                  rotate_left
                  · intro w'
                    go_simp
                    with_reducible rfl
                  rotate_left
                  · simp only [Act.put, List.setIfInBounds_toArray, List.set_cons_zero, List.set_cons_succ, i64_w, i32_w]
                    rfl
                  refine take_ (i := 3) (N := some 30) (v := ?_) (a' := ?_) #[true, true, true, true, true, true, true, false, true, true, false, false, false, false, false] rfl rfl (take_ofW HT_.out HW_.out (by kernel_rfl)) (fun _ _ _ h => h) (Or.inl ⟨by rfl, ?_⟩) hHeld ?_ ?_
                  rotate_left
                  · rintro w' ⟨s0, s1, s2, s3⟩
                    go_simp
                    with_reducible rfl
                  rotate_left
                  · simp only [Act.put, List.setIfInBounds_toArray, List.set_cons_zero, List.set_cons_succ, i64_w, i32_w]
                    rfl
                  refine take_ (i := 7) (N := some 34) (v := ?_) (a' := ?_) #[true, true, true, true, true, true, true, true, true, true, false, false, false, false, false] rfl rfl (take_ofW HT_.out HW_.out (by kernel_rfl)) (fun _ _ _ h => h) (Or.inl ⟨by rfl, ?_⟩) hHeld ?_ ?_
                  rotate_left
                  · rintro w' ⟨s0, s1, s2, s3⟩
                    go_simp
                    with_reducible rfl
                  rotate_left
                  · simp only [Act.put, List.setIfInBounds_toArray, List.set_cons_zero, List.set_cons_succ, i64_w, i32_w]
                    rfl
                  refine take_ (i := 10) (N := some 37) (v := ?_) (a' := ?_) #[true, true, true, true, true, true, true, true, true, true, true, false, false, false, false] rfl rfl (take_ofW HT_.out HW_.out (by kernel_rfl)) (fun _ _ _ h => h) (Or.inl ⟨by rfl, ?_⟩) hHeld ?_ ?_
                  rotate_left
                  · rintro w' ⟨s0, s1, s2, s3⟩
                    go_simp
                    with_reducible rfl
                  rotate_left
                  · simp only [Act.put, List.setIfInBounds_toArray, List.set_cons_zero, List.set_cons_succ, i64_w, i32_w]
                    rfl
                  refine pure_ (i := 11) (N := some 38) (v := ?_) (a' := ?_) #[true, true, true, true, true, true, true, true, true, true, true, true, false, false, false] rfl rfl (any_of HT_.out (by kernel_rfl)) (fun _ _ _ h => h) (Or.inl ⟨by rfl, ?_⟩) ?_ ?_
                  rotate_left
                  · intro w'
                    go_simp
                    with_reducible rfl
                  rotate_left
                  · simp only [Act.put, List.setIfInBounds_toArray, List.set_cons_zero, List.set_cons_succ, i64_w, i32_w]
                    rfl
                  refine one_ (i := 12) (N := some 39) #[true, true, true, true, true, true, true, true, true, true, true, true, true, false, false] rfl rfl (one_of HT_.out (by kernel_rfl)) (by decide) (fun K hK => ?_)
                  refine goes_ Try.func31 (by kernel_rfl) rfl #[.slice A0_1 l0_1.length c0_1, .int .i64 (wrap64 (bt a1 x6_1))] (by rfl) rfl rfl (by (try simp only [List.map_toArray, List.map_cons, List.map_nil]); first | done | rfl | (simp only [List.length_drop, List.length_take]; rfl)) ?_
                  with_reducible refine (colloquyref03_In.calls k1 _ _ l0_1 (wrap64 (bt a1 x6_1)) t264 _ ?side1 ?side2 A12.out).mono ?_
                  (case side1 => repeat (first | exact (Kd.C_below HR0_1.out HB.out) | (with_reducible refine Kd.C_alloc ?_ _) | (with_reducible refine Kd.C_drewN ?_ _) | (with_reducible refine Kd.C_drew ?_)))
                  (case side2 => exact HC0_1.out)
                  rintro e w' ⟨rfl, ⟨nd, rfl⟩⟩
                  refine ⟨_, rfl, ?_⟩
                  have p16 : 0 ≤ ((ji13) : Int) := of_decide_eq_true (by first | (with_reducible assumption) | assumption)
                  have q16 : ((ji13) : Int) < (((rd_L6 x5_1 x6_1).length : Int) : Int) := of_decide_eq_true (by first | (with_reducible assumption) | assumption)
                  obtain ⟨go16, co16, eo16, gb16, gl16, cl16, HG16⟩ := Kd.R_form HL263_0.out (by omega)
                  (first | cases eo16 | (injection eo16 with ea_ en_ ec_; (first | subst ea_ | (injection ea_ with ea_; subst ea_)); subst ec_; clear en_))
                  have GB16 := Aside0.mk gb16
                  have GG16 := Aside0.mk HG16
                  clear gb16 gl16 HG16
                  obtain ⟨hx16_0, hf16_0⟩ := Kd.R_celln false HL263_0.out ((ji13) : Int) p16 q16
                  replace p16 := eq_true p16
                  replace q16 := eq_true q16
                  have hq19 : (x6_1 : Int) < (x5_1.length : Int) := (by have h_ : (x6_1 : Int) < ((x5_1.length : Int) : Int) := of_decide_eq_true (by first | (with_reducible assumption) | assumption); first | exact h_ | (have e_ := (Kd.S_reads' HO_5.out).1; omega) | simpa only [List.length_set, List.length_set] using h_)
                  obtain ⟨oki19, ce19, hcl19, hM19, hcc19, hok19, hbk19⟩ := Kd.S_borrow HO_5.out [] (x6_1 : Int) (of_decide_eq_true (by first | (with_reducible assumption) | assumption)) hq19
                  obtain ⟨ve19_0, rfl, ge19_0⟩ := hM19
                  have hv19 := hcc19 0 _ rfl
                  rw [Nat.add_zero, show ((Kd.slice 4 Kd.bool)).sz = 1 from rfl, Nat.mul_one] at hv19
                  replace hv19 := Option.some.inj (hv19.symm.trans HX263_0.out)
                  subst hv19
                  clear hcc19 hcl19
                  replace ge19_0 := (show Kd.R Kd.bool 4 _ _ _ _ (rd_L6 x5_1 x6_1) from ge19_0)
                  have HP19 := Kd.R_putg ge19_0 ((ji13) : Int) t264
                  rw [← Ny265.out] at HP19
                  have HS19 := hbk19 HP19.2 (fun k_ e_ => by injection e_ with e_; subst e_; exact ge19_0.1 _ rfl) (x' := y265) (Kd.M_row HP19.1)
                  rw [← Ny267.out] at HS19
                  have HQ19 := Aside0.mk HS19
                  clear HP19 HS19 hbk19 hok19
                  refine hK.out _ _ ⟨(blk_cell BK259.out 0).trans rfl, (blk_cell BK259.out 1).trans rfl, (blk_cell BK259.out 2).trans rfl, hHeld.2.2.2⟩ (fun hHeld => ?_)
                  clear hK K
                  refine norm_ (a' := ?_) ?_ ?_
                  rotate_left
                  · show Act.put _ (some 39) _ = _
                    simp only [Act.put, List.setIfInBounds_toArray, List.set_cons_zero, List.set_cons_succ, i64_w, i32_w]
                    rfl
                  refine pure_ (i := 13) (N := some 40) (v := ?_) (a' := ?_) #[true, true, true, true, true, true, true, true, true, true, true, true, true, true, false] rfl rfl (any_of HT_.out (by kernel_rfl)) (fun _ _ _ h => h) (Or.inl ⟨by rfl, ?_⟩) ?_ ?_
                  rotate_left
                  · intro w'
                    go_simp
                    with_reducible rfl
                  rotate_left
                  · simp only [Act.put, List.setIfInBounds_toArray, List.set_cons_zero, List.set_cons_succ, i64_w, i32_w]
                    rfl
                  refine last_ (i := 14) (N := none) #[true, true, true, true, true, true, true, true, true, true, true, true, true, true, true] rfl rfl (one_of HT_.out (by kernel_rfl)) (by decide) (fun K hK => ?_)
                  refine skip_ (w1 := ?_) (by rfl) rfl ?_ ?_
                  rotate_left
                  · go_simp
                    rfl
                  refine hK.out _ _ ?_
                  clear hK K
                  refine done_ (done_of HT_.out (by kernel_rfl)) ?_
                  try go_wp2
                  go_roundg k1
                  case measure => have := HK1.out; omega
                  case rel => exact ⟨(y267), (ji13), (by first | rfl | (simp; done) | (simp only [← hji13] <;> (first | rfl | simp)) | (simp [*]; done)), H', ⟨by have := HK1.out; omega⟩, ⟨by (with_reducible repeat (first | apply Kd.S_alloc | apply Kd.S_drewN | apply Kd.S_drew)); exact HQ19.out⟩, ⟨by (with_reducible repeat (first | refine blk_drewN ?_ _ | refine blk_drew ?_ | refine blk_alloc ?_ _)); refine blk_far ?_ (by have h_ := Kd.R_ne HL263_0.out BK259.out (by decide); intro e_; exact h_ (by rw [e_]; rfl)) _; (with_reducible repeat (first | refine blk_drewN ?_ _ | refine blk_drew ?_ | refine blk_alloc ?_ _)); exact BK259.out⟩, ⟨by repeat (first | (with_reducible first | exact HB.out | apply below_alloc | apply pw_below_drewN | apply below_drew1 | refine below_set ?_ GB16.out | refine below_set ?_ GE259.out) | exact HB.out)⟩⟩
                · rw [if_neg c15] at H
                  exact absurd H (by simp)
              · rw [if_neg c14] at H
                exact absurd H (by simp)
            · rw [if_neg c10] at H
              exact absurd H (by simp)
          · rw [if_neg c9] at H
            exact absurd H (by simp)
        · rw [if_neg c8] at H
          have c8b0 : decide (x6_1 < (a1.size : Int)) = false := decide_eq_false c8
          clear c8
          obtain rfl := Option.some.inj H
          go_wp2
          go_ret
          exact ⟨_, by first | rfl | (simp [errW_none, errW_some] <;> rfl) | (simp [*, errW_none, errW_some] <;> rfl), by (with_reducible repeat (first | apply Kd.S_alloc | apply Kd.S_drewN | apply Kd.S_drew)); exact HO_5.out, by repeat (first | (with_reducible first | exact HB.out | apply below_alloc | apply pw_below_drewN | apply below_drew1 | refine below_set ?_ GE259.out) | exact HB.out)⟩
  · rw [if_neg c3] at H
    have c3b0 : (a0_0 == 1) = false := beq_eq_false_iff_ne.mpr c3
    have c3b1 : (a0_0 != 1) = true := bne_iff_ne.mpr c3
    have HC21 := Aside0.mk H
    clear H
    go_enter Try.func15, Try.ntmps15
    go_upto_region 8 with (first | ((with_reducible refine gate_dst (N := 2) rfl ?_); (try (refine gate_guard (by rfl) ?_; dsimp only)); refine box_event ?hg (N := 2) ?hd (cs := #[.int .i64 a0_0, .slice A0_1 l0_1.length c0_1, .slice A0_2 l0_2.length c0_2]) (t := 25) ?hr ?_; (case hd => rfl); (case hg => rfl); (case hr => first | (go_simp; done) | (go_simp; rfl)); intro gb259 hg w22 hbox hb; have n0_ := Aside0.mk (below_step (by repeat (first | (with_reducible first | exact HB.out | apply below_alloc | apply pw_below_drewN | apply below_drew1) | exact HB.out)) hb); have n1_ := Aside0.mk (hbox); have n2_ := Aside0.mk ((by rw [hg]; exact (below_size (by repeat (first | (with_reducible first | exact HB.out | apply below_alloc | apply pw_below_drewN | apply below_drew1) | exact HB.out))) : w.heap.size ≤ gb259)); have n3_ := Aside0.mk ((by rw [hg]; exact (below_size (by repeat (first | (with_reducible first | exact HB.out | apply below_alloc | apply pw_below_drewN | apply below_drew1) | exact HB.out))) : w.heap.size ≤ gb259)); clear HB; have HB := n0_; have BK259 := n1_; have GW259 := n2_; have GE259 := n3_; clear n0_ n1_ n2_ n3_; clear hb hbox hg; have hcz23_0 : w22.cell? ⟨gb259, 0, none⟩ = some (.int .i64 a0_0) := (blk_cell BK259.out 0).trans rfl; have hcz23_1 : w22.cell? ⟨gb259, 1, none⟩ = some (.slice A0_1 l0_1.length c0_1) := (blk_cell BK259.out 1).trans rfl; have hcz23_2 : w22.cell? ⟨gb259, 2, none⟩ = some (.slice A0_2 l0_2.length c0_2) := (blk_cell BK259.out 2).trans rfl; have hfz23_0 := blk_frozen BK259.out 0; have hfz23_1 := blk_frozen BK259.out 1; have hfz23_2 := blk_frozen BK259.out 2))
    (try simp only [Act.put, List.setIfInBounds_toArray, List.set_cons_zero, List.set_cons_succ])
    go_cut [49] (fun v49 wc => ∃ (kq : Nat) (x49_20 : Bool), v49 = .bool x49_20 ∧ Aside0 (colloquyref03_Table.j1 kq a1 x49_20 a0_0 l0_1 l0_2 = some r) ∧ Aside0 (kq ≤ k) ∧ Aside0 (wc.heap[gb259]? = some (.cells #[.int .i64 a0_0, (.slice A0_1 l0_1.length c0_1), (.slice A0_2 l0_2.length c0_2)] 25 (0, 0))) ∧ Aside0 (Below w.heap.size w wc))
    case first =>
      have H := HC21.out
      clear HC21
      by_cases c24 : a0_0 = 2
      · rw [if_pos c24] at H
        have c24b0 : (a0_0 == 2) = true := beq_iff_eq.mpr c24
        have c24b1 : (a0_0 != 2) = false := bne_eq_false_iff_eq.mpr c24
        clear c24
        (first | rw [c24b0] | (simp only [i64_w, i32_w]; rw [c24b0]) | skip)
        have H' := Aside0.mk H
        clear H
        have hcz25_0 : w22.cell? ⟨gb259, 0, none⟩ = some (.int .i64 a0_0) := (blk_cell BK259.out 0).trans rfl
        have hcz25_1 : w22.cell? ⟨gb259, 1, none⟩ = some (.slice A0_1 l0_1.length c0_1) := (blk_cell BK259.out 1).trans rfl
        have hcz25_2 : w22.cell? ⟨gb259, 2, none⟩ = some (.slice A0_2 l0_2.length c0_2) := (blk_cell BK259.out 2).trans rfl
        have hfz25_0 := blk_frozen BK259.out 0
        have hfz25_1 := blk_frozen BK259.out 1
        have hfz25_2 := blk_frozen BK259.out 2
        go_wp2
        go_meet
        case rel => exact ⟨_, (true), (by first | rfl | (simp; done) | (simp [*]; done)), H', ⟨by first | omega | exact Nat.le_refl _⟩, ⟨by (with_reducible repeat (first | refine blk_drewN ?_ _ | refine blk_drew ?_ | refine blk_alloc ?_ _)); exact BK259.out⟩, ⟨by repeat (first | (with_reducible first | exact HB.out | apply below_alloc | apply pw_below_drewN | apply below_drew1 | refine below_set ?_ GE259.out) | exact HB.out)⟩⟩
      · rw [if_neg c24] at H
        have c24b0 : (a0_0 == 2) = false := beq_eq_false_iff_ne.mpr c24
        have c24b1 : (a0_0 != 2) = true := bne_iff_ne.mpr c24
        (first | rw [c24b0] | (simp only [i64_w, i32_w]; rw [c24b0]) | skip)
        have H' := Aside0.mk H
        clear H
        have hcz26_0 : w22.cell? ⟨gb259, 0, none⟩ = some (.int .i64 a0_0) := (blk_cell BK259.out 0).trans rfl
        have hcz26_1 : w22.cell? ⟨gb259, 1, none⟩ = some (.slice A0_1 l0_1.length c0_1) := (blk_cell BK259.out 1).trans rfl
        have hcz26_2 : w22.cell? ⟨gb259, 2, none⟩ = some (.slice A0_2 l0_2.length c0_2) := (blk_cell BK259.out 2).trans rfl
        have hfz26_0 := blk_frozen BK259.out 0
        have hfz26_1 := blk_frozen BK259.out 1
        have hfz26_2 := blk_frozen BK259.out 2
        go_wp2
        go_meet
        case rel => exact ⟨_, ((a0_0 == 3)), (by first | rfl | (simp; done) | (simp [*]; done)), H', ⟨by first | omega | exact Nat.le_refl _⟩, ⟨by (with_reducible repeat (first | refine blk_drewN ?_ _ | refine blk_drew ?_ | refine blk_alloc ?_ _)); exact BK259.out⟩, ⟨by repeat (first | (with_reducible first | exact HB.out | apply below_alloc | apply pw_below_drewN | apply below_drew1 | refine below_set ?_ GE259.out) | exact HB.out)⟩⟩
    case rest =>
      clear HC21
      try clear c1
      try clear p1
      try clear q1
      try clear hx1
      try clear c2
      try clear p2
      try clear q2
      try clear hx2
      try clear c3
      try clear c3b0
      try clear c3b1
      try clear p6
      try clear c8
      try clear c8b0
      try clear c9
      try clear c9b0
      try clear c10
      try clear c10b0
      try clear p11
      try clear q11
      try clear hx11
      try clear c14
      try clear c14b0
      try clear c15
      try clear c15b0
      try clear p16
      try clear q16
      try clear hx16
      try clear hf16
      try clear c19
      try clear q19
      try clear c24
      try clear c24b0
      try clear c24b1
      try clear c26
      try clear p26
      try clear q26
      try clear hx26
      try clear hcz23_0
      try clear hcz23_1
      try clear hcz23_2
      try clear hcz25_0
      try clear hcz25_1
      try clear hcz25_2
      try clear hcz26_0
      try clear hcz26_1
      try clear hcz26_2
      try clear hcz6_0
      try clear hcz6_1
      try clear hcz6_2
      try clear hfz23_0
      try clear hfz23_1
      try clear hfz23_2
      try clear hfz25_0
      try clear hfz25_1
      try clear hfz25_2
      try clear hfz26_0
      try clear hfz26_1
      try clear hfz26_2
      try clear hfz6_0
      try clear hfz6_1
      try clear hfz6_2
      try clear hx16_0
      try clear hx263_0
      try clear p11
      try clear p16
      try clear p2
      try clear p263
      try clear p6
      try clear q11
      try clear q16
      try clear q263
      obtain ⟨kq, x49_20, rfl, HA, HJ20, BK259, HB⟩ := hcut
      cases kq with
      | zero => exact absurd HA.out (by simp [colloquyref03_Table.j1])
      | succ kj20 =>
        have H := HA.out
        clear HA
        simp only [colloquyref03_Table.j1] at H
        by_cases c27 : x49_20 = true
        · subst c27
          have H1 : ((colloquyref03_none.f kj20 (wrap64 ((a1.size : Int) + 1))).bind fun t268 => (if a0_0 = 2 then ((colloquyref03_same.f kj20 (wrap64 ((a1.size : Int) + 1))).bind fun t271 => (colloquyref03_Table.j2 kj20 a1 t271 a0_0 l0_1 l0_2)) else (colloquyref03_Table.j2 kj20 a1 t268 a0_0 l0_1 l0_2))) = some r := by rw [if_pos rfl] at H; exact H
          clear H
          have H := H1
          clear H1
          replace H := Option.bind_eq_some_iff.mp H
          obtain ⟨t268, A280, H⟩ := H
          replace H : (if a0_0 = 2 then ((colloquyref03_same.f kj20 (wrap64 ((a1.size : Int) + 1))).bind fun t271 => (colloquyref03_Table.j2 kj20 a1 t271 a0_0 l0_1 l0_2)) else (colloquyref03_Table.j2 kj20 a1 t268 a0_0 l0_1 l0_2)) = some r := H
          have A28 := Aside0.mk A280
          clear A280
          have HC29 := Aside0.mk H
          clear H
          go_upto_if 56 with (first | ((with_reducible refine gate_callee (f := 30) rfl ?_); refine goesL_ (some 53) rfl rfl Try.func30 (by kernel_rfl) rfl #[.int .i64 (wrap64 ((a1.size : Int) + 1))] rfl (by (try simp only [List.map_toArray, List.map_cons, List.map_nil]); first | done | rfl | (simp only [List.length_drop, List.length_take]; rfl)) ?_; (with_reducible refine (colloquyref03_none.calls kj20 (wrap64 ((a1.size : Int) + 1)) t268 _ A28.out).mono ?_); rintro e w30 ⟨v269, rfl, ho0, hb⟩; refine ⟨_, rfl, ?_⟩; have n0_ := Aside0.mk (Kd.S_lower ho0 (below_size (by repeat (first | (with_reducible first | exact HB.out | apply below_alloc | apply pw_below_drewN | apply below_drew1 | refine below_set ?_ GE259.out) | exact HB.out)))); have n1_ := Aside0.mk (blk_below (g := gb259) (o := .cells #[.int .i64 a0_0, .slice A0_1 l0_1.length c0_1, .slice A0_2 l0_2.length c0_2] 25 (0, 0)) (by (with_reducible repeat (first | refine blk_drewN ?_ _ | refine blk_drew ?_ | refine blk_alloc ?_ _)); exact BK259.out) hb); have n2_ := Aside0.mk (below_step (by repeat (first | (with_reducible first | exact HB.out | apply below_alloc | apply pw_below_drewN | apply below_drew1 | refine below_set ?_ GE259.out) | exact HB.out)) hb); clear BK259; clear HB; have HO270 := n0_; have BK259 := n1_; have HB := n2_; clear n0_ n1_ n2_; (try clear hb); (try clear hb2); (try clear hk); (try clear hi); (try clear ho0); have hcz31_0 : w30.cell? ⟨gb259, 0, none⟩ = some (.int .i64 a0_0) := (blk_cell BK259.out 0).trans rfl; have hcz31_1 : w30.cell? ⟨gb259, 1, none⟩ = some (.slice A0_1 l0_1.length c0_1) := (blk_cell BK259.out 1).trans rfl; have hcz31_2 : w30.cell? ⟨gb259, 2, none⟩ = some (.slice A0_2 l0_2.length c0_2) := (blk_cell BK259.out 2).trans rfl; have hfz31_0 := blk_frozen BK259.out 0; have hfz31_1 := blk_frozen BK259.out 1; have hfz31_2 := blk_frozen BK259.out 2))
          (try simp only [Act.put, List.setIfInBounds_toArray, List.set_cons_zero, List.set_cons_succ])
          go_cut [7] (fun v7 wc => ∃ (kq : Nat) (x7_28 : List (List Bool)), Aside0 (colloquyref03_Table.j2 kq a1 x7_28 a0_0 l0_1 l0_2 = some r) ∧ Aside0 (kq ≤ kj20) ∧ Aside0 (Kd.S (Kd.slice 4 Kd.bool) 61 wc w.heap.size (fun _ => True) v7 x7_28) ∧ Aside0 (wc.heap[gb259]? = some (.cells #[.int .i64 a0_0, (.slice A0_1 l0_1.length c0_1), (.slice A0_2 l0_2.length c0_2)] 25 (0, 0))) ∧ Aside0 (Below w.heap.size w wc))
          case first =>
            have H := HC29.out
            clear HC29
            by_cases c32 : a0_0 = 2
            · rw [if_pos c32] at H
              have c32b0 : (a0_0 == 2) = true := beq_iff_eq.mpr c32
              have c32b1 : (a0_0 != 2) = false := bne_eq_false_iff_eq.mpr c32
              clear c32
              (first | rw [c32b0] | (simp only [i64_w, i32_w]; rw [c32b0]) | skip)
              replace H := Option.bind_eq_some_iff.mp H
              obtain ⟨t271, A330, H⟩ := H
              replace H : (colloquyref03_Table.j2 kj20 a1 t271 a0_0 l0_1 l0_2) = some r := H
              have A33 := Aside0.mk A330
              clear A330
              have H' := Aside0.mk H
              clear H
              go_wp2_with (first | ((with_reducible refine gate_callee (f := 32) rfl ?_); refine goesL_ (some 60) rfl rfl Try.func32 (by kernel_rfl) rfl #[.int .i64 (wrap64 ((a1.size : Int) + 1))] rfl (by (try simp only [List.map_toArray, List.map_cons, List.map_nil]); first | done | rfl | (simp only [List.length_drop, List.length_take]; rfl)) ?_; (with_reducible refine (colloquyref03_same.calls kj20 (wrap64 ((a1.size : Int) + 1)) t271 _ A33.out).mono ?_); rintro e w34 ⟨v272, rfl, ho0, hb⟩; refine ⟨_, rfl, ?_⟩; have n0_ := Aside0.mk (Kd.S_elder' (by (with_reducible repeat (first | apply Kd.S_alloc | apply Kd.S_drewN | apply Kd.S_drew)); exact HO270.out) (Kd.S_base ho0) hb); have n1_ := Aside0.mk (Kd.S_lower (Kd.S_new' ho0 (Kd.S_lt (by (with_reducible repeat (first | apply Kd.S_alloc | apply Kd.S_drewN | apply Kd.S_drew)); exact HO270.out))) (below_size (by repeat (first | (with_reducible first | exact HB.out | apply below_alloc | apply pw_below_drewN | apply below_drew1 | refine below_set ?_ GE259.out) | exact HB.out)))); have n2_ := Aside0.mk (blk_below (g := gb259) (o := .cells #[.int .i64 a0_0, .slice A0_1 l0_1.length c0_1, .slice A0_2 l0_2.length c0_2] 25 (0, 0)) (by (with_reducible repeat (first | refine blk_drewN ?_ _ | refine blk_drew ?_ | refine blk_alloc ?_ _)); exact BK259.out) hb); have n3_ := Aside0.mk (below_step (by repeat (first | (with_reducible first | exact HB.out | apply below_alloc | apply pw_below_drewN | apply below_drew1 | refine below_set ?_ GE259.out) | exact HB.out)) hb); clear HO270; clear BK259; clear HB; have HO270 := n0_; have HO273 := n1_; have BK259 := n2_; have HB := n3_; clear n0_ n1_ n2_ n3_; (try clear hb); (try clear hb2); (try clear hk); (try clear hi); (try clear ho0)))
              go_meet
              case rel => exact ⟨_, (t271), H', ⟨by have := HJ20.out; first | omega | exact Nat.le_refl _⟩, ⟨by (with_reducible repeat (first | apply Kd.S_alloc | apply Kd.S_drewN | apply Kd.S_drew)); exact Kd.S_mono HO273.out (fun _ hk => trivial)⟩, ⟨by (with_reducible repeat (first | refine blk_drewN ?_ _ | refine blk_drew ?_ | refine blk_alloc ?_ _)); exact BK259.out⟩, ⟨by repeat (first | (with_reducible first | exact HB.out | apply below_alloc | apply pw_below_drewN | apply below_drew1 | refine below_set ?_ GE259.out) | exact HB.out)⟩⟩
            · rw [if_neg c32] at H
              have c32b0 : (a0_0 == 2) = false := beq_eq_false_iff_ne.mpr c32
              have c32b1 : (a0_0 != 2) = true := bne_iff_ne.mpr c32
              (first | rw [c32b0] | (simp only [i64_w, i32_w]; rw [c32b0]) | skip)
              have H' := Aside0.mk H
              clear H
              go_wp2
              go_meet
              case rel => exact ⟨_, (t268), H', ⟨by have := HJ20.out; first | omega | exact Nat.le_refl _⟩, ⟨by (with_reducible repeat (first | apply Kd.S_alloc | apply Kd.S_drewN | apply Kd.S_drew)); exact HO270.out⟩, ⟨by (with_reducible repeat (first | refine blk_drewN ?_ _ | refine blk_drew ?_ | refine blk_alloc ?_ _)); exact BK259.out⟩, ⟨by repeat (first | (with_reducible first | exact HB.out | apply below_alloc | apply pw_below_drewN | apply below_drew1 | refine below_set ?_ GE259.out) | exact HB.out)⟩⟩
          case rest =>
            clear HC29
            try clear c1
            try clear p1
            try clear q1
            try clear hx1
            try clear c2
            try clear p2
            try clear q2
            try clear hx2
            try clear c3
            try clear c3b0
            try clear c3b1
            try clear p6
            try clear c8
            try clear c8b0
            try clear c9
            try clear c9b0
            try clear c10
            try clear c10b0
            try clear p11
            try clear q11
            try clear hx11
            try clear c14
            try clear c14b0
            try clear c15
            try clear c15b0
            try clear p16
            try clear q16
            try clear hx16
            try clear hf16
            try clear c19
            try clear q19
            try clear c24
            try clear c24b0
            try clear c24b1
            try clear c26
            try clear p26
            try clear q26
            try clear hx26
            try clear c27
            try clear c30
            try clear c31
            try clear c32
            try clear c32b0
            try clear c32b1
            try clear hcz23_0
            try clear hcz23_1
            try clear hcz23_2
            try clear hcz25_0
            try clear hcz25_1
            try clear hcz25_2
            try clear hcz26_0
            try clear hcz26_1
            try clear hcz26_2
            try clear hcz31_0
            try clear hcz31_1
            try clear hcz31_2
            try clear hcz6_0
            try clear hcz6_1
            try clear hcz6_2
            try clear hfz23_0
            try clear hfz23_1
            try clear hfz23_2
            try clear hfz25_0
            try clear hfz25_1
            try clear hfz25_2
            try clear hfz26_0
            try clear hfz26_1
            try clear hfz26_2
            try clear hfz31_0
            try clear hfz31_1
            try clear hfz31_2
            try clear hfz6_0
            try clear hfz6_1
            try clear hfz6_2
            try clear hx16_0
            try clear hx263_0
            try clear p1
            try clear p11
            try clear p16
            try clear p2
            try clear p26
            try clear p263
            try clear p6
            try clear q1
            try clear q11
            try clear q16
            try clear q19
            try clear q2
            try clear q26
            try clear q263
            obtain ⟨kq, x7_28, HA, HJ28, HO_7, BK259, HB⟩ := hcut
            cases kq with
            | zero => exact absurd HA.out (by simp [colloquyref03_Table.j2])
            | succ kj28 =>
              have H := HA.out
              clear HA
              simp only [colloquyref03_Table.j2] at H
              have H' := Aside0.mk H
              clear H
              go_wp2
              go_loopg [7, 8] kj28 (fun kq v7 v8 w' => ∃ (x7_3 : List (List Bool)) (x8_3 : Int), v8 = .int .i64 x8_3 ∧ Aside0 (colloquyref03_Table.l1 kq a1 x7_3 x8_3 a0_0 l0_1 l0_2 = some r) ∧ Aside0 (kq ≤ kj28) ∧ Aside0 (Kd.S (Kd.slice 4 Kd.bool) 61 w' w.heap.size (fun _ => True) v7 x7_3) ∧ Aside0 (w'.heap[gb259]? = some (.cells #[.int .i64 a0_0, (.slice A0_1 l0_1.length c0_1), (.slice A0_2 l0_2.length c0_2)] 25 (0, 0))) ∧ Aside0 (Below w.heap.size w w'))
              case atStart => exact ⟨(x7_28), (0), (by first | rfl | (simp; done) | (simp [*]; done)), H', ⟨Nat.le_refl _⟩, ⟨by (with_reducible repeat (first | apply Kd.S_alloc | apply Kd.S_drewN | apply Kd.S_drew)); exact HO_7.out⟩, ⟨by (with_reducible repeat (first | refine blk_drewN ?_ _ | refine blk_drew ?_ | refine blk_alloc ?_ _)); exact BK259.out⟩, ⟨by repeat (first | (with_reducible first | exact HB.out | apply below_alloc | apply pw_below_drewN | apply below_drew1 | refine below_set ?_ GE259.out) | exact HB.out)⟩⟩
              case round =>
                clear H'
                try clear c1
                try clear p1
                try clear q1
                try clear hx1
                try clear c2
                try clear p2
                try clear q2
                try clear hx2
                try clear c3
                try clear c3b0
                try clear c3b1
                try clear p6
                try clear c8
                try clear c8b0
                try clear c9
                try clear c9b0
                try clear c10
                try clear c10b0
                try clear p11
                try clear q11
                try clear hx11
                try clear c14
                try clear c14b0
                try clear c15
                try clear c15b0
                try clear p16
                try clear q16
                try clear hx16
                try clear hf16
                try clear c19
                try clear q19
                try clear c24
                try clear c24b0
                try clear c24b1
                try clear c26
                try clear p26
                try clear q26
                try clear hx26
                try clear c27
                try clear c30
                try clear c31
                try clear c32
                try clear c32b0
                try clear c32b1
                try clear hcz23_0
                try clear hcz23_1
                try clear hcz23_2
                try clear hcz25_0
                try clear hcz25_1
                try clear hcz25_2
                try clear hcz26_0
                try clear hcz26_1
                try clear hcz26_2
                try clear hcz31_0
                try clear hcz31_1
                try clear hcz31_2
                try clear hcz6_0
                try clear hcz6_1
                try clear hcz6_2
                try clear hfz23_0
                try clear hfz23_1
                try clear hfz23_2
                try clear hfz25_0
                try clear hfz25_1
                try clear hfz25_2
                try clear hfz26_0
                try clear hfz26_1
                try clear hfz26_2
                try clear hfz31_0
                try clear hfz31_1
                try clear hfz31_2
                try clear hfz6_0
                try clear hfz6_1
                try clear hfz6_2
                try clear hx16_0
                try clear hx263_0
                try clear p1
                try clear p11
                try clear p16
                try clear p2
                try clear p26
                try clear p263
                try clear p6
                try clear q1
                try clear q11
                try clear q16
                try clear q19
                try clear q2
                try clear q26
                try clear q263
                obtain ⟨x7_3, x8_3, rfl, HA, HK3, HO_7, BK259, HB⟩ := hrel
                cases gk with
                | zero => exact absurd HA.out (by simp [colloquyref03_Table.l1])
                | succ k3 =>
                  have H := HA.out
                  clear HA
                  simp only [colloquyref03_Table.l1] at H
                  by_cases c35 : x8_3 < (l0_2.length : Int)
                  · rw [if_pos c35] at H
                    have c35b0 : decide (x8_3 < (l0_2.length : Int)) = true := decide_eq_true c35
                    clear c35
                    by_cases c36 : 0 ≤ x8_3
                    · rw [if_pos c36] at H
                      have c36b0 : decide (0 ≤ x8_3) = true := decide_eq_true c36
                      clear c36
                      replace H := Option.bind_eq_some_iff.mp H
                      obtain ⟨t275, A370, H⟩ := H
                      replace H : (if a0_0 = 2 then ((colloquyref03_both.f k3 x7_3 t275).bind fun t278 => (colloquyref03_Table.l1 k3 a1 t278 (wrap64 (x8_3 + 1)) a0_0 l0_1 l0_2)) else ((colloquyref03_either.f k3 x7_3 t275).bind fun t281 => (colloquyref03_Table.l1 k3 a1 t281 (wrap64 (x8_3 + 1)) a0_0 l0_1 l0_2))) = some r := H
                      have A37 := Aside0.mk A370
                      clear A370
                      by_cases c38 : a0_0 = 2
                      · rw [if_pos c38] at H
                        have c38b0 : (a0_0 == 2) = true := beq_iff_eq.mpr c38
                        have c38b1 : (a0_0 != 2) = false := bne_eq_false_iff_eq.mpr c38
                        clear c38
                        replace H := Option.bind_eq_some_iff.mp H
                        obtain ⟨t278, A390, H⟩ := H
                        replace H : (colloquyref03_Table.l1 k3 a1 t278 (wrap64 (x8_3 + 1)) a0_0 l0_1 l0_2) = some r := H
                        have A39 := Aside0.mk A390
                        clear A390
                        have H' := Aside0.mk H
                        clear H
                        have hcz40_0 : wr.cell? ⟨gb259, 0, none⟩ = some (.int .i64 a0_0) := (blk_cell BK259.out 0).trans rfl
                        have hcz40_1 : wr.cell? ⟨gb259, 1, none⟩ = some (.slice A0_1 l0_1.length c0_1) := (blk_cell BK259.out 1).trans rfl
                        have hcz40_2 : wr.cell? ⟨gb259, 2, none⟩ = some (.slice A0_2 l0_2.length c0_2) := (blk_cell BK259.out 2).trans rfl
                        have hfz40_0 := blk_frozen BK259.out 0
                        have hfz40_1 := blk_frozen BK259.out 1
                        have hfz40_2 := blk_frozen BK259.out 2
                        have p274 : 0 ≤ (x8_3 : Int) := of_decide_eq_true (by first | (with_reducible assumption) | assumption)
                        have q274 : x8_3 < (l0_2.length : Int) := of_decide_eq_true (by first | (with_reducible assumption) | assumption)
                        obtain ⟨ad274, A274_1, c274_1, A274_2, c274_2, e274, hx274_0, hx274_1, hx274_2, hl274_1, hi274_1, hl274_2, hi274_2⟩ := at_T25 HR0_2.out x8_3 p274 q274
                        cases e274
                        replace hx274_0 := (HB.out.cell (World.block_lt_of_cell? w _ hx274_0)).trans hx274_0
                        replace hx274_1 := (HB.out.cell (World.block_lt_of_cell? w _ hx274_1)).trans hx274_1
                        replace hx274_2 := (HB.out.cell (World.block_lt_of_cell? w _ hx274_2)).trans hx274_2
                        have HR274_1 := Aside0.mk hi274_1
                        have HC274_1 := Aside0.mk hl274_1
                        clear hi274_1 hl274_1
                        have HR274_2 := Aside0.mk hi274_2
                        have HC274_2 := Aside0.mk hl274_2
                        clear hi274_2 hl274_2
                        replace p274 := eq_true p274
                        replace q274 := eq_true q274
                        go_wp2_with (first | ((with_reducible refine gate_callee (f := 15) rfl ?_); refine goesL_ (some 74) rfl rfl Try.func15 (by kernel_rfl) rfl #[.agg #[.int .i64 ((rd_T25 l0_2 x8_3).f0), .slice A274_1 ((rd_T25 l0_2 x8_3).f1).length c274_1, .slice A274_2 ((rd_T25 l0_2 x8_3).f2).length c274_2], .string a1] rfl (by (try simp only [List.map_toArray, List.map_cons, List.map_nil]); first | done | rfl | (simp only [List.length_drop, List.length_take]; rfl)) ?_; (with_reducible refine (ih k3 (by have := HJ20.out; have := HJ28.out; have := HK3.out; omega) ((rd_T25 l0_2 x8_3).f0) _ _ ((rd_T25 l0_2 x8_3).f1) _ _ ((rd_T25 l0_2 x8_3).f2) a1 t275 _ ?side1 ?side2 ?side3 ?side4 A37.out).mono ?_); (case side1 => repeat (first | exact (Kd.C_below HR274_1.out HB.out) | (with_reducible refine Kd.C_alloc ?_ _) | (with_reducible refine Kd.C_drewN ?_ _) | (with_reducible refine Kd.C_drew ?_))); (case side2 => exact HC274_1.out); (case side3 => repeat (first | exact (Kd.C_below HR274_2.out HB.out) | (with_reducible refine Kd.C_alloc ?_ _) | (with_reducible refine Kd.C_drewN ?_ _) | (with_reducible refine Kd.C_drew ?_))); (case side4 => exact HC274_2.out); rintro e w41 ⟨v276, rfl, ho0, hb⟩; refine ⟨_, rfl, ?_⟩; have n0_ := Aside0.mk (Kd.S_elder' (by (with_reducible repeat (first | apply Kd.S_alloc | apply Kd.S_drewN | apply Kd.S_drew)); exact HO_7.out) (Kd.S_base ho0) hb); have n1_ := Aside0.mk (Kd.S_lower (Kd.S_new' ho0 (Kd.S_lt (by (with_reducible repeat (first | apply Kd.S_alloc | apply Kd.S_drewN | apply Kd.S_drew)); exact HO_7.out))) (below_size (by repeat (first | (with_reducible first | exact HB.out | apply below_alloc | apply pw_below_drewN | apply below_drew1 | refine below_set ?_ GE259.out) | exact HB.out)))); have n2_ := Aside0.mk (blk_below (g := gb259) (o := .cells #[.int .i64 a0_0, .slice A0_1 l0_1.length c0_1, .slice (some ad274) l0_2.length c0_2] 25 (0, 0)) (by (with_reducible repeat (first | refine blk_drewN ?_ _ | refine blk_drew ?_ | refine blk_alloc ?_ _)); exact BK259.out) hb); have n3_ := Aside0.mk (below_step (by repeat (first | (with_reducible first | exact HB.out | apply below_alloc | apply pw_below_drewN | apply below_drew1 | refine below_set ?_ GE259.out) | exact HB.out)) hb); clear HO_7; clear BK259; clear HB; have HO_7 := n0_; have HO277 := n1_; have BK259 := n2_; have HB := n3_; clear n0_ n1_ n2_ n3_; (try clear hb); (try clear hb2); (try clear hk); (try clear hi); (try clear ho0); have hcz42_0 : w41.cell? ⟨gb259, 0, none⟩ = some (.int .i64 a0_0) := (blk_cell BK259.out 0).trans rfl; have hcz42_1 : w41.cell? ⟨gb259, 1, none⟩ = some (.slice A0_1 l0_1.length c0_1) := (blk_cell BK259.out 1).trans rfl; have hcz42_2 : w41.cell? ⟨gb259, 2, none⟩ = some (.slice (some ad274) l0_2.length c0_2) := (blk_cell BK259.out 2).trans rfl; have hfz42_0 := blk_frozen BK259.out 0; have hfz42_1 := blk_frozen BK259.out 1; have hfz42_2 := blk_frozen BK259.out 2; obtain ⟨Ao43, co43, eo43⟩ := Kd.S_slice HO_7.out; subst eo43; obtain ⟨Ao44, co44, eo44⟩ := Kd.S_slice HO277.out; subst eo44) | ((with_reducible refine gate_callee (f := 33) rfl ?_); refine goesL_ (some 80) rfl rfl Try.func33 (by kernel_rfl) rfl #[.slice Ao43 x7_3.length co43, .slice Ao44 t275.length co44] rfl (by (try simp only [List.map_toArray, List.map_cons, List.map_nil]); first | done | rfl | (simp only [List.length_drop, List.length_take]; rfl)) ?_; (with_reducible refine (colloquyref03_both.calls k3 _ _ x7_3 _ _ t275 t278 _ ?side1 ?side2 ?side3 ?side4 A39.out).mono ?_); (case side1 => repeat (first | exact (Kd.S_reads' HO_7.out).2.2 | (with_reducible refine Kd.C_alloc ?_ _) | (with_reducible refine Kd.C_drewN ?_ _) | (with_reducible refine Kd.C_drew ?_))); (case side2 => exact (Kd.S_reads' HO_7.out).2.1); (case side3 => repeat (first | exact (Kd.S_reads' HO277.out).2.2 | (with_reducible refine Kd.C_alloc ?_ _) | (with_reducible refine Kd.C_drewN ?_ _) | (with_reducible refine Kd.C_drew ?_))); (case side4 => exact (Kd.S_reads' HO277.out).2.1); rintro e w45 ⟨v279, rfl, ho0, hb⟩; refine ⟨_, rfl, ?_⟩; have n0_ := Aside0.mk (Kd.S_elder' (by (with_reducible repeat (first | apply Kd.S_alloc | apply Kd.S_drewN | apply Kd.S_drew)); exact HO_7.out) (Kd.S_base ho0) hb); have n1_ := Aside0.mk (Kd.S_elder' (by (with_reducible repeat (first | apply Kd.S_alloc | apply Kd.S_drewN | apply Kd.S_drew)); exact HO277.out) (Kd.S_base ho0) hb); have n2_ := Aside0.mk (Kd.S_lower (Kd.S_new' (Kd.S_new' ho0 (Kd.S_lt (by (with_reducible repeat (first | apply Kd.S_alloc | apply Kd.S_drewN | apply Kd.S_drew)); exact HO_7.out))) (Kd.S_lt (by (with_reducible repeat (first | apply Kd.S_alloc | apply Kd.S_drewN | apply Kd.S_drew)); exact HO277.out))) (below_size (by repeat (first | (with_reducible first | exact HB.out | apply below_alloc | apply pw_below_drewN | apply below_drew1 | refine below_set ?_ GE259.out) | exact HB.out)))); have n3_ := Aside0.mk (blk_below (g := gb259) (o := .cells #[.int .i64 a0_0, .slice A0_1 l0_1.length c0_1, .slice (some ad274) l0_2.length c0_2] 25 (0, 0)) (by (with_reducible repeat (first | refine blk_drewN ?_ _ | refine blk_drew ?_ | refine blk_alloc ?_ _)); exact BK259.out) hb); have n4_ := Aside0.mk (below_step (by repeat (first | (with_reducible first | exact HB.out | apply below_alloc | apply pw_below_drewN | apply below_drew1 | refine below_set ?_ GE259.out) | exact HB.out)) hb); clear HO_7; clear HO277; clear BK259; clear HB; have HO_7 := n0_; have HO277 := n1_; have HO280 := n2_; have BK259 := n3_; have HB := n4_; clear n0_ n1_ n2_ n3_ n4_; (try clear hb); (try clear hb2); (try clear hk); (try clear hi); (try clear ho0)))
                        go_roundg k3
                        case measure => have := HJ20.out; have := HJ28.out; have := HK3.out; omega
                        case rel => exact ⟨(t278), (wrap64 (x8_3 + 1)), (by first | rfl | (simp; done) | (simp [*]; done)), H', ⟨by have := HJ20.out; have := HJ28.out; have := HK3.out; omega⟩, ⟨by (with_reducible repeat (first | apply Kd.S_alloc | apply Kd.S_drewN | apply Kd.S_drew)); exact Kd.S_mono HO280.out (fun _ hk => trivial)⟩, ⟨by (with_reducible repeat (first | refine blk_drewN ?_ _ | refine blk_drew ?_ | refine blk_alloc ?_ _)); exact BK259.out⟩, ⟨by repeat (first | (with_reducible first | exact HB.out | apply below_alloc | apply pw_below_drewN | apply below_drew1 | refine below_set ?_ GE259.out) | exact HB.out)⟩⟩
                      · rw [if_neg c38] at H
                        have c38b0 : (a0_0 == 2) = false := beq_eq_false_iff_ne.mpr c38
                        have c38b1 : (a0_0 != 2) = true := bne_iff_ne.mpr c38
                        replace H := Option.bind_eq_some_iff.mp H
                        obtain ⟨t281, A460, H⟩ := H
                        replace H : (colloquyref03_Table.l1 k3 a1 t281 (wrap64 (x8_3 + 1)) a0_0 l0_1 l0_2) = some r := H
                        have A46 := Aside0.mk A460
                        clear A460
                        have H' := Aside0.mk H
                        clear H
                        have hcz47_0 : wr.cell? ⟨gb259, 0, none⟩ = some (.int .i64 a0_0) := (blk_cell BK259.out 0).trans rfl
                        have hcz47_1 : wr.cell? ⟨gb259, 1, none⟩ = some (.slice A0_1 l0_1.length c0_1) := (blk_cell BK259.out 1).trans rfl
                        have hcz47_2 : wr.cell? ⟨gb259, 2, none⟩ = some (.slice A0_2 l0_2.length c0_2) := (blk_cell BK259.out 2).trans rfl
                        have hfz47_0 := blk_frozen BK259.out 0
                        have hfz47_1 := blk_frozen BK259.out 1
                        have hfz47_2 := blk_frozen BK259.out 2
                        have p274 : 0 ≤ (x8_3 : Int) := of_decide_eq_true (by first | (with_reducible assumption) | assumption)
                        have q274 : x8_3 < (l0_2.length : Int) := of_decide_eq_true (by first | (with_reducible assumption) | assumption)
                        obtain ⟨ad274, A274_1, c274_1, A274_2, c274_2, e274, hx274_0, hx274_1, hx274_2, hl274_1, hi274_1, hl274_2, hi274_2⟩ := at_T25 HR0_2.out x8_3 p274 q274
                        cases e274
                        replace hx274_0 := (HB.out.cell (World.block_lt_of_cell? w _ hx274_0)).trans hx274_0
                        replace hx274_1 := (HB.out.cell (World.block_lt_of_cell? w _ hx274_1)).trans hx274_1
                        replace hx274_2 := (HB.out.cell (World.block_lt_of_cell? w _ hx274_2)).trans hx274_2
                        have HR274_1 := Aside0.mk hi274_1
                        have HC274_1 := Aside0.mk hl274_1
                        clear hi274_1 hl274_1
                        have HR274_2 := Aside0.mk hi274_2
                        have HC274_2 := Aside0.mk hl274_2
                        clear hi274_2 hl274_2
                        replace p274 := eq_true p274
                        replace q274 := eq_true q274
                        go_wp2_with (first | ((with_reducible refine gate_callee (f := 15) rfl ?_); refine goesL_ (some 74) rfl rfl Try.func15 (by kernel_rfl) rfl #[.agg #[.int .i64 ((rd_T25 l0_2 x8_3).f0), .slice A274_1 ((rd_T25 l0_2 x8_3).f1).length c274_1, .slice A274_2 ((rd_T25 l0_2 x8_3).f2).length c274_2], .string a1] rfl (by (try simp only [List.map_toArray, List.map_cons, List.map_nil]); first | done | rfl | (simp only [List.length_drop, List.length_take]; rfl)) ?_; (with_reducible refine (ih k3 (by have := HJ20.out; have := HJ28.out; have := HK3.out; omega) ((rd_T25 l0_2 x8_3).f0) _ _ ((rd_T25 l0_2 x8_3).f1) _ _ ((rd_T25 l0_2 x8_3).f2) a1 t275 _ ?side1 ?side2 ?side3 ?side4 A37.out).mono ?_); (case side1 => repeat (first | exact (Kd.C_below HR274_1.out HB.out) | (with_reducible refine Kd.C_alloc ?_ _) | (with_reducible refine Kd.C_drewN ?_ _) | (with_reducible refine Kd.C_drew ?_))); (case side2 => exact HC274_1.out); (case side3 => repeat (first | exact (Kd.C_below HR274_2.out HB.out) | (with_reducible refine Kd.C_alloc ?_ _) | (with_reducible refine Kd.C_drewN ?_ _) | (with_reducible refine Kd.C_drew ?_))); (case side4 => exact HC274_2.out); rintro e w48 ⟨v276, rfl, ho0, hb⟩; refine ⟨_, rfl, ?_⟩; have n0_ := Aside0.mk (Kd.S_elder' (by (with_reducible repeat (first | apply Kd.S_alloc | apply Kd.S_drewN | apply Kd.S_drew)); exact HO_7.out) (Kd.S_base ho0) hb); have n1_ := Aside0.mk (Kd.S_lower (Kd.S_new' ho0 (Kd.S_lt (by (with_reducible repeat (first | apply Kd.S_alloc | apply Kd.S_drewN | apply Kd.S_drew)); exact HO_7.out))) (below_size (by repeat (first | (with_reducible first | exact HB.out | apply below_alloc | apply pw_below_drewN | apply below_drew1 | refine below_set ?_ GE259.out) | exact HB.out)))); have n2_ := Aside0.mk (blk_below (g := gb259) (o := .cells #[.int .i64 a0_0, .slice A0_1 l0_1.length c0_1, .slice (some ad274) l0_2.length c0_2] 25 (0, 0)) (by (with_reducible repeat (first | refine blk_drewN ?_ _ | refine blk_drew ?_ | refine blk_alloc ?_ _)); exact BK259.out) hb); have n3_ := Aside0.mk (below_step (by repeat (first | (with_reducible first | exact HB.out | apply below_alloc | apply pw_below_drewN | apply below_drew1 | refine below_set ?_ GE259.out) | exact HB.out)) hb); clear HO_7; clear BK259; clear HB; have HO_7 := n0_; have HO277 := n1_; have BK259 := n2_; have HB := n3_; clear n0_ n1_ n2_ n3_; (try clear hb); (try clear hb2); (try clear hk); (try clear hi); (try clear ho0); have hcz49_0 : w48.cell? ⟨gb259, 0, none⟩ = some (.int .i64 a0_0) := (blk_cell BK259.out 0).trans rfl; have hcz49_1 : w48.cell? ⟨gb259, 1, none⟩ = some (.slice A0_1 l0_1.length c0_1) := (blk_cell BK259.out 1).trans rfl; have hcz49_2 : w48.cell? ⟨gb259, 2, none⟩ = some (.slice (some ad274) l0_2.length c0_2) := (blk_cell BK259.out 2).trans rfl; have hfz49_0 := blk_frozen BK259.out 0; have hfz49_1 := blk_frozen BK259.out 1; have hfz49_2 := blk_frozen BK259.out 2; obtain ⟨Ao50, co50, eo50⟩ := Kd.S_slice HO_7.out; subst eo50; obtain ⟨Ao51, co51, eo51⟩ := Kd.S_slice HO277.out; subst eo51) | ((with_reducible refine gate_callee (f := 34) rfl ?_); refine goesL_ (some 83) rfl rfl Try.func34 (by kernel_rfl) rfl #[.slice Ao50 x7_3.length co50, .slice Ao51 t275.length co51] rfl (by (try simp only [List.map_toArray, List.map_cons, List.map_nil]); first | done | rfl | (simp only [List.length_drop, List.length_take]; rfl)) ?_; (with_reducible refine (colloquyref03_either.calls k3 _ _ x7_3 _ _ t275 t281 _ ?side1 ?side2 ?side3 ?side4 A46.out).mono ?_); (case side1 => repeat (first | exact (Kd.S_reads' HO_7.out).2.2 | (with_reducible refine Kd.C_alloc ?_ _) | (with_reducible refine Kd.C_drewN ?_ _) | (with_reducible refine Kd.C_drew ?_))); (case side2 => exact (Kd.S_reads' HO_7.out).2.1); (case side3 => repeat (first | exact (Kd.S_reads' HO277.out).2.2 | (with_reducible refine Kd.C_alloc ?_ _) | (with_reducible refine Kd.C_drewN ?_ _) | (with_reducible refine Kd.C_drew ?_))); (case side4 => exact (Kd.S_reads' HO277.out).2.1); rintro e w52 ⟨v282, rfl, ho0, hb⟩; refine ⟨_, rfl, ?_⟩; have n0_ := Aside0.mk (Kd.S_elder' (by (with_reducible repeat (first | apply Kd.S_alloc | apply Kd.S_drewN | apply Kd.S_drew)); exact HO_7.out) (Kd.S_base ho0) hb); have n1_ := Aside0.mk (Kd.S_elder' (by (with_reducible repeat (first | apply Kd.S_alloc | apply Kd.S_drewN | apply Kd.S_drew)); exact HO277.out) (Kd.S_base ho0) hb); have n2_ := Aside0.mk (Kd.S_lower (Kd.S_new' (Kd.S_new' ho0 (Kd.S_lt (by (with_reducible repeat (first | apply Kd.S_alloc | apply Kd.S_drewN | apply Kd.S_drew)); exact HO_7.out))) (Kd.S_lt (by (with_reducible repeat (first | apply Kd.S_alloc | apply Kd.S_drewN | apply Kd.S_drew)); exact HO277.out))) (below_size (by repeat (first | (with_reducible first | exact HB.out | apply below_alloc | apply pw_below_drewN | apply below_drew1 | refine below_set ?_ GE259.out) | exact HB.out)))); have n3_ := Aside0.mk (blk_below (g := gb259) (o := .cells #[.int .i64 a0_0, .slice A0_1 l0_1.length c0_1, .slice (some ad274) l0_2.length c0_2] 25 (0, 0)) (by (with_reducible repeat (first | refine blk_drewN ?_ _ | refine blk_drew ?_ | refine blk_alloc ?_ _)); exact BK259.out) hb); have n4_ := Aside0.mk (below_step (by repeat (first | (with_reducible first | exact HB.out | apply below_alloc | apply pw_below_drewN | apply below_drew1 | refine below_set ?_ GE259.out) | exact HB.out)) hb); clear HO_7; clear HO277; clear BK259; clear HB; have HO_7 := n0_; have HO277 := n1_; have HO283 := n2_; have BK259 := n3_; have HB := n4_; clear n0_ n1_ n2_ n3_ n4_; (try clear hb); (try clear hb2); (try clear hk); (try clear hi); (try clear ho0)))
                        go_roundg k3
                        case measure => have := HJ20.out; have := HJ28.out; have := HK3.out; omega
                        case rel => exact ⟨(t281), (wrap64 (x8_3 + 1)), (by first | rfl | (simp; done) | (simp [*]; done)), H', ⟨by have := HJ20.out; have := HJ28.out; have := HK3.out; omega⟩, ⟨by (with_reducible repeat (first | apply Kd.S_alloc | apply Kd.S_drewN | apply Kd.S_drew)); exact Kd.S_mono HO283.out (fun _ hk => trivial)⟩, ⟨by (with_reducible repeat (first | refine blk_drewN ?_ _ | refine blk_drew ?_ | refine blk_alloc ?_ _)); exact BK259.out⟩, ⟨by repeat (first | (with_reducible first | exact HB.out | apply below_alloc | apply pw_below_drewN | apply below_drew1 | refine below_set ?_ GE259.out) | exact HB.out)⟩⟩
                    · rw [if_neg c36] at H
                      exact absurd H (by simp)
                  · rw [if_neg c35] at H
                    have c35b0 : decide (x8_3 < (l0_2.length : Int)) = false := decide_eq_false c35
                    clear c35
                    obtain rfl := Option.some.inj H
                    have hcz53_0 : wr.cell? ⟨gb259, 0, none⟩ = some (.int .i64 a0_0) := (blk_cell BK259.out 0).trans rfl
                    have hcz53_1 : wr.cell? ⟨gb259, 1, none⟩ = some (.slice A0_1 l0_1.length c0_1) := (blk_cell BK259.out 1).trans rfl
                    have hcz53_2 : wr.cell? ⟨gb259, 2, none⟩ = some (.slice A0_2 l0_2.length c0_2) := (blk_cell BK259.out 2).trans rfl
                    have hfz53_0 := blk_frozen BK259.out 0
                    have hfz53_1 := blk_frozen BK259.out 1
                    have hfz53_2 := blk_frozen BK259.out 2
                    go_wp2
                    go_ret
                    exact ⟨_, by first | rfl | (simp [errW_none, errW_some] <;> rfl) | (simp [*, errW_none, errW_some] <;> rfl), by (with_reducible repeat (first | apply Kd.S_alloc | apply Kd.S_drewN | apply Kd.S_drew)); exact HO_7.out, by repeat (first | (with_reducible first | exact HB.out | apply below_alloc | apply pw_below_drewN | apply below_drew1 | refine below_set ?_ GE259.out) | exact HB.out)⟩
        · replace c27 := Bool.eq_false_iff.mpr c27
          subst c27
          have H1 : (if a0_0 < 4 then (colloquyref03_Table.j4 kj20 a1 true a0_0 l0_1 l0_2) else (if a0_0 > 6 then (colloquyref03_Table.j4 kj20 a1 true a0_0 l0_1 l0_2) else (colloquyref03_Table.j4 kj20 a1 ((l0_2.length : Int) == 0) a0_0 l0_1 l0_2))) = some r := by rw [if_neg (show ¬ (false = true) by decide)] at H; exact H
          clear H
          have H := H1
          clear H1
          have HC54 := Aside0.mk H
          clear H
          go_upto_region 20 with (fail)
          go_cut [98] (fun v98 wc => ∃ (kq : Nat) (x98_53 : Bool), v98 = .bool x98_53 ∧ Aside0 (colloquyref03_Table.j4 kq a1 x98_53 a0_0 l0_1 l0_2 = some r) ∧ Aside0 (kq ≤ kj20) ∧ Aside0 (wc.heap[gb259]? = some (.cells #[.int .i64 a0_0, (.slice A0_1 l0_1.length c0_1), (.slice A0_2 l0_2.length c0_2)] 25 (0, 0))) ∧ Aside0 (Below w.heap.size w wc))
          case first =>
            have H := HC54.out
            clear HC54
            by_cases c55 : a0_0 < 4
            · rw [if_pos c55] at H
              have c55b0 : decide (a0_0 < 4) = true := decide_eq_true c55
              clear c55
              (first | rw [c55b0] | (simp only [i64_w, i32_w]; rw [c55b0]) | skip)
              have H' := Aside0.mk H
              clear H
              have hcz56_0 : wc.cell? ⟨gb259, 0, none⟩ = some (.int .i64 a0_0) := (blk_cell BK259.out 0).trans rfl
              have hcz56_1 : wc.cell? ⟨gb259, 1, none⟩ = some (.slice A0_1 l0_1.length c0_1) := (blk_cell BK259.out 1).trans rfl
              have hcz56_2 : wc.cell? ⟨gb259, 2, none⟩ = some (.slice A0_2 l0_2.length c0_2) := (blk_cell BK259.out 2).trans rfl
              have hfz56_0 := blk_frozen BK259.out 0
              have hfz56_1 := blk_frozen BK259.out 1
              have hfz56_2 := blk_frozen BK259.out 2
              go_wp2
              go_meet
              case rel => exact ⟨_, (true), (by first | rfl | (simp; done) | (simp [*]; done)), H', ⟨by have := HJ20.out; first | omega | exact Nat.le_refl _⟩, ⟨by (with_reducible repeat (first | refine blk_drewN ?_ _ | refine blk_drew ?_ | refine blk_alloc ?_ _)); exact BK259.out⟩, ⟨by repeat (first | (with_reducible first | exact HB.out | apply below_alloc | apply pw_below_drewN | apply below_drew1 | refine below_set ?_ GE259.out) | exact HB.out)⟩⟩
            · rw [if_neg c55] at H
              have c55b0 : decide (a0_0 < 4) = false := decide_eq_false c55
              clear c55
              (first | rw [c55b0] | (simp only [i64_w, i32_w]; rw [c55b0]) | skip)
              by_cases c57 : a0_0 > 6
              · rw [if_pos c57] at H
                have c57b0 : decide (6 < a0_0) = true := decide_eq_true c57
                clear c57
                have H' := Aside0.mk H
                clear H
                have hcz58_0 : wc.cell? ⟨gb259, 0, none⟩ = some (.int .i64 a0_0) := (blk_cell BK259.out 0).trans rfl
                have hcz58_1 : wc.cell? ⟨gb259, 1, none⟩ = some (.slice A0_1 l0_1.length c0_1) := (blk_cell BK259.out 1).trans rfl
                have hcz58_2 : wc.cell? ⟨gb259, 2, none⟩ = some (.slice A0_2 l0_2.length c0_2) := (blk_cell BK259.out 2).trans rfl
                have hfz58_0 := blk_frozen BK259.out 0
                have hfz58_1 := blk_frozen BK259.out 1
                have hfz58_2 := blk_frozen BK259.out 2
                go_wp2
                go_meet
                case rel => exact ⟨_, (true), (by first | rfl | (simp; done) | (simp [*]; done)), H', ⟨by have := HJ20.out; first | omega | exact Nat.le_refl _⟩, ⟨by (with_reducible repeat (first | refine blk_drewN ?_ _ | refine blk_drew ?_ | refine blk_alloc ?_ _)); exact BK259.out⟩, ⟨by repeat (first | (with_reducible first | exact HB.out | apply below_alloc | apply pw_below_drewN | apply below_drew1 | refine below_set ?_ GE259.out) | exact HB.out)⟩⟩
              · rw [if_neg c57] at H
                have c57b0 : decide (6 < a0_0) = false := decide_eq_false c57
                clear c57
                have H' := Aside0.mk H
                clear H
                have hcz59_0 : wc.cell? ⟨gb259, 0, none⟩ = some (.int .i64 a0_0) := (blk_cell BK259.out 0).trans rfl
                have hcz59_1 : wc.cell? ⟨gb259, 1, none⟩ = some (.slice A0_1 l0_1.length c0_1) := (blk_cell BK259.out 1).trans rfl
                have hcz59_2 : wc.cell? ⟨gb259, 2, none⟩ = some (.slice A0_2 l0_2.length c0_2) := (blk_cell BK259.out 2).trans rfl
                have hfz59_0 := blk_frozen BK259.out 0
                have hfz59_1 := blk_frozen BK259.out 1
                have hfz59_2 := blk_frozen BK259.out 2
                go_wp2
                go_meet
                case rel => exact ⟨_, (((l0_2.length : Int) == 0)), (by first | rfl | (simp; done) | (simp [*]; done)), H', ⟨by have := HJ20.out; first | omega | exact Nat.le_refl _⟩, ⟨by (with_reducible repeat (first | refine blk_drewN ?_ _ | refine blk_drew ?_ | refine blk_alloc ?_ _)); exact BK259.out⟩, ⟨by repeat (first | (with_reducible first | exact HB.out | apply below_alloc | apply pw_below_drewN | apply below_drew1 | refine below_set ?_ GE259.out) | exact HB.out)⟩⟩
          case rest =>
            clear HC54
            try clear c1
            try clear p1
            try clear q1
            try clear hx1
            try clear c2
            try clear p2
            try clear q2
            try clear hx2
            try clear c3
            try clear c3b0
            try clear c3b1
            try clear c5
            try clear p6
            try clear c8
            try clear c8b0
            try clear c9
            try clear c9b0
            try clear c10
            try clear c10b0
            try clear p11
            try clear q11
            try clear hx11
            try clear c14
            try clear c14b0
            try clear c15
            try clear c15b0
            try clear p16
            try clear q16
            try clear hx16
            try clear hf16
            try clear c19
            try clear q19
            try clear c24
            try clear c24b0
            try clear c24b1
            try clear c26
            try clear p26
            try clear q26
            try clear hx26
            try clear c27
            try clear p27
            try clear q27
            try clear hx27
            try clear c30
            try clear c31
            try clear c32
            try clear c32b0
            try clear c32b1
            try clear c33
            try clear c34
            try clear c35
            try clear c35b0
            try clear c36
            try clear c36b0
            try clear c38
            try clear c38b0
            try clear c38b1
            try clear c55
            try clear c55b0
            try clear c57
            try clear c57b0
            try clear hcz23_0
            try clear hcz23_1
            try clear hcz23_2
            try clear hcz25_0
            try clear hcz25_1
            try clear hcz25_2
            try clear hcz26_0
            try clear hcz26_1
            try clear hcz26_2
            try clear hcz31_0
            try clear hcz31_1
            try clear hcz31_2
            try clear hcz40_0
            try clear hcz40_1
            try clear hcz40_2
            try clear hcz42_0
            try clear hcz42_1
            try clear hcz42_2
            try clear hcz47_0
            try clear hcz47_1
            try clear hcz47_2
            try clear hcz49_0
            try clear hcz49_1
            try clear hcz49_2
            try clear hcz53_0
            try clear hcz53_1
            try clear hcz53_2
            try clear hcz56_0
            try clear hcz56_1
            try clear hcz56_2
            try clear hcz58_0
            try clear hcz58_1
            try clear hcz58_2
            try clear hcz59_0
            try clear hcz59_1
            try clear hcz59_2
            try clear hcz6_0
            try clear hcz6_1
            try clear hcz6_2
            try clear hfz23_0
            try clear hfz23_1
            try clear hfz23_2
            try clear hfz25_0
            try clear hfz25_1
            try clear hfz25_2
            try clear hfz26_0
            try clear hfz26_1
            try clear hfz26_2
            try clear hfz31_0
            try clear hfz31_1
            try clear hfz31_2
            try clear hfz40_0
            try clear hfz40_1
            try clear hfz40_2
            try clear hfz42_0
            try clear hfz42_1
            try clear hfz42_2
            try clear hfz47_0
            try clear hfz47_1
            try clear hfz47_2
            try clear hfz49_0
            try clear hfz49_1
            try clear hfz49_2
            try clear hfz53_0
            try clear hfz53_1
            try clear hfz53_2
            try clear hfz56_0
            try clear hfz56_1
            try clear hfz56_2
            try clear hfz58_0
            try clear hfz58_1
            try clear hfz58_2
            try clear hfz59_0
            try clear hfz59_1
            try clear hfz59_2
            try clear hfz6_0
            try clear hfz6_1
            try clear hfz6_2
            try clear hx16_0
            try clear hx263_0
            try clear hx274_0
            try clear hx274_1
            try clear hx274_2
            try clear p1
            try clear p11
            try clear p16
            try clear p2
            try clear p26
            try clear p263
            try clear p274
            try clear p6
            try clear q1
            try clear q11
            try clear q16
            try clear q19
            try clear q2
            try clear q26
            try clear q263
            try clear q274
            obtain ⟨kq, x98_53, rfl, HA, HJ53, BK259, HB⟩ := hcut
            cases kq with
            | zero => exact absurd HA.out (by simp [colloquyref03_Table.j4])
            | succ kj53 =>
              have H := HA.out
              clear HA
              simp only [colloquyref03_Table.j4] at H
              by_cases c60 : x98_53 = true
              · subst c60
                have H1 : ((colloquyref03_none.f kj53 (wrap64 ((a1.size : Int) + 1))).bind fun t284 => (some t284)) = some r := by rw [if_pos rfl] at H; exact H
                clear H
                have H := H1
                clear H1
                replace H := Option.bind_eq_some_iff.mp H
                obtain ⟨t284, A610, H⟩ := H
                replace H : (some t284) = some r := H
                have A61 := Aside0.mk A610
                clear A610
                obtain rfl := Option.some.inj H
                go_wp2_with (first | ((with_reducible refine gate_callee (f := 30) rfl ?_); refine goesL_ (some 102) rfl rfl Try.func30 (by kernel_rfl) rfl #[.int .i64 (wrap64 ((a1.size : Int) + 1))] rfl (by (try simp only [List.map_toArray, List.map_cons, List.map_nil]); first | done | rfl | (simp only [List.length_drop, List.length_take]; rfl)) ?_; (with_reducible refine (colloquyref03_none.calls kj53 (wrap64 ((a1.size : Int) + 1)) t284 _ A61.out).mono ?_); rintro e w62 ⟨v285, rfl, ho0, hb⟩; refine ⟨_, rfl, ?_⟩; have n0_ := Aside0.mk (Kd.S_lower ho0 (below_size (by repeat (first | (with_reducible first | exact HB.out | apply below_alloc | apply pw_below_drewN | apply below_drew1 | refine below_set ?_ GE259.out) | exact HB.out)))); have n1_ := Aside0.mk (blk_below (g := gb259) (o := .cells #[.int .i64 a0_0, .slice A0_1 l0_1.length c0_1, .slice A0_2 l0_2.length c0_2] 25 (0, 0)) (by (with_reducible repeat (first | refine blk_drewN ?_ _ | refine blk_drew ?_ | refine blk_alloc ?_ _)); exact BK259.out) hb); have n2_ := Aside0.mk (below_step (by repeat (first | (with_reducible first | exact HB.out | apply below_alloc | apply pw_below_drewN | apply below_drew1 | refine below_set ?_ GE259.out) | exact HB.out)) hb); clear BK259; clear HB; have HO286 := n0_; have BK259 := n1_; have HB := n2_; clear n0_ n1_ n2_; (try clear hb); (try clear hb2); (try clear hk); (try clear hi); (try clear ho0)))
                go_ret
                exact ⟨_, by first | rfl | (simp [errW_none, errW_some] <;> rfl) | (simp [*, errW_none, errW_some] <;> rfl), by (with_reducible repeat (first | apply Kd.S_alloc | apply Kd.S_drewN | apply Kd.S_drew)); exact HO286.out, by repeat (first | (with_reducible first | exact HB.out | apply below_alloc | apply pw_below_drewN | apply below_drew1 | refine below_set ?_ GE259.out) | exact HB.out)⟩
              · replace c60 := Bool.eq_false_iff.mpr c60
                subst c60
                have H1 : (if 0 < (l0_2.length : Int) then ((colloquyref03_Table.f kj53 ((rd_T25 l0_2 0).f0) ((rd_T25 l0_2 0).f1) ((rd_T25 l0_2 0).f2) a1).bind fun t288 => (if a0_0 = 6 then ((colloquyref03_same.f kj53 (wrap64 ((a1.size : Int) + 1))).bind fun t291 => ((colloquyref03_either.f kj53 t288 t291).bind fun t294 => (some t294))) else (colloquyref03_Table.l2 kj53 a1 t288 0 a0_0 l0_1 l0_2))) else (none)) = some r := by rw [if_neg (show ¬ (false = true) by decide)] at H; exact H
                clear H
                have H := H1
                clear H1
                by_cases c63 : 0 < (l0_2.length : Int)
                · rw [if_pos c63] at H
                  have c63b0 : decide (0 < (l0_2.length : Int)) = true := decide_eq_true c63
                  have c63b1 : decide (0 < l0_2.length) = true := decide_eq_true (by omega)
                  clear c63
                  replace H := Option.bind_eq_some_iff.mp H
                  obtain ⟨t288, A640, H⟩ := H
                  replace H : (if a0_0 = 6 then ((colloquyref03_same.f kj53 (wrap64 ((a1.size : Int) + 1))).bind fun t291 => ((colloquyref03_either.f kj53 t288 t291).bind fun t294 => (some t294))) else (colloquyref03_Table.l2 kj53 a1 t288 0 a0_0 l0_1 l0_2)) = some r := H
                  have A64 := Aside0.mk A640
                  clear A640
                  by_cases c65 : a0_0 = 6
                  · rw [if_pos c65] at H
                    have c65b0 : (a0_0 == 6) = true := beq_iff_eq.mpr c65
                    have c65b1 : (a0_0 != 6) = false := bne_eq_false_iff_eq.mpr c65
                    clear c65
                    replace H := Option.bind_eq_some_iff.mp H
                    obtain ⟨t291, A660, H⟩ := H
                    replace H : ((colloquyref03_either.f kj53 t288 t291).bind fun t294 => (some t294)) = some r := H
                    have A66 := Aside0.mk A660
                    clear A660
                    replace H := Option.bind_eq_some_iff.mp H
                    obtain ⟨t294, A670, H⟩ := H
                    replace H : (some t294) = some r := H
                    have A67 := Aside0.mk A670
                    clear A670
                    obtain rfl := Option.some.inj H
                    have hcz68_0 : wc.cell? ⟨gb259, 0, none⟩ = some (.int .i64 a0_0) := (blk_cell BK259.out 0).trans rfl
                    have hcz68_1 : wc.cell? ⟨gb259, 1, none⟩ = some (.slice A0_1 l0_1.length c0_1) := (blk_cell BK259.out 1).trans rfl
                    have hcz68_2 : wc.cell? ⟨gb259, 2, none⟩ = some (.slice A0_2 l0_2.length c0_2) := (blk_cell BK259.out 2).trans rfl
                    have hfz68_0 := blk_frozen BK259.out 0
                    have hfz68_1 := blk_frozen BK259.out 1
                    have hfz68_2 := blk_frozen BK259.out 2
                    have p287 : 0 ≤ (0 : Int) := (by omega)
                    have q287 : 0 < (l0_2.length : Int) := of_decide_eq_true (by first | (with_reducible assumption) | assumption)
                    obtain ⟨ad287, A287_1, c287_1, A287_2, c287_2, e287, hx287_0, hx287_1, hx287_2, hl287_1, hi287_1, hl287_2, hi287_2⟩ := at_T25 HR0_2.out 0 p287 q287
                    cases e287
                    have qi287 : (0 < l0_2.length) = True := eq_true (by omega)
                    (try rw [show ((0 : Int)).toNat = 0 from rfl] at hx287_0)
                    (try rw [show 0 * 3 = 0 from rfl] at hx287_0)
                    (try rw [Addr.add_zero'] at hx287_0)
                    (try rw [show ((0 : Int)).toNat = 0 from rfl] at hx287_1)
                    (try rw [show 0 * 3 = 0 from rfl] at hx287_1)
                    (try rw [Addr.add_zero'] at hx287_1)
                    (try rw [show ((0 : Int)).toNat = 0 from rfl] at hx287_2)
                    (try rw [show 0 * 3 = 0 from rfl] at hx287_2)
                    (try rw [Addr.add_zero'] at hx287_2)
                    replace hx287_0 := (HB.out.cell (World.block_lt_of_cell? w _ hx287_0)).trans hx287_0
                    replace hx287_1 := (HB.out.cell (World.block_lt_of_cell? w _ hx287_1)).trans hx287_1
                    replace hx287_2 := (HB.out.cell (World.block_lt_of_cell? w _ hx287_2)).trans hx287_2
                    have HR287_1 := Aside0.mk hi287_1
                    have HC287_1 := Aside0.mk hl287_1
                    clear hi287_1 hl287_1
                    have HR287_2 := Aside0.mk hi287_2
                    have HC287_2 := Aside0.mk hl287_2
                    clear hi287_2 hl287_2
                    replace p287 := eq_true p287
                    replace q287 := eq_true q287
                    go_wp2_with (first | ((with_reducible refine gate_callee (f := 15) rfl ?_); refine goesL_ (some 108) rfl rfl Try.func15 (by kernel_rfl) rfl #[.agg #[.int .i64 ((rd_T25 l0_2 0).f0), .slice A287_1 ((rd_T25 l0_2 0).f1).length c287_1, .slice A287_2 ((rd_T25 l0_2 0).f2).length c287_2], .string a1] rfl (by (try simp only [List.map_toArray, List.map_cons, List.map_nil]); first | done | rfl | (simp only [List.length_drop, List.length_take]; rfl)) ?_; (with_reducible refine (ih kj53 (by have := HJ20.out; have := HJ53.out; omega) ((rd_T25 l0_2 0).f0) _ _ ((rd_T25 l0_2 0).f1) _ _ ((rd_T25 l0_2 0).f2) a1 t288 _ ?side1 ?side2 ?side3 ?side4 A64.out).mono ?_); (case side1 => repeat (first | exact (Kd.C_below HR287_1.out HB.out) | (with_reducible refine Kd.C_alloc ?_ _) | (with_reducible refine Kd.C_drewN ?_ _) | (with_reducible refine Kd.C_drew ?_))); (case side2 => exact HC287_1.out); (case side3 => repeat (first | exact (Kd.C_below HR287_2.out HB.out) | (with_reducible refine Kd.C_alloc ?_ _) | (with_reducible refine Kd.C_drewN ?_ _) | (with_reducible refine Kd.C_drew ?_))); (case side4 => exact HC287_2.out); rintro e w69 ⟨v289, rfl, ho0, hb⟩; refine ⟨_, rfl, ?_⟩; have n0_ := Aside0.mk (Kd.S_lower ho0 (below_size (by repeat (first | (with_reducible first | exact HB.out | apply below_alloc | apply pw_below_drewN | apply below_drew1 | refine below_set ?_ GE259.out) | exact HB.out)))); have n1_ := Aside0.mk (blk_below (g := gb259) (o := .cells #[.int .i64 a0_0, .slice A0_1 l0_1.length c0_1, .slice (some ad287) l0_2.length c0_2] 25 (0, 0)) (by (with_reducible repeat (first | refine blk_drewN ?_ _ | refine blk_drew ?_ | refine blk_alloc ?_ _)); exact BK259.out) hb); have n2_ := Aside0.mk (below_step (by repeat (first | (with_reducible first | exact HB.out | apply below_alloc | apply pw_below_drewN | apply below_drew1 | refine below_set ?_ GE259.out) | exact HB.out)) hb); clear BK259; clear HB; have HO290 := n0_; have BK259 := n1_; have HB := n2_; clear n0_ n1_ n2_; (try clear hb); (try clear hb2); (try clear hk); (try clear hi); (try clear ho0); have hcz70_0 : w69.cell? ⟨gb259, 0, none⟩ = some (.int .i64 a0_0) := (blk_cell BK259.out 0).trans rfl; have hcz70_1 : w69.cell? ⟨gb259, 1, none⟩ = some (.slice A0_1 l0_1.length c0_1) := (blk_cell BK259.out 1).trans rfl; have hcz70_2 : w69.cell? ⟨gb259, 2, none⟩ = some (.slice (some ad287) l0_2.length c0_2) := (blk_cell BK259.out 2).trans rfl; have hfz70_0 := blk_frozen BK259.out 0; have hfz70_1 := blk_frozen BK259.out 1; have hfz70_2 := blk_frozen BK259.out 2) | ((with_reducible refine gate_callee (f := 32) rfl ?_); refine goesL_ (some 116) rfl rfl Try.func32 (by kernel_rfl) rfl #[.int .i64 (wrap64 ((a1.size : Int) + 1))] rfl (by (try simp only [List.map_toArray, List.map_cons, List.map_nil]); first | done | rfl | (simp only [List.length_drop, List.length_take]; rfl)) ?_; (with_reducible refine (colloquyref03_same.calls kj53 (wrap64 ((a1.size : Int) + 1)) t291 _ A66.out).mono ?_); rintro e w71 ⟨v292, rfl, ho0, hb⟩; refine ⟨_, rfl, ?_⟩; have n0_ := Aside0.mk (Kd.S_elder' (by (with_reducible repeat (first | apply Kd.S_alloc | apply Kd.S_drewN | apply Kd.S_drew)); exact HO290.out) (Kd.S_base ho0) hb); have n1_ := Aside0.mk (Kd.S_lower (Kd.S_new' ho0 (Kd.S_lt (by (with_reducible repeat (first | apply Kd.S_alloc | apply Kd.S_drewN | apply Kd.S_drew)); exact HO290.out))) (below_size (by repeat (first | (with_reducible first | exact HB.out | apply below_alloc | apply pw_below_drewN | apply below_drew1 | refine below_set ?_ GE259.out) | exact HB.out)))); have n2_ := Aside0.mk (blk_below (g := gb259) (o := .cells #[.int .i64 a0_0, .slice A0_1 l0_1.length c0_1, .slice (some ad287) l0_2.length c0_2] 25 (0, 0)) (by (with_reducible repeat (first | refine blk_drewN ?_ _ | refine blk_drew ?_ | refine blk_alloc ?_ _)); exact BK259.out) hb); have n3_ := Aside0.mk (below_step (by repeat (first | (with_reducible first | exact HB.out | apply below_alloc | apply pw_below_drewN | apply below_drew1 | refine below_set ?_ GE259.out) | exact HB.out)) hb); clear HO290; clear BK259; clear HB; have HO290 := n0_; have HO293 := n1_; have BK259 := n2_; have HB := n3_; clear n0_ n1_ n2_ n3_; (try clear hb); (try clear hb2); (try clear hk); (try clear hi); (try clear ho0); obtain ⟨Ao72, co72, eo72⟩ := Kd.S_slice HO290.out; subst eo72; obtain ⟨Ao73, co73, eo73⟩ := Kd.S_slice HO293.out; subst eo73) | ((with_reducible refine gate_callee (f := 34) rfl ?_); refine goesL_ (some 117) rfl rfl Try.func34 (by kernel_rfl) rfl #[.slice Ao72 t288.length co72, .slice Ao73 t291.length co73] rfl (by (try simp only [List.map_toArray, List.map_cons, List.map_nil]); first | done | rfl | (simp only [List.length_drop, List.length_take]; rfl)) ?_; (with_reducible refine (colloquyref03_either.calls kj53 _ _ t288 _ _ t291 t294 _ ?side1 ?side2 ?side3 ?side4 A67.out).mono ?_); (case side1 => repeat (first | exact (Kd.S_reads' HO290.out).2.2 | (with_reducible refine Kd.C_alloc ?_ _) | (with_reducible refine Kd.C_drewN ?_ _) | (with_reducible refine Kd.C_drew ?_))); (case side2 => exact (Kd.S_reads' HO290.out).2.1); (case side3 => repeat (first | exact (Kd.S_reads' HO293.out).2.2 | (with_reducible refine Kd.C_alloc ?_ _) | (with_reducible refine Kd.C_drewN ?_ _) | (with_reducible refine Kd.C_drew ?_))); (case side4 => exact (Kd.S_reads' HO293.out).2.1); rintro e w74 ⟨v295, rfl, ho0, hb⟩; refine ⟨_, rfl, ?_⟩; have n0_ := Aside0.mk (Kd.S_elder' (by (with_reducible repeat (first | apply Kd.S_alloc | apply Kd.S_drewN | apply Kd.S_drew)); exact HO290.out) (Kd.S_base ho0) hb); have n1_ := Aside0.mk (Kd.S_elder' (by (with_reducible repeat (first | apply Kd.S_alloc | apply Kd.S_drewN | apply Kd.S_drew)); exact HO293.out) (Kd.S_base ho0) hb); have n2_ := Aside0.mk (Kd.S_lower (Kd.S_new' (Kd.S_new' ho0 (Kd.S_lt (by (with_reducible repeat (first | apply Kd.S_alloc | apply Kd.S_drewN | apply Kd.S_drew)); exact HO290.out))) (Kd.S_lt (by (with_reducible repeat (first | apply Kd.S_alloc | apply Kd.S_drewN | apply Kd.S_drew)); exact HO293.out))) (below_size (by repeat (first | (with_reducible first | exact HB.out | apply below_alloc | apply pw_below_drewN | apply below_drew1 | refine below_set ?_ GE259.out) | exact HB.out)))); have n3_ := Aside0.mk (blk_below (g := gb259) (o := .cells #[.int .i64 a0_0, .slice A0_1 l0_1.length c0_1, .slice (some ad287) l0_2.length c0_2] 25 (0, 0)) (by (with_reducible repeat (first | refine blk_drewN ?_ _ | refine blk_drew ?_ | refine blk_alloc ?_ _)); exact BK259.out) hb); have n4_ := Aside0.mk (below_step (by repeat (first | (with_reducible first | exact HB.out | apply below_alloc | apply pw_below_drewN | apply below_drew1 | refine below_set ?_ GE259.out) | exact HB.out)) hb); clear HO290; clear HO293; clear BK259; clear HB; have HO290 := n0_; have HO293 := n1_; have HO296 := n2_; have BK259 := n3_; have HB := n4_; clear n0_ n1_ n2_ n3_ n4_; (try clear hb); (try clear hb2); (try clear hk); (try clear hi); (try clear ho0)))
                    go_ret
                    exact ⟨_, by first | rfl | (simp [errW_none, errW_some] <;> rfl) | (simp [*, errW_none, errW_some] <;> rfl), by (with_reducible repeat (first | apply Kd.S_alloc | apply Kd.S_drewN | apply Kd.S_drew)); exact Kd.S_mono HO296.out (fun _ hk => trivial), by repeat (first | (with_reducible first | exact HB.out | apply below_alloc | apply pw_below_drewN | apply below_drew1 | refine below_set ?_ GE259.out) | exact HB.out)⟩
                  · rw [if_neg c65] at H
                    have c65b0 : (a0_0 == 6) = false := beq_eq_false_iff_ne.mpr c65
                    have c65b1 : (a0_0 != 6) = true := bne_iff_ne.mpr c65
                    have H' := Aside0.mk H
                    clear H
                    have hcz75_0 : wc.cell? ⟨gb259, 0, none⟩ = some (.int .i64 a0_0) := (blk_cell BK259.out 0).trans rfl
                    have hcz75_1 : wc.cell? ⟨gb259, 1, none⟩ = some (.slice A0_1 l0_1.length c0_1) := (blk_cell BK259.out 1).trans rfl
                    have hcz75_2 : wc.cell? ⟨gb259, 2, none⟩ = some (.slice A0_2 l0_2.length c0_2) := (blk_cell BK259.out 2).trans rfl
                    have hfz75_0 := blk_frozen BK259.out 0
                    have hfz75_1 := blk_frozen BK259.out 1
                    have hfz75_2 := blk_frozen BK259.out 2
                    have p287 : 0 ≤ (0 : Int) := (by omega)
                    have q287 : 0 < (l0_2.length : Int) := of_decide_eq_true (by first | (with_reducible assumption) | assumption)
                    obtain ⟨ad287, A287_1, c287_1, A287_2, c287_2, e287, hx287_0, hx287_1, hx287_2, hl287_1, hi287_1, hl287_2, hi287_2⟩ := at_T25 HR0_2.out 0 p287 q287
                    cases e287
                    have qi287 : (0 < l0_2.length) = True := eq_true (by omega)
                    (try rw [show ((0 : Int)).toNat = 0 from rfl] at hx287_0)
                    (try rw [show 0 * 3 = 0 from rfl] at hx287_0)
                    (try rw [Addr.add_zero'] at hx287_0)
                    (try rw [show ((0 : Int)).toNat = 0 from rfl] at hx287_1)
                    (try rw [show 0 * 3 = 0 from rfl] at hx287_1)
                    (try rw [Addr.add_zero'] at hx287_1)
                    (try rw [show ((0 : Int)).toNat = 0 from rfl] at hx287_2)
                    (try rw [show 0 * 3 = 0 from rfl] at hx287_2)
                    (try rw [Addr.add_zero'] at hx287_2)
                    replace hx287_0 := (HB.out.cell (World.block_lt_of_cell? w _ hx287_0)).trans hx287_0
                    replace hx287_1 := (HB.out.cell (World.block_lt_of_cell? w _ hx287_1)).trans hx287_1
                    replace hx287_2 := (HB.out.cell (World.block_lt_of_cell? w _ hx287_2)).trans hx287_2
                    have HR287_1 := Aside0.mk hi287_1
                    have HC287_1 := Aside0.mk hl287_1
                    clear hi287_1 hl287_1
                    have HR287_2 := Aside0.mk hi287_2
                    have HC287_2 := Aside0.mk hl287_2
                    clear hi287_2 hl287_2
                    replace p287 := eq_true p287
                    replace q287 := eq_true q287
                    go_wp2_with (first | ((with_reducible refine gate_callee (f := 15) rfl ?_); refine goesL_ (some 108) rfl rfl Try.func15 (by kernel_rfl) rfl #[.agg #[.int .i64 ((rd_T25 l0_2 0).f0), .slice A287_1 ((rd_T25 l0_2 0).f1).length c287_1, .slice A287_2 ((rd_T25 l0_2 0).f2).length c287_2], .string a1] rfl (by (try simp only [List.map_toArray, List.map_cons, List.map_nil]); first | done | rfl | (simp only [List.length_drop, List.length_take]; rfl)) ?_; (with_reducible refine (ih kj53 (by have := HJ20.out; have := HJ53.out; omega) ((rd_T25 l0_2 0).f0) _ _ ((rd_T25 l0_2 0).f1) _ _ ((rd_T25 l0_2 0).f2) a1 t288 _ ?side1 ?side2 ?side3 ?side4 A64.out).mono ?_); (case side1 => repeat (first | exact (Kd.C_below HR287_1.out HB.out) | (with_reducible refine Kd.C_alloc ?_ _) | (with_reducible refine Kd.C_drewN ?_ _) | (with_reducible refine Kd.C_drew ?_))); (case side2 => exact HC287_1.out); (case side3 => repeat (first | exact (Kd.C_below HR287_2.out HB.out) | (with_reducible refine Kd.C_alloc ?_ _) | (with_reducible refine Kd.C_drewN ?_ _) | (with_reducible refine Kd.C_drew ?_))); (case side4 => exact HC287_2.out); rintro e w76 ⟨v289, rfl, ho0, hb⟩; refine ⟨_, rfl, ?_⟩; have n0_ := Aside0.mk (Kd.S_lower ho0 (below_size (by repeat (first | (with_reducible first | exact HB.out | apply below_alloc | apply pw_below_drewN | apply below_drew1 | refine below_set ?_ GE259.out) | exact HB.out)))); have n1_ := Aside0.mk (blk_below (g := gb259) (o := .cells #[.int .i64 a0_0, .slice A0_1 l0_1.length c0_1, .slice (some ad287) l0_2.length c0_2] 25 (0, 0)) (by (with_reducible repeat (first | refine blk_drewN ?_ _ | refine blk_drew ?_ | refine blk_alloc ?_ _)); exact BK259.out) hb); have n2_ := Aside0.mk (below_step (by repeat (first | (with_reducible first | exact HB.out | apply below_alloc | apply pw_below_drewN | apply below_drew1 | refine below_set ?_ GE259.out) | exact HB.out)) hb); clear BK259; clear HB; have HO290 := n0_; have BK259 := n1_; have HB := n2_; clear n0_ n1_ n2_; (try clear hb); (try clear hb2); (try clear hk); (try clear hi); (try clear ho0); have hcz77_0 : w76.cell? ⟨gb259, 0, none⟩ = some (.int .i64 a0_0) := (blk_cell BK259.out 0).trans rfl; have hcz77_1 : w76.cell? ⟨gb259, 1, none⟩ = some (.slice A0_1 l0_1.length c0_1) := (blk_cell BK259.out 1).trans rfl; have hcz77_2 : w76.cell? ⟨gb259, 2, none⟩ = some (.slice (some ad287) l0_2.length c0_2) := (blk_cell BK259.out 2).trans rfl; have hfz77_0 := blk_frozen BK259.out 0; have hfz77_1 := blk_frozen BK259.out 1; have hfz77_2 := blk_frozen BK259.out 2))
                    go_loopg [11] kj53 (fun kq v11 w' => ∃ (x10_3 : List (List Bool)) (x11_3 : Int), v11 = .int .i64 x11_3 ∧ Aside0 (colloquyref03_Table.l2 kq a1 x10_3 x11_3 a0_0 l0_1 l0_2 = some r) ∧ Aside0 (kq ≤ kj53) ∧ Aside0 (Kd.S (Kd.slice 4 Kd.bool) 61 w' w.heap.size (fun _ => True) v289 x10_3) ∧ Aside0 (w'.heap[gb259]? = some (.cells #[.int .i64 a0_0, (.slice A0_1 l0_1.length c0_1), (.slice (some ad287) l0_2.length c0_2)] 25 (0, 0))) ∧ Aside0 (Below w.heap.size w w'))
                    case atStart => exact ⟨(t288), (0), (by first | rfl | (simp; done) | (simp [*]; done)), H', ⟨Nat.le_refl _⟩, ⟨by (with_reducible repeat (first | apply Kd.S_alloc | apply Kd.S_drewN | apply Kd.S_drew)); exact HO290.out⟩, ⟨by (with_reducible repeat (first | refine blk_drewN ?_ _ | refine blk_drew ?_ | refine blk_alloc ?_ _)); exact BK259.out⟩, ⟨by repeat (first | (with_reducible first | exact HB.out | apply below_alloc | apply pw_below_drewN | apply below_drew1 | refine below_set ?_ GE259.out) | exact HB.out)⟩⟩
                    case round =>
                      clear H'
                      try clear c1
                      try clear p1
                      try clear q1
                      try clear hx1
                      try clear c2
                      try clear p2
                      try clear q2
                      try clear hx2
                      try clear qi2
                      try clear c3
                      try clear c3b0
                      try clear c3b1
                      try clear c5
                      try clear c6
                      try clear p6
                      try clear c8
                      try clear c8b0
                      try clear c9
                      try clear c9b0
                      try clear c10
                      try clear c10b0
                      try clear p11
                      try clear q11
                      try clear hx11
                      try clear c14
                      try clear c14b0
                      try clear c15
                      try clear c15b0
                      try clear p16
                      try clear q16
                      try clear hx16
                      try clear hf16
                      try clear c19
                      try clear q19
                      try clear c24
                      try clear c24b0
                      try clear c24b1
                      try clear c26
                      try clear p26
                      try clear q26
                      try clear hx26
                      try clear c27
                      try clear p27
                      try clear q27
                      try clear hx27
                      try clear c28
                      try clear p28
                      try clear q28
                      try clear hx28
                      try clear qi28
                      try clear c30
                      try clear c31
                      try clear c32
                      try clear c32b0
                      try clear c32b1
                      try clear c33
                      try clear c34
                      try clear c35
                      try clear c35b0
                      try clear c36
                      try clear c36b0
                      try clear c38
                      try clear c38b0
                      try clear c38b1
                      try clear c55
                      try clear c55b0
                      try clear c57
                      try clear c57b0
                      try clear c60
                      try clear c63
                      try clear c63b0
                      try clear c63b1
                      try clear p64
                      try clear c65
                      try clear c65b0
                      try clear c65b1
                      try clear hcz23_0
                      try clear hcz23_1
                      try clear hcz23_2
                      try clear hcz25_0
                      try clear hcz25_1
                      try clear hcz25_2
                      try clear hcz26_0
                      try clear hcz26_1
                      try clear hcz26_2
                      try clear hcz31_0
                      try clear hcz31_1
                      try clear hcz31_2
                      try clear hcz40_0
                      try clear hcz40_1
                      try clear hcz40_2
                      try clear hcz42_0
                      try clear hcz42_1
                      try clear hcz42_2
                      try clear hcz47_0
                      try clear hcz47_1
                      try clear hcz47_2
                      try clear hcz49_0
                      try clear hcz49_1
                      try clear hcz49_2
                      try clear hcz53_0
                      try clear hcz53_1
                      try clear hcz53_2
                      try clear hcz56_0
                      try clear hcz56_1
                      try clear hcz56_2
                      try clear hcz58_0
                      try clear hcz58_1
                      try clear hcz58_2
                      try clear hcz59_0
                      try clear hcz59_1
                      try clear hcz59_2
                      try clear hcz68_0
                      try clear hcz68_1
                      try clear hcz68_2
                      try clear hcz6_0
                      try clear hcz6_1
                      try clear hcz6_2
                      try clear hcz70_0
                      try clear hcz70_1
                      try clear hcz70_2
                      try clear hcz75_0
                      try clear hcz75_1
                      try clear hcz75_2
                      try clear hcz77_0
                      try clear hcz77_1
                      try clear hcz77_2
                      try clear hfz23_0
                      try clear hfz23_1
                      try clear hfz23_2
                      try clear hfz25_0
                      try clear hfz25_1
                      try clear hfz25_2
                      try clear hfz26_0
                      try clear hfz26_1
                      try clear hfz26_2
                      try clear hfz31_0
                      try clear hfz31_1
                      try clear hfz31_2
                      try clear hfz40_0
                      try clear hfz40_1
                      try clear hfz40_2
                      try clear hfz42_0
                      try clear hfz42_1
                      try clear hfz42_2
                      try clear hfz47_0
                      try clear hfz47_1
                      try clear hfz47_2
                      try clear hfz49_0
                      try clear hfz49_1
                      try clear hfz49_2
                      try clear hfz53_0
                      try clear hfz53_1
                      try clear hfz53_2
                      try clear hfz56_0
                      try clear hfz56_1
                      try clear hfz56_2
                      try clear hfz58_0
                      try clear hfz58_1
                      try clear hfz58_2
                      try clear hfz59_0
                      try clear hfz59_1
                      try clear hfz59_2
                      try clear hfz68_0
                      try clear hfz68_1
                      try clear hfz68_2
                      try clear hfz6_0
                      try clear hfz6_1
                      try clear hfz6_2
                      try clear hfz70_0
                      try clear hfz70_1
                      try clear hfz70_2
                      try clear hfz75_0
                      try clear hfz75_1
                      try clear hfz75_2
                      try clear hfz77_0
                      try clear hfz77_1
                      try clear hfz77_2
                      try clear hx16_0
                      try clear hx263_0
                      try clear hx274_0
                      try clear hx274_1
                      try clear hx274_2
                      try clear hx287_0
                      try clear hx287_1
                      try clear hx287_2
                      try clear p1
                      try clear p11
                      try clear p16
                      try clear p2
                      try clear p26
                      try clear p263
                      try clear p27
                      try clear p274
                      try clear p287
                      try clear p6
                      try clear q1
                      try clear q11
                      try clear q16
                      try clear q19
                      try clear q2
                      try clear q26
                      try clear q263
                      try clear q27
                      try clear q274
                      try clear q287
                      obtain ⟨x10_3, x11_3, rfl, HA, HK3, HO_10, BK259, HB⟩ := hrel
                      cases gk with
                      | zero => exact absurd HA.out (by simp [colloquyref03_Table.l2])
                      | succ k3 =>
                        have H := HA.out
                        clear HA
                        simp only [colloquyref03_Table.l2] at H
                        by_cases c78 : x11_3 < (x10_3.length : Int)
                        · rw [if_pos c78] at H
                          have c78b0 : decide (x11_3 < (x10_3.length : Int)) = true := decide_eq_true c78
                          clear c78
                          have H' := Aside0.mk H
                          clear H
                          obtain ⟨Ao79, co79, eo79⟩ := Kd.S_slice HO_10.out
                          subst eo79
                          go_wp2
                          go_loopg [12] k3 (fun kq v12 w' => ∃ (x10_4 : List (List Bool)) (x12_4 : Int), v12 = .int .i64 x12_4 ∧ Aside0 (colloquyref03_Table.l3 kq a1 x10_4 x11_3 x12_4 a0_0 l0_1 l0_2 = some r) ∧ Aside0 (kq ≤ k3) ∧ Aside0 (Kd.S (Kd.slice 4 Kd.bool) 61 w' w.heap.size (fun _ => True) (.slice Ao79 x10_3.length co79) x10_4) ∧ Aside0 (w'.heap[gb259]? = some (.cells #[.int .i64 a0_0, (.slice A0_1 l0_1.length c0_1), (.slice (some ad287) l0_2.length c0_2)] 25 (0, 0))) ∧ Aside0 (Below w.heap.size w w'))
                          case atStart => exact ⟨(x10_3), (0), (by first | rfl | (simp; done) | (simp [*]; done)), H', ⟨Nat.le_refl _⟩, ⟨by (with_reducible repeat (first | apply Kd.S_alloc | apply Kd.S_drewN | apply Kd.S_drew)); exact HO_10.out⟩, ⟨by (with_reducible repeat (first | refine blk_drewN ?_ _ | refine blk_drew ?_ | refine blk_alloc ?_ _)); exact BK259.out⟩, ⟨by repeat (first | (with_reducible first | exact HB.out | apply below_alloc | apply pw_below_drewN | apply below_drew1 | refine below_set ?_ GE259.out) | exact HB.out)⟩⟩
                          case round =>
                            clear H'
                            try clear c1
                            try clear p1
                            try clear q1
                            try clear hx1
                            try clear c2
                            try clear p2
                            try clear q2
                            try clear hx2
                            try clear qi2
                            try clear c3
                            try clear c3b0
                            try clear c3b1
                            try clear c5
                            try clear c6
                            try clear p6
                            try clear c7
                            try clear c8
                            try clear c8b0
                            try clear c9
                            try clear c9b0
                            try clear c10
                            try clear c10b0
                            try clear p11
                            try clear q11
                            try clear hx11
                            try clear c14
                            try clear c14b0
                            try clear c15
                            try clear c15b0
                            try clear p16
                            try clear q16
                            try clear hx16
                            try clear hf16
                            try clear c19
                            try clear q19
                            try clear c24
                            try clear c24b0
                            try clear c24b1
                            try clear c26
                            try clear p26
                            try clear q26
                            try clear hx26
                            try clear c27
                            try clear p27
                            try clear q27
                            try clear hx27
                            try clear c28
                            try clear p28
                            try clear q28
                            try clear hx28
                            try clear qi28
                            try clear c30
                            try clear c31
                            try clear c32
                            try clear c32b0
                            try clear c32b1
                            try clear c33
                            try clear c34
                            try clear c35
                            try clear c35b0
                            try clear c36
                            try clear c36b0
                            try clear c38
                            try clear c38b0
                            try clear c38b1
                            try clear c55
                            try clear c55b0
                            try clear c57
                            try clear c57b0
                            try clear c60
                            try clear c63
                            try clear c63b0
                            try clear c63b1
                            try clear p64
                            try clear c65
                            try clear c65b0
                            try clear c65b1
                            try clear c78
                            try clear c78b0
                            try clear hcz23_0
                            try clear hcz23_1
                            try clear hcz23_2
                            try clear hcz25_0
                            try clear hcz25_1
                            try clear hcz25_2
                            try clear hcz26_0
                            try clear hcz26_1
                            try clear hcz26_2
                            try clear hcz31_0
                            try clear hcz31_1
                            try clear hcz31_2
                            try clear hcz40_0
                            try clear hcz40_1
                            try clear hcz40_2
                            try clear hcz42_0
                            try clear hcz42_1
                            try clear hcz42_2
                            try clear hcz47_0
                            try clear hcz47_1
                            try clear hcz47_2
                            try clear hcz49_0
                            try clear hcz49_1
                            try clear hcz49_2
                            try clear hcz53_0
                            try clear hcz53_1
                            try clear hcz53_2
                            try clear hcz56_0
                            try clear hcz56_1
                            try clear hcz56_2
                            try clear hcz58_0
                            try clear hcz58_1
                            try clear hcz58_2
                            try clear hcz59_0
                            try clear hcz59_1
                            try clear hcz59_2
                            try clear hcz68_0
                            try clear hcz68_1
                            try clear hcz68_2
                            try clear hcz6_0
                            try clear hcz6_1
                            try clear hcz6_2
                            try clear hcz70_0
                            try clear hcz70_1
                            try clear hcz70_2
                            try clear hcz75_0
                            try clear hcz75_1
                            try clear hcz75_2
                            try clear hcz77_0
                            try clear hcz77_1
                            try clear hcz77_2
                            try clear hfz23_0
                            try clear hfz23_1
                            try clear hfz23_2
                            try clear hfz25_0
                            try clear hfz25_1
                            try clear hfz25_2
                            try clear hfz26_0
                            try clear hfz26_1
                            try clear hfz26_2
                            try clear hfz31_0
                            try clear hfz31_1
                            try clear hfz31_2
                            try clear hfz40_0
                            try clear hfz40_1
                            try clear hfz40_2
                            try clear hfz42_0
                            try clear hfz42_1
                            try clear hfz42_2
                            try clear hfz47_0
                            try clear hfz47_1
                            try clear hfz47_2
                            try clear hfz49_0
                            try clear hfz49_1
                            try clear hfz49_2
                            try clear hfz53_0
                            try clear hfz53_1
                            try clear hfz53_2
                            try clear hfz56_0
                            try clear hfz56_1
                            try clear hfz56_2
                            try clear hfz58_0
                            try clear hfz58_1
                            try clear hfz58_2
                            try clear hfz59_0
                            try clear hfz59_1
                            try clear hfz59_2
                            try clear hfz68_0
                            try clear hfz68_1
                            try clear hfz68_2
                            try clear hfz6_0
                            try clear hfz6_1
                            try clear hfz6_2
                            try clear hfz70_0
                            try clear hfz70_1
                            try clear hfz70_2
                            try clear hfz75_0
                            try clear hfz75_1
                            try clear hfz75_2
                            try clear hfz77_0
                            try clear hfz77_1
                            try clear hfz77_2
                            try clear hx16_0
                            try clear hx263_0
                            try clear hx274_0
                            try clear hx274_1
                            try clear hx274_2
                            try clear hx287_0
                            try clear hx287_1
                            try clear hx287_2
                            try clear p1
                            try clear p11
                            try clear p16
                            try clear p2
                            try clear p26
                            try clear p263
                            try clear p27
                            try clear p274
                            try clear p28
                            try clear p287
                            try clear p6
                            try clear p64
                            try clear q1
                            try clear q11
                            try clear q16
                            try clear q19
                            try clear q2
                            try clear q26
                            try clear q263
                            try clear q27
                            try clear q274
                            try clear q28
                            try clear q287
                            obtain ⟨x10_4, x12_4, rfl, HA, HK4, HO_10, BK259, HB⟩ := hrel
                            have hl10_4 := (Kd.S_reads' HO_10.out).1
                            rw [hl10_4] at HO_10
                            (try simp only [hl10_4])
                            (try simp only [hl10_4] at BK259)
                            cases gk with
                            | zero => exact absurd HA.out (by simp [colloquyref03_Table.l3])
                            | succ k4 =>
                              have H := HA.out
                              clear HA
                              simp only [colloquyref03_Table.l3] at H
                              by_cases c80 : x12_4 < (x10_4.length : Int)
                              · rw [if_pos c80] at H
                                have c80b0 : decide (x12_4 < (x10_4.length : Int)) = true := decide_eq_true c80
                                clear c80
                                have H' := Aside0.mk H
                                clear H
                                go_wp2
                                go_loopg [13] k4 (fun kq v13 w' => ∃ (x10_5 : List (List Bool)) (x13_5 : Int), v13 = .int .i64 x13_5 ∧ Aside0 (colloquyref03_Table.l4 kq a1 x10_5 x11_3 x12_4 x13_5 a0_0 l0_1 l0_2 = some r) ∧ Aside0 (kq ≤ k4) ∧ Aside0 (Kd.S (Kd.slice 4 Kd.bool) 61 w' w.heap.size (fun _ => True) (.slice Ao79 x10_4.length co79) x10_5) ∧ Aside0 (w'.heap[gb259]? = some (.cells #[.int .i64 a0_0, (.slice A0_1 l0_1.length c0_1), (.slice (some ad287) l0_2.length c0_2)] 25 (0, 0))) ∧ Aside0 (Below w.heap.size w w'))
                                case atStart => exact ⟨(x10_4), (0), (by first | rfl | (simp; done) | (simp [*]; done)), H', ⟨Nat.le_refl _⟩, ⟨by (try simp only [hl10_4]); (with_reducible repeat (first | apply Kd.S_alloc | apply Kd.S_drewN | apply Kd.S_drew)); exact HO_10.out⟩, ⟨by (try simp only [hl10_4]); (with_reducible repeat (first | refine blk_drewN ?_ _ | refine blk_drew ?_ | refine blk_alloc ?_ _)); exact BK259.out⟩, ⟨by repeat (first | (with_reducible first | exact HB.out | apply below_alloc | apply pw_below_drewN | apply below_drew1 | refine below_set ?_ GE259.out) | exact HB.out)⟩⟩
                                case round =>
                                  clear H'
                                  try clear c1
                                  try clear p1
                                  try clear q1
                                  try clear hx1
                                  try clear c2
                                  try clear p2
                                  try clear q2
                                  try clear hx2
                                  try clear qi2
                                  try clear c3
                                  try clear c3b0
                                  try clear c3b1
                                  try clear c5
                                  try clear c6
                                  try clear p6
                                  try clear c7
                                  try clear c8
                                  try clear c8b0
                                  try clear c9
                                  try clear c9b0
                                  try clear c10
                                  try clear c10b0
                                  try clear p11
                                  try clear q11
                                  try clear hx11
                                  try clear c14
                                  try clear c14b0
                                  try clear c15
                                  try clear c15b0
                                  try clear p16
                                  try clear q16
                                  try clear hx16
                                  try clear hf16
                                  try clear c19
                                  try clear q19
                                  try clear c24
                                  try clear c24b0
                                  try clear c24b1
                                  try clear c26
                                  try clear p26
                                  try clear q26
                                  try clear hx26
                                  try clear c27
                                  try clear p27
                                  try clear q27
                                  try clear hx27
                                  try clear c28
                                  try clear p28
                                  try clear q28
                                  try clear hx28
                                  try clear qi28
                                  try clear c30
                                  try clear c31
                                  try clear c32
                                  try clear c32b0
                                  try clear c32b1
                                  try clear c33
                                  try clear c34
                                  try clear c35
                                  try clear c35b0
                                  try clear c36
                                  try clear c36b0
                                  try clear c38
                                  try clear c38b0
                                  try clear c38b1
                                  try clear c55
                                  try clear c55b0
                                  try clear c57
                                  try clear c57b0
                                  try clear c60
                                  try clear c63
                                  try clear c63b0
                                  try clear c63b1
                                  try clear p64
                                  try clear c65
                                  try clear c65b0
                                  try clear c65b1
                                  try clear c78
                                  try clear c78b0
                                  try clear c80
                                  try clear c80b0
                                  try clear hcz23_0
                                  try clear hcz23_1
                                  try clear hcz23_2
                                  try clear hcz25_0
                                  try clear hcz25_1
                                  try clear hcz25_2
                                  try clear hcz26_0
                                  try clear hcz26_1
                                  try clear hcz26_2
                                  try clear hcz31_0
                                  try clear hcz31_1
                                  try clear hcz31_2
                                  try clear hcz40_0
                                  try clear hcz40_1
                                  try clear hcz40_2
                                  try clear hcz42_0
                                  try clear hcz42_1
                                  try clear hcz42_2
                                  try clear hcz47_0
                                  try clear hcz47_1
                                  try clear hcz47_2
                                  try clear hcz49_0
                                  try clear hcz49_1
                                  try clear hcz49_2
                                  try clear hcz53_0
                                  try clear hcz53_1
                                  try clear hcz53_2
                                  try clear hcz56_0
                                  try clear hcz56_1
                                  try clear hcz56_2
                                  try clear hcz58_0
                                  try clear hcz58_1
                                  try clear hcz58_2
                                  try clear hcz59_0
                                  try clear hcz59_1
                                  try clear hcz59_2
                                  try clear hcz68_0
                                  try clear hcz68_1
                                  try clear hcz68_2
                                  try clear hcz6_0
                                  try clear hcz6_1
                                  try clear hcz6_2
                                  try clear hcz70_0
                                  try clear hcz70_1
                                  try clear hcz70_2
                                  try clear hcz75_0
                                  try clear hcz75_1
                                  try clear hcz75_2
                                  try clear hcz77_0
                                  try clear hcz77_1
                                  try clear hcz77_2
                                  try clear hfz23_0
                                  try clear hfz23_1
                                  try clear hfz23_2
                                  try clear hfz25_0
                                  try clear hfz25_1
                                  try clear hfz25_2
                                  try clear hfz26_0
                                  try clear hfz26_1
                                  try clear hfz26_2
                                  try clear hfz31_0
                                  try clear hfz31_1
                                  try clear hfz31_2
                                  try clear hfz40_0
                                  try clear hfz40_1
                                  try clear hfz40_2
                                  try clear hfz42_0
                                  try clear hfz42_1
                                  try clear hfz42_2
                                  try clear hfz47_0
                                  try clear hfz47_1
                                  try clear hfz47_2
                                  try clear hfz49_0
                                  try clear hfz49_1
                                  try clear hfz49_2
                                  try clear hfz53_0
                                  try clear hfz53_1
                                  try clear hfz53_2
                                  try clear hfz56_0
                                  try clear hfz56_1
                                  try clear hfz56_2
                                  try clear hfz58_0
                                  try clear hfz58_1
                                  try clear hfz58_2
                                  try clear hfz59_0
                                  try clear hfz59_1
                                  try clear hfz59_2
                                  try clear hfz68_0
                                  try clear hfz68_1
                                  try clear hfz68_2
                                  try clear hfz6_0
                                  try clear hfz6_1
                                  try clear hfz6_2
                                  try clear hfz70_0
                                  try clear hfz70_1
                                  try clear hfz70_2
                                  try clear hfz75_0
                                  try clear hfz75_1
                                  try clear hfz75_2
                                  try clear hfz77_0
                                  try clear hfz77_1
                                  try clear hfz77_2
                                  try clear hx16_0
                                  try clear hx263_0
                                  try clear hx274_0
                                  try clear hx274_1
                                  try clear hx274_2
                                  try clear hx287_0
                                  try clear hx287_1
                                  try clear hx287_2
                                  try clear p1
                                  try clear p11
                                  try clear p16
                                  try clear p2
                                  try clear p26
                                  try clear p263
                                  try clear p27
                                  try clear p274
                                  try clear p28
                                  try clear p287
                                  try clear p6
                                  try clear p64
                                  try clear q1
                                  try clear q11
                                  try clear q16
                                  try clear q19
                                  try clear q2
                                  try clear q26
                                  try clear q263
                                  try clear q27
                                  try clear q274
                                  try clear q28
                                  try clear q287
                                  obtain ⟨x10_5, x13_5, rfl, HA, HK5, HO_10, BK259, HB⟩ := hrel
                                  have hl10_5 := (Kd.S_reads' HO_10.out).1
                                  rw [hl10_5] at HO_10
                                  (try simp only [hl10_5])
                                  (try simp only [hl10_5] at BK259)
                                  cases gk with
                                  | zero => exact absurd HA.out (by simp [colloquyref03_Table.l4])
                                  | succ k5 =>
                                    have H := HA.out
                                    clear HA
                                    simp only [colloquyref03_Table.l4] at H
                                    by_cases c81 : x13_5 < (x10_5.length : Int)
                                    · rw [if_pos c81] at H
                                      have c81b0 : decide (x13_5 < (x10_5.length : Int)) = true := decide_eq_true c81
                                      clear c81
                                      by_cases c82 : 0 ≤ x12_4
                                      · rw [if_pos c82] at H
                                        have c82b0 : decide (0 ≤ x12_4) = true := decide_eq_true c82
                                        clear c82
                                        by_cases c83 : x12_4 < (x10_5.length : Int)
                                        · rw [if_pos c83] at H
                                          have c83b0 : decide (x12_4 < (x10_5.length : Int)) = true := decide_eq_true c83
                                          clear c83
                                          by_cases c84 : 0 ≤ x11_3
                                          · rw [if_pos c84] at H
                                            have c84b0 : decide (0 ≤ x11_3) = true := decide_eq_true c84
                                            clear c84
                                            by_cases c85 : x11_3 < ((rd_L6 x10_5 x12_4).length : Int)
                                            · rw [if_pos c85] at H
                                              have c85b0 : decide (x11_3 < ((rd_L6 x10_5 x12_4).length : Int)) = true := decide_eq_true c85
                                              clear c85
                                              obtain ⟨bq86, hbq86⟩ : ∃ b_ : Bool, b_ = (rdOf false (rd_L6 x10_5 x12_4) x11_3) := ⟨_, rfl⟩
                                              replace H : (if bq86 = true then (if 0 ≤ x13_5 then (if x13_5 < ((rd_L6 x10_5 x12_4).length : Int) then (if rdOf false (rd_L6 x10_5 x12_4) x13_5 = true then (colloquyref03_Table.l4 k5 a1 (x10_5.set (x12_4 : Int).toNat ((rd_L6 x10_5 x12_4).set (x13_5 : Int).toNat true)) x11_3 x12_4 (wrap64 (x13_5 + 1)) a0_0 l0_1 l0_2) else (if x11_3 < (x10_5.length : Int) then (if x13_5 < ((rd_L6 x10_5 x11_3).length : Int) then (colloquyref03_Table.l4 k5 a1 (x10_5.set (x12_4 : Int).toNat ((rd_L6 x10_5 x12_4).set (x13_5 : Int).toNat (rdOf false (rd_L6 x10_5 x11_3) x13_5))) x11_3 x12_4 (wrap64 (x13_5 + 1)) a0_0 l0_1 l0_2) else (none)) else (none))) else (none)) else (none)) else (colloquyref03_Table.l3 k5 a1 x10_5 x11_3 (wrap64 (x12_4 + 1)) a0_0 l0_1 l0_2)) = some r := by rw [← hbq86] at H; exact H
                                              have Nbq86 := Aside0.mk hbq86
                                              clear hbq86
                                              by_cases c87 : bq86 = true
                                              · subst c87
                                                have H1 : (if 0 ≤ x13_5 then (if x13_5 < ((rd_L6 x10_5 x12_4).length : Int) then (if rdOf false (rd_L6 x10_5 x12_4) x13_5 = true then (colloquyref03_Table.l4 k5 a1 (x10_5.set (x12_4 : Int).toNat ((rd_L6 x10_5 x12_4).set (x13_5 : Int).toNat true)) x11_3 x12_4 (wrap64 (x13_5 + 1)) a0_0 l0_1 l0_2) else (if x11_3 < (x10_5.length : Int) then (if x13_5 < ((rd_L6 x10_5 x11_3).length : Int) then (colloquyref03_Table.l4 k5 a1 (x10_5.set (x12_4 : Int).toNat ((rd_L6 x10_5 x12_4).set (x13_5 : Int).toNat (rdOf false (rd_L6 x10_5 x11_3) x13_5))) x11_3 x12_4 (wrap64 (x13_5 + 1)) a0_0 l0_1 l0_2) else (none)) else (none))) else (none)) else (none)) = some r := by rw [if_pos rfl] at H; exact H
                                                clear H
                                                have H := H1
                                                clear H1
                                                by_cases c88 : 0 ≤ x13_5
                                                · rw [if_pos c88] at H
                                                  have c88b0 : decide (0 ≤ x13_5) = true := decide_eq_true c88
                                                  clear c88
                                                  by_cases c89 : x13_5 < ((rd_L6 x10_5 x12_4).length : Int)
                                                  · rw [if_pos c89] at H
                                                    have c89b0 : decide (x13_5 < ((rd_L6 x10_5 x12_4).length : Int)) = true := decide_eq_true c89
                                                    clear c89
                                                    obtain ⟨bq90, hbq90⟩ : ∃ b_ : Bool, b_ = (rdOf false (rd_L6 x10_5 x12_4) x13_5) := ⟨_, rfl⟩
                                                    replace H : (if bq90 = true then (colloquyref03_Table.l4 k5 a1 (x10_5.set (x12_4 : Int).toNat ((rd_L6 x10_5 x12_4).set (x13_5 : Int).toNat true)) x11_3 x12_4 (wrap64 (x13_5 + 1)) a0_0 l0_1 l0_2) else (if x11_3 < (x10_5.length : Int) then (if x13_5 < ((rd_L6 x10_5 x11_3).length : Int) then (colloquyref03_Table.l4 k5 a1 (x10_5.set (x12_4 : Int).toNat ((rd_L6 x10_5 x12_4).set (x13_5 : Int).toNat (rdOf false (rd_L6 x10_5 x11_3) x13_5))) x11_3 x12_4 (wrap64 (x13_5 + 1)) a0_0 l0_1 l0_2) else (none)) else (none))) = some r := by rw [← hbq90] at H; exact H
                                                    have Nbq90 := Aside0.mk hbq90
                                                    clear hbq90
                                                    by_cases c91 : bq90 = true
                                                    · subst c91
                                                      have H1 : (colloquyref03_Table.l4 k5 a1 (x10_5.set (x12_4 : Int).toNat ((rd_L6 x10_5 x12_4).set (x13_5 : Int).toNat true)) x11_3 x12_4 (wrap64 (x13_5 + 1)) a0_0 l0_1 l0_2) = some r := by rw [if_pos rfl] at H; exact H
                                                      clear H
                                                      have H := H1
                                                      clear H1
                                                      obtain ⟨y302, hy302⟩ : ∃ y_ : List Bool, y_ = ((rd_L6 x10_5 x12_4).set (x13_5 : Int).toNat true) := ⟨_, rfl⟩
                                                      replace H : (colloquyref03_Table.l4 k5 a1 (x10_5.set (x12_4 : Int).toNat y302) x11_3 x12_4 (wrap64 (x13_5 + 1)) a0_0 l0_1 l0_2) = some r := by first | (rw [hy302]; with_reducible exact H) | (have H2_ := (Option.bind_some _ _).symm.trans H; rw [hy302]; with_reducible exact H2_) | (have H2_ := (Option.bind_some _ _).symm.trans H; with_reducible exact H2_) | with_reducible exact H | (rw [hy302]; exact H) | exact H
                                                      have Ny302 := Aside0.mk hy302
                                                      clear hy302
                                                      obtain ⟨y304, hy304⟩ : ∃ y_ : List (List Bool), y_ = (x10_5.set (x12_4 : Int).toNat y302) := ⟨_, rfl⟩
                                                      replace H : (colloquyref03_Table.l4 k5 a1 y304 x11_3 x12_4 (wrap64 (x13_5 + 1)) a0_0 l0_1 l0_2) = some r := by first | (rw [hy304]; with_reducible exact H) | (have H2_ := (Option.bind_some _ _).symm.trans H; rw [hy304]; with_reducible exact H2_) | (have H2_ := (Option.bind_some _ _).symm.trans H; with_reducible exact H2_) | with_reducible exact H | (rw [hy304]; exact H) | exact H
                                                      have Ny304 := Aside0.mk hy304
                                                      clear hy304
                                                      have H' := Aside0.mk H
                                                      clear H
                                                      have p297 : 0 ≤ (x12_4 : Int) := of_decide_eq_true (by first | (with_reducible assumption) | assumption)
                                                      have q297 : x12_4 < (x10_5.length : Int) := of_decide_eq_true (by first | (with_reducible assumption) | assumption)
                                                      obtain ⟨ad297, A297_0, c297_0, e297, hx297_0, hl297_0, hi297_0⟩ := at_L6 (Kd.S_reads' HO_10.out).2.2 x12_4 p297 q297
                                                      cases e297
                                                      obtain ⟨ce297, hce297, hMe297, hcc297⟩ := Kd.S_get HO_10.out [] x12_4 p297 (by first | exact q297 | exact of_decide_eq_true (by first | (with_reducible assumption) | assumption) | (have e_ := (Kd.S_reads' HO_10.out).1; omega))
                                                      obtain ⟨ve297_0, rfl, ge297_0⟩ := hMe297
                                                      have hv297_0 := hcc297 0 _ rfl
                                                      rw [Nat.add_zero, show ((Kd.slice 4 Kd.bool)).sz = 1 from rfl, Nat.mul_one] at hv297_0
                                                      replace hv297_0 := Option.some.inj (hv297_0.symm.trans hx297_0)
                                                      rw [hv297_0] at ge297_0
                                                      have HL297_0 := Aside0.mk (show Kd.R Kd.bool 4 _ _ _ _ (rd_L6 x10_5 x12_4) from ge297_0)
                                                      clear hv297_0 ge297_0
                                                      have HX297_0 := Aside0.mk hx297_0
                                                      clear hcc297 hce297
                                                      have HR297_0 := Aside0.mk hi297_0
                                                      have HC297_0 := Aside0.mk hl297_0
                                                      clear hi297_0 hl297_0
                                                      replace p297 := eq_true p297
                                                      replace q297 := eq_true q297
                                                      have p298 : 0 ≤ (x11_3 : Int) := of_decide_eq_true (by first | (with_reducible assumption) | assumption)
                                                      have q298 : x11_3 < ((rd_L6 x10_5 x12_4).length : Int) := of_decide_eq_true (by first | (with_reducible assumption) | assumption)
                                                      obtain ⟨ad298, e298, hx298_0⟩ := Kd.at_bool (by repeat (first | (with_reducible exact HR297_0.out) | (with_reducible refine Kd.C_alloc ?_ _) | (with_reducible refine Kd.C_drewN ?_ _) | (with_reducible refine Kd.C_drew ?_) | exact HR297_0.out)) x11_3 p298 q298
                                                      (try rw [← Nbq86.out] at hx298_0)
                                                      (try rw [← Nbq90.out] at hx298_0)
                                                      cases e298
                                                      replace p298 := eq_true p298
                                                      replace q298 := eq_true q298
                                                      try go_wp2
                                                      have n0_ := Aside0.mk (Kd.S_drew HO_10.out)
                                                      have n1_ := Aside0.mk (Kd.R_drew HL297_0.out)
                                                      have n2_ := Aside0.mk (blk_drew BK259.out)
                                                      have n3_ := Aside0.mk (Kd.C_drew HR297_0.out)
                                                      have n4_ := Aside0.mk (below_drew1 HB.out)
                                                      clear HO_10
                                                      clear HL297_0
                                                      clear BK259
                                                      clear HR297_0
                                                      clear HB
                                                      have HO_10 := n0_
                                                      have HL297_0 := n1_
                                                      have BK259 := n2_
                                                      have HR297_0 := n3_
                                                      have HB := n4_
                                                      clear n0_ n1_ n2_ n3_ n4_
                                                      have p299 : 0 ≤ (x12_4 : Int) := of_decide_eq_true (by first | (with_reducible assumption) | assumption)
                                                      have q299 : x12_4 < (x10_5.length : Int) := of_decide_eq_true (by first | (with_reducible assumption) | assumption)
                                                      obtain ⟨ad299, A299_0, c299_0, e299, hx299_0, hl299_0, hi299_0⟩ := at_L6 (Kd.S_reads' HO_10.out).2.2 x12_4 p299 q299
                                                      obtain rfl : ad297 = ad299 := (by injection e299)
                                                      obtain ⟨ce299, hce299, hMe299, hcc299⟩ := Kd.S_get HO_10.out [] x12_4 p299 (by first | exact q299 | exact of_decide_eq_true (by first | (with_reducible assumption) | assumption) | (have e_ := (Kd.S_reads' HO_10.out).1; omega))
                                                      obtain ⟨ve299_0, rfl, ge299_0⟩ := hMe299
                                                      have hv299_0 := hcc299 0 _ rfl
                                                      rw [Nat.add_zero, show ((Kd.slice 4 Kd.bool)).sz = 1 from rfl, Nat.mul_one] at hv299_0
                                                      replace hv299_0 := Option.some.inj (hv299_0.symm.trans hx299_0)
                                                      rw [hv299_0] at ge299_0
                                                      have HL299_0 := Aside0.mk (show Kd.R Kd.bool 4 _ _ _ _ (rd_L6 x10_5 x12_4) from ge299_0)
                                                      clear hv299_0 ge299_0
                                                      have HX299_0 := Aside0.mk hx299_0
                                                      clear hcc299 hce299
                                                      have HR299_0 := Aside0.mk hi299_0
                                                      have HC299_0 := Aside0.mk hl299_0
                                                      clear hi299_0 hl299_0
                                                      replace p299 := eq_true p299
                                                      replace q299 := eq_true q299
                                                      have p300 : 0 ≤ (x12_4 : Int) := of_decide_eq_true (by first | (with_reducible assumption) | assumption)
                                                      have q300 : x12_4 < (x10_5.length : Int) := of_decide_eq_true (by first | (with_reducible assumption) | assumption)
                                                      obtain ⟨ad300, A300_0, c300_0, e300, hx300_0, hl300_0, hi300_0⟩ := at_L6 (Kd.S_reads' HO_10.out).2.2 x12_4 p300 q300
                                                      obtain rfl : ad297 = ad300 := (by injection e300)
                                                      obtain ⟨ce300, hce300, hMe300, hcc300⟩ := Kd.S_get HO_10.out [] x12_4 p300 (by first | exact q300 | exact of_decide_eq_true (by first | (with_reducible assumption) | assumption) | (have e_ := (Kd.S_reads' HO_10.out).1; omega))
                                                      obtain ⟨ve300_0, rfl, ge300_0⟩ := hMe300
                                                      have hv300_0 := hcc300 0 _ rfl
                                                      rw [Nat.add_zero, show ((Kd.slice 4 Kd.bool)).sz = 1 from rfl, Nat.mul_one] at hv300_0
                                                      replace hv300_0 := Option.some.inj (hv300_0.symm.trans hx300_0)
                                                      rw [hv300_0] at ge300_0
                                                      have HL300_0 := Aside0.mk (show Kd.R Kd.bool 4 _ _ _ _ (rd_L6 x10_5 x12_4) from ge300_0)
                                                      clear hv300_0 ge300_0
                                                      have HX300_0 := Aside0.mk hx300_0
                                                      clear hcc300 hce300
                                                      have HR300_0 := Aside0.mk hi300_0
                                                      have HC300_0 := Aside0.mk hl300_0
                                                      clear hi300_0 hl300_0
                                                      replace p300 := eq_true p300
                                                      replace q300 := eq_true q300
                                                      have ea_ := Option.some.inj (hx299_0.symm.trans hx300_0)
                                                      injection ea_ with ea_ en_ ec_
                                                      subst ea_
                                                      subst ec_
                                                      clear en_
                                                      have p301 : 0 ≤ (x13_5 : Int) := of_decide_eq_true (by first | (with_reducible assumption) | assumption)
                                                      have q301 : x13_5 < ((rd_L6 x10_5 x12_4).length : Int) := of_decide_eq_true (by first | (with_reducible assumption) | assumption)
                                                      obtain ⟨ad301, e301, hx301_0⟩ := Kd.at_bool (by repeat (first | (with_reducible exact HR300_0.out) | (with_reducible refine Kd.C_alloc ?_ _) | (with_reducible refine Kd.C_drewN ?_ _) | (with_reducible refine Kd.C_drew ?_) | exact HR300_0.out)) x13_5 p301 q301
                                                      (try rw [← Nbq86.out] at hx301_0)
                                                      (try rw [← Nbq90.out] at hx301_0)
                                                      cases e301
                                                      replace p301 := eq_true p301
                                                      replace q301 := eq_true q301
                                                      have p92 : 0 ≤ (x13_5 : Int) := of_decide_eq_true (by first | (with_reducible assumption) | assumption)
                                                      have q92 : (x13_5 : Int) < (((rd_L6 x10_5 x12_4).length : Int) : Int) := of_decide_eq_true (by first | (with_reducible assumption) | assumption)
                                                      obtain ⟨go92, co92, eo92, gb92, gl92, cl92, HG92⟩ := Kd.R_form HL299_0.out (by omega)
                                                      (first | cases eo92 | (injection eo92 with ea_ en_ ec_; (first | subst ea_ | (injection ea_ with ea_; subst ea_)); subst ec_; clear en_))
                                                      have GB92 := Aside0.mk gb92
                                                      have GG92 := Aside0.mk HG92
                                                      clear gb92 gl92 HG92
                                                      (first | simp only [add_plain] at hx301_0 | skip)
                                                      obtain ⟨hx92_0, hf92_0⟩ := Kd.R_celln false HL299_0.out (x13_5 : Int) p92 q92
                                                      replace p92 := eq_true p92
                                                      replace q92 := eq_true q92
                                                      have hq94 : (x12_4 : Int) < (x10_5.length : Int) := (by have h_ : (x12_4 : Int) < ((x10_5.length : Int) : Int) := of_decide_eq_true (by first | (with_reducible assumption) | assumption); first | exact h_ | (have e_ := (Kd.S_reads' HO_10.out).1; omega) | simpa only [List.length_set, List.length_set] using h_)
                                                      obtain ⟨oki94, ce94, hcl94, hM94, hcc94, hok94, hbk94⟩ := Kd.S_borrow HO_10.out [] (x12_4 : Int) (of_decide_eq_true (by first | (with_reducible assumption) | assumption)) hq94
                                                      obtain ⟨ve94_0, rfl, ge94_0⟩ := hM94
                                                      have hv94 := hcc94 0 _ rfl
                                                      rw [Nat.add_zero, show ((Kd.slice 4 Kd.bool)).sz = 1 from rfl, Nat.mul_one] at hv94
                                                      replace hv94 := Option.some.inj (hv94.symm.trans HX299_0.out)
                                                      subst hv94
                                                      clear hcc94 hcl94
                                                      replace ge94_0 := (show Kd.R Kd.bool 4 _ _ _ _ (rd_L6 x10_5 x12_4) from ge94_0)
                                                      have HP94 := Kd.R_putg ge94_0 (x13_5 : Int) true
                                                      rw [← Ny302.out] at HP94
                                                      have HS94 := hbk94 HP94.2 (fun k_ e_ => by injection e_ with e_; subst e_; exact ge94_0.1 _ rfl) (x' := y302) (Kd.M_row HP94.1)
                                                      rw [← Ny304.out] at HS94
                                                      have HQ94 := Aside0.mk HS94
                                                      clear HP94 HS94 hbk94 hok94
                                                      refine start_ (n := 23) (S := fun w' => w'.cell? (ad297.add (x12_4).toNat) = some (.slice (some ⟨go92, 0, none⟩) (rd_L6 x10_5 x12_4).length c299_0) ∧ w'.cell? (ad297.add (x12_4).toNat) = some (.slice (some ⟨go92, 0, none⟩) (rd_L6 x10_5 x12_4).length c299_0) ∧ w'.cell? ⟨go92, (x13_5).toNat, none⟩ = some (.bool true)) (ds := [22]) #[false, false, false, false, false, false, false, false, false, false, false, false, false, false, false, false, false, false, false, false, false, false, false] (by kernel_rfl) rfl rfl ⟨hx299_0, hx300_0, hx301_0⟩ (fun hHeld => ?_); refine with_tabW colloquyref03_Table.tab34 colloquyref03_Table.bits34 (fun HT_ HW_ => ?_)
                                                      generalize wr.drew = w93 at HO_10 HL297_0 BK259 HR297_0 HB GG92 HL299_0 HL300_0 HQ94 HR299_0 HR300_0 HX299_0 HX300_0 hf92_0 hx299_0 hx300_0 hx301_0 hx92_0 hHeld ⊢
                                                      refine pure_ (i := 0) (N := some 145) (v := ?_) (a' := ?_) #[true, false, false, false, false, false, false, false, false, false, false, false, false, false, false, false, false, false, false, false, false, false, false] rfl rfl (any_of HT_.out (by kernel_rfl)) (fun _ _ _ h => h) (Or.inl ⟨by rfl, ?_⟩) ?_ ?_
                                                      rotate_left
                                                      · intro w'
                                                        go_simp
                                                        with_reducible rfl
                                                      rotate_left
                                                      · simp only [Act.put, List.setIfInBounds_toArray, List.set_cons_zero, List.set_cons_succ, i64_w, i32_w]
                                                        rfl
                                                      refine pure_ (i := 1) (N := some 146) (v := ?_) (a' := ?_) #[true, true, false, false, false, false, false, false, false, false, false, false, false, false, false, false, false, false, false, false, false, false, false] rfl rfl (any_of HT_.out (by kernel_rfl)) (fun _ _ _ h => h) (Or.inl ⟨by rfl, ?_⟩) ?_ ?_
                                                      rotate_left
                                                      · intro w'
                                                        go_simp
                                                        with_reducible rfl
                                                      rotate_left
                                                      · simp only [Act.put, List.setIfInBounds_toArray, List.set_cons_zero, List.set_cons_succ, i64_w, i32_w]
                                                        rfl
                                                      refine pure_ (i := 2) (N := some 147) (v := ?_) (a' := ?_) #[true, true, true, false, false, false, false, false, false, false, false, false, false, false, false, false, false, false, false, false, false, false, false] rfl rfl (any_of HT_.out (by kernel_rfl)) (fun _ _ _ h => h) (Or.inl ⟨by rfl, ?_⟩) ?_ ?_
                                                      rotate_left
                                                      · intro w'
                                                        go_simp
                                                        with_reducible rfl
                                                      rotate_left
                                                      · simp only [Act.put, List.setIfInBounds_toArray, List.set_cons_zero, List.set_cons_succ, i64_w, i32_w]
                                                        rfl
                                                      refine pure_ (i := 4) (N := some 149) (v := ?_) (a' := ?_) #[true, true, true, false, true, false, false, false, false, false, false, false, false, false, false, false, false, false, false, false, false, false, false] rfl rfl (any_of HT_.out (by kernel_rfl)) (fun _ _ _ h => h) (Or.inl ⟨by rfl, ?_⟩) ?_ ?_
                                                      rotate_left
                                                      · intro w'
                                                        go_simp
                                                        with_reducible rfl
                                                      rotate_left
                                                      · simp only [Act.put, List.setIfInBounds_toArray, List.set_cons_zero, List.set_cons_succ, i64_w, i32_w]
                                                        rfl
                                                      refine pure_ (i := 5) (N := some 150) (v := ?_) (a' := ?_) #[true, true, true, false, true, true, false, false, false, false, false, false, false, false, false, false, false, false, false, false, false, false, false] rfl rfl (any_of HT_.out (by kernel_rfl)) (fun _ _ _ h => h) (Or.inl ⟨by rfl, ?_⟩) ?_ ?_
                                                      rotate_left
                                                      · intro w'
                                                        go_simp
                                                        with_reducible rfl
                                                      rotate_left
                                                      · simp only [Act.put, List.setIfInBounds_toArray, List.set_cons_zero, List.set_cons_succ, i64_w, i32_w]
                                                        rfl
                                                      refine pure_ (i := 6) (N := some 151) (v := ?_) (a' := ?_) #[true, true, true, false, true, true, true, false, false, false, false, false, false, false, false, false, false, false, false, false, false, false, false] rfl rfl (any_of HT_.out (by kernel_rfl)) (fun _ _ _ h => h) (Or.inl ⟨by rfl, ?_⟩) ?_ ?_
                                                      rotate_left
                                                      · intro w'
                                                        go_simp
                                                        with_reducible rfl
                                                      rotate_left
                                                      · simp only [Act.put, List.setIfInBounds_toArray, List.set_cons_zero, List.set_cons_succ, i64_w, i32_w]
                                                        rfl
                                                      refine pure_ (i := 7) (N := some 152) (v := ?_) (a' := ?_) #[true, true, true, false, true, true, true, true, false, false, false, false, false, false, false, false, false, false, false, false, false, false, false] rfl rfl (any_of HT_.out (by kernel_rfl)) (fun _ _ _ h => h) (Or.inl ⟨by rfl, ?_⟩) ?_ ?_
                                                      rotate_left
                                                      · intro w'
                                                        go_simp
                                                        with_reducible rfl
                                                      rotate_left
                                                      · simp only [Act.put, List.setIfInBounds_toArray, List.set_cons_zero, List.set_cons_succ, i64_w, i32_w]
                                                        rfl
                                                      refine pure_ (i := 9) (N := some 154) (v := ?_) (a' := ?_) #[true, true, true, false, true, true, true, true, false, true, false, false, false, false, false, false, false, false, false, false, false, false, false] rfl rfl (any_of HT_.out (by kernel_rfl)) (fun _ _ _ h => h) (Or.inl ⟨by rfl, ?_⟩) ?_ ?_
                                                      rotate_left
                                                      · intro w'
                                                        go_simp
                                                        with_reducible rfl
                                                      rotate_left
                                                      · simp only [Act.put, List.setIfInBounds_toArray, List.set_cons_zero, List.set_cons_succ, i64_w, i32_w]
                                                        rfl
                                                      refine take_ (i := 3) (N := some 148) (v := ?_) (a' := ?_) #[true, true, true, true, true, true, true, true, false, true, false, false, false, false, false, false, false, false, false, false, false, false, false] rfl rfl (take_ofW HT_.out HW_.out (by kernel_rfl)) (fun _ _ _ h => h) (Or.inl ⟨by rfl, ?_⟩) hHeld ?_ ?_
                                                      rotate_left
                                                      · rintro w' ⟨s0, s1, s2⟩
                                                        go_simp
                                                        with_reducible rfl
                                                      rotate_left
                                                      · simp only [Act.put, List.setIfInBounds_toArray, List.set_cons_zero, List.set_cons_succ, i64_w, i32_w]
                                                        rfl
                                                      refine take_ (i := 8) (N := some 153) (v := ?_) (a' := ?_) #[true, true, true, true, true, true, true, true, true, true, false, false, false, false, false, false, false, false, false, false, false, false, false] rfl rfl (take_ofW HT_.out HW_.out (by kernel_rfl)) (fun _ _ _ h => h) (Or.inl ⟨by rfl, ?_⟩) hHeld ?_ ?_
                                                      rotate_left
                                                      · rintro w' ⟨s0, s1, s2⟩
                                                        go_simp
                                                        with_reducible rfl
                                                      rotate_left
                                                      · simp only [Act.put, List.setIfInBounds_toArray, List.set_cons_zero, List.set_cons_succ, i64_w, i32_w]
                                                        rfl
                                                      refine pure_ (i := 10) (N := some 155) (v := ?_) (a' := ?_) #[true, true, true, true, true, true, true, true, true, true, true, false, false, false, false, false, false, false, false, false, false, false, false] rfl rfl (any_of HT_.out (by kernel_rfl)) (fun _ _ _ h => h) (Or.inl ⟨by rfl, ?_⟩) ?_ ?_
                                                      rotate_left
                                                      · intro w'
                                                        go_simp
                                                        with_reducible rfl
                                                      rotate_left
                                                      · simp only [Act.put, List.setIfInBounds_toArray, List.set_cons_zero, List.set_cons_succ, i64_w, i32_w]
                                                        rfl
                                                      refine take_ (i := 11) (N := some 156) (v := ?_) (a' := ?_) #[true, true, true, true, true, true, true, true, true, true, true, true, false, false, false, false, false, false, false, false, false, false, false] rfl rfl (take_ofW HT_.out HW_.out (by kernel_rfl)) (fun _ _ _ h => h) (Or.inl ⟨by rfl, ?_⟩) hHeld ?_ ?_
                                                      rotate_left
                                                      · rintro w' ⟨s0, s1, s2⟩
                                                        go_simp
                                                        with_reducible rfl
                                                      rotate_left
                                                      · simp only [Act.put, List.setIfInBounds_toArray, List.set_cons_zero, List.set_cons_succ, i64_w, i32_w]
                                                        rfl
                                                      refine pure_ (i := 12) (N := some 157) (v := ?_) (a' := ?_) #[true, true, true, true, true, true, true, true, true, true, true, true, true, false, false, false, false, false, false, false, false, false, false] rfl rfl (any_of HT_.out (by kernel_rfl)) (fun _ _ _ h => h) (Or.inl ⟨by rfl, ?_⟩) ?_ ?_
                                                      rotate_left
                                                      · intro w'
                                                        go_simp
                                                        with_reducible rfl
                                                      rotate_left
                                                      · simp only [Act.put, List.setIfInBounds_toArray, List.set_cons_zero, List.set_cons_succ, i64_w, i32_w]
                                                        rfl
                                                      refine pure_ (i := 13) (N := some 158) (v := undef) (a' := ?_) #[true, true, true, true, true, true, true, true, true, true, true, true, true, true, false, false, false, false, false, false, false, false, false] rfl rfl (any_of HT_.out (by kernel_rfl)) (fun _ _ _ h => h) (Or.inr ⟨by rfl, rfl⟩) ?_ ?_
                                                      rotate_left
                                                      · simp only [Act.put, List.setIfInBounds_toArray, List.set_cons_zero, List.set_cons_succ, i64_w, i32_w]
                                                        rfl
                                                      refine pure_ (i := 14) (N := some 159) (v := undef) (a' := ?_) #[true, true, true, true, true, true, true, true, true, true, true, true, true, true, true, false, false, false, false, false, false, false, false] rfl rfl (any_of HT_.out (by kernel_rfl)) (fun _ _ _ h => h) (Or.inr ⟨by rfl, rfl⟩) ?_ ?_
                                                      rotate_left
                                                      · simp only [Act.put, List.setIfInBounds_toArray, List.set_cons_zero, List.set_cons_succ, i64_w, i32_w]
                                                        rfl
                                                      refine pure_ (i := 15) (N := some 160) (v := undef) (a' := ?_) #[true, true, true, true, true, true, true, true, true, true, true, true, true, true, true, true, false, false, false, false, false, false, false] rfl rfl (any_of HT_.out (by kernel_rfl)) (fun _ _ _ h => h) (Or.inr ⟨by rfl, rfl⟩) ?_ ?_
                                                      rotate_left
                                                      · simp only [Act.put, List.setIfInBounds_toArray, List.set_cons_zero, List.set_cons_succ, i64_w, i32_w]
                                                        rfl
                                                      refine pure_ (i := 16) (N := some 161) (v := undef) (a' := ?_) #[true, true, true, true, true, true, true, true, true, true, true, true, true, true, true, true, true, false, false, false, false, false, false] rfl rfl (any_of HT_.out (by kernel_rfl)) (fun _ _ _ h => h) (Or.inr ⟨by rfl, rfl⟩) ?_ ?_
                                                      rotate_left
                                                      · simp only [Act.put, List.setIfInBounds_toArray, List.set_cons_zero, List.set_cons_succ, i64_w, i32_w]
                                                        rfl
                                                      refine pure_ (i := 17) (N := some 162) (v := undef) (a' := ?_) #[true, true, true, true, true, true, true, true, true, true, true, true, true, true, true, true, true, true, false, false, false, false, false] rfl rfl (any_of HT_.out (by kernel_rfl)) (fun _ _ _ h => h) (Or.inr ⟨by rfl, rfl⟩) ?_ ?_
                                                      rotate_left
                                                      · simp only [Act.put, List.setIfInBounds_toArray, List.set_cons_zero, List.set_cons_succ, i64_w, i32_w]
                                                        rfl
                                                      refine pure_ (i := 18) (N := some 163) (v := undef) (a' := ?_) #[true, true, true, true, true, true, true, true, true, true, true, true, true, true, true, true, true, true, true, false, false, false, false] rfl rfl (any_of HT_.out (by kernel_rfl)) (fun _ _ _ h => h) (Or.inr ⟨by rfl, rfl⟩) ?_ ?_
                                                      rotate_left
                                                      · simp only [Act.put, List.setIfInBounds_toArray, List.set_cons_zero, List.set_cons_succ, i64_w, i32_w]
                                                        rfl
                                                      refine pure_ (i := 19) (N := some 164) (v := undef) (a' := ?_) #[true, true, true, true, true, true, true, true, true, true, true, true, true, true, true, true, true, true, true, true, false, false, false] rfl rfl (any_of HT_.out (by kernel_rfl)) (fun _ _ _ h => h) (Or.inr ⟨by rfl, rfl⟩) ?_ ?_
                                                      rotate_left
                                                      · simp only [Act.put, List.setIfInBounds_toArray, List.set_cons_zero, List.set_cons_succ, i64_w, i32_w]
                                                        rfl
                                                      refine pure_ (i := 20) (N := some 165) (v := ?_) (a' := ?_) #[true, true, true, true, true, true, true, true, true, true, true, true, true, true, true, true, true, true, true, true, true, false, false] rfl rfl (any_of HT_.out (by kernel_rfl)) (fun _ _ _ h => h) (Or.inl ⟨by rfl, ?_⟩) ?_ ?_
                                                      rotate_left
                                                      · intro w'
                                                        go_simp
                                                        with_reducible rfl
                                                      rotate_left
                                                      · simp only [Act.put, List.setIfInBounds_toArray, List.set_cons_zero, List.set_cons_succ, i64_w, i32_w]
                                                        rfl
                                                      refine pure_ (i := 21) (N := some 166) (v := ?_) (a' := ?_) #[true, true, true, true, true, true, true, true, true, true, true, true, true, true, true, true, true, true, true, true, true, true, false] rfl rfl (any_of HT_.out (by kernel_rfl)) (fun _ _ _ h => h) (Or.inl ⟨by rfl, ?_⟩) ?_ ?_
                                                      rotate_left
                                                      · intro w'
                                                        go_simp
                                                        with_reducible rfl
                                                      rotate_left
                                                      · simp only [Act.put, List.setIfInBounds_toArray, List.set_cons_zero, List.set_cons_succ, i64_w, i32_w]
                                                        rfl
                                                      refine last_ (i := 22) (N := none) #[true, true, true, true, true, true, true, true, true, true, true, true, true, true, true, true, true, true, true, true, true, true, true] rfl rfl (one_of HT_.out (by kernel_rfl)) (by decide) (fun K hK => ?_)
                                                      refine skip_ (w1 := ?_) (by rfl) rfl ?_ ?_
                                                      rotate_left
                                                      · go_simp
                                                        rfl
                                                      refine hK.out _ _ ?_
                                                      clear hK K
                                                      refine done_ (done_of HT_.out (by kernel_rfl)) ?_
                                                      try go_wp2
                                                      (try simp only [← hl10_5])
                                                      go_roundg k5
                                                      case measure => have := HJ20.out; have := HJ53.out; have := HK3.out; have := HK4.out; have := HK5.out; omega
                                                      case rel => exact ⟨(y304), (wrap64 (x13_5 + 1)), (by first | rfl | (simp; done) | (simp [*]; done)), H', ⟨by have := HJ20.out; have := HJ53.out; have := HK3.out; have := HK4.out; have := HK5.out; omega⟩, ⟨by (try simp only [hl10_4]); (try simp only [hl10_5]); (with_reducible repeat (first | apply Kd.S_alloc | apply Kd.S_drewN | apply Kd.S_drew)); exact HQ94.out⟩, ⟨by (try simp only [hl10_4]); (try simp only [hl10_5]); (with_reducible repeat (first | refine blk_drewN ?_ _ | refine blk_drew ?_ | refine blk_alloc ?_ _)); refine blk_far ?_ (by have h_ := Kd.R_ne HL299_0.out BK259.out (by decide); intro e_; exact h_ (by rw [e_]; rfl)) _; (with_reducible repeat (first | refine blk_drewN ?_ _ | refine blk_drew ?_ | refine blk_alloc ?_ _)); exact BK259.out⟩, ⟨by repeat (first | (with_reducible first | exact HB.out | apply below_alloc | apply pw_below_drewN | apply below_drew1 | refine below_set ?_ GB92.out | refine below_set ?_ GE259.out) | exact HB.out)⟩⟩
                                                    · replace c91 := Bool.eq_false_iff.mpr c91
                                                      subst c91
                                                      have H1 : (if x11_3 < (x10_5.length : Int) then (if x13_5 < ((rd_L6 x10_5 x11_3).length : Int) then (colloquyref03_Table.l4 k5 a1 (x10_5.set (x12_4 : Int).toNat ((rd_L6 x10_5 x12_4).set (x13_5 : Int).toNat (rdOf false (rd_L6 x10_5 x11_3) x13_5))) x11_3 x12_4 (wrap64 (x13_5 + 1)) a0_0 l0_1 l0_2) else (none)) else (none)) = some r := by rw [if_neg (show ¬ (false = true) by decide)] at H; exact H
                                                      clear H
                                                      have H := H1
                                                      clear H1
                                                      by_cases c96 : x11_3 < (x10_5.length : Int)
                                                      · rw [if_pos c96] at H
                                                        have c96b0 : decide (x11_3 < (x10_5.length : Int)) = true := decide_eq_true c96
                                                        clear c96
                                                        by_cases c97 : x13_5 < ((rd_L6 x10_5 x11_3).length : Int)
                                                        · rw [if_pos c97] at H
                                                          have c97b0 : decide (x13_5 < ((rd_L6 x10_5 x11_3).length : Int)) = true := decide_eq_true c97
                                                          clear c97
                                                          obtain ⟨y307, hy307⟩ : ∃ y_ : List Bool, y_ = ((rd_L6 x10_5 x12_4).set (x13_5 : Int).toNat (rdOf false (rd_L6 x10_5 x11_3) x13_5)) := ⟨_, rfl⟩
                                                          replace H : (colloquyref03_Table.l4 k5 a1 (x10_5.set (x12_4 : Int).toNat y307) x11_3 x12_4 (wrap64 (x13_5 + 1)) a0_0 l0_1 l0_2) = some r := by first | (rw [hy307]; with_reducible exact H) | (have H2_ := (Option.bind_some _ _).symm.trans H; rw [hy307]; with_reducible exact H2_) | (have H2_ := (Option.bind_some _ _).symm.trans H; with_reducible exact H2_) | with_reducible exact H | (rw [hy307]; exact H) | exact H
                                                          have Ny307 := Aside0.mk hy307
                                                          clear hy307
                                                          obtain ⟨y309, hy309⟩ : ∃ y_ : List (List Bool), y_ = (x10_5.set (x12_4 : Int).toNat y307) := ⟨_, rfl⟩
                                                          replace H : (colloquyref03_Table.l4 k5 a1 y309 x11_3 x12_4 (wrap64 (x13_5 + 1)) a0_0 l0_1 l0_2) = some r := by first | (rw [hy309]; with_reducible exact H) | (have H2_ := (Option.bind_some _ _).symm.trans H; rw [hy309]; with_reducible exact H2_) | (have H2_ := (Option.bind_some _ _).symm.trans H; with_reducible exact H2_) | with_reducible exact H | (rw [hy309]; exact H) | exact H
                                                          have Ny309 := Aside0.mk hy309
                                                          clear hy309
                                                          have H' := Aside0.mk H
                                                          clear H
                                                          have p297 : 0 ≤ (x12_4 : Int) := of_decide_eq_true (by first | (with_reducible assumption) | assumption)
                                                          have q297 : x12_4 < (x10_5.length : Int) := of_decide_eq_true (by first | (with_reducible assumption) | assumption)
                                                          obtain ⟨ad297, A297_0, c297_0, e297, hx297_0, hl297_0, hi297_0⟩ := at_L6 (Kd.S_reads' HO_10.out).2.2 x12_4 p297 q297
                                                          cases e297
                                                          obtain ⟨ce297, hce297, hMe297, hcc297⟩ := Kd.S_get HO_10.out [] x12_4 p297 (by first | exact q297 | exact of_decide_eq_true (by first | (with_reducible assumption) | assumption) | (have e_ := (Kd.S_reads' HO_10.out).1; omega))
                                                          obtain ⟨ve297_0, rfl, ge297_0⟩ := hMe297
                                                          have hv297_0 := hcc297 0 _ rfl
                                                          rw [Nat.add_zero, show ((Kd.slice 4 Kd.bool)).sz = 1 from rfl, Nat.mul_one] at hv297_0
                                                          replace hv297_0 := Option.some.inj (hv297_0.symm.trans hx297_0)
                                                          rw [hv297_0] at ge297_0
                                                          have HL297_0 := Aside0.mk (show Kd.R Kd.bool 4 _ _ _ _ (rd_L6 x10_5 x12_4) from ge297_0)
                                                          clear hv297_0 ge297_0
                                                          have HX297_0 := Aside0.mk hx297_0
                                                          clear hcc297 hce297
                                                          have HR297_0 := Aside0.mk hi297_0
                                                          have HC297_0 := Aside0.mk hl297_0
                                                          clear hi297_0 hl297_0
                                                          replace p297 := eq_true p297
                                                          replace q297 := eq_true q297
                                                          have p298 : 0 ≤ (x11_3 : Int) := of_decide_eq_true (by first | (with_reducible assumption) | assumption)
                                                          have q298 : x11_3 < ((rd_L6 x10_5 x12_4).length : Int) := of_decide_eq_true (by first | (with_reducible assumption) | assumption)
                                                          obtain ⟨ad298, e298, hx298_0⟩ := Kd.at_bool (by repeat (first | (with_reducible exact HR297_0.out) | (with_reducible refine Kd.C_alloc ?_ _) | (with_reducible refine Kd.C_drewN ?_ _) | (with_reducible refine Kd.C_drew ?_) | exact HR297_0.out)) x11_3 p298 q298
                                                          (try rw [← Nbq86.out] at hx298_0)
                                                          (try rw [← Nbq90.out] at hx298_0)
                                                          cases e298
                                                          replace p298 := eq_true p298
                                                          replace q298 := eq_true q298
                                                          try go_wp2
                                                          have n0_ := Aside0.mk (Kd.S_drew HO_10.out)
                                                          have n1_ := Aside0.mk (Kd.R_drew HL297_0.out)
                                                          have n2_ := Aside0.mk (blk_drew BK259.out)
                                                          have n3_ := Aside0.mk (Kd.C_drew HR297_0.out)
                                                          have n4_ := Aside0.mk (below_drew1 HB.out)
                                                          clear HO_10
                                                          clear HL297_0
                                                          clear BK259
                                                          clear HR297_0
                                                          clear HB
                                                          have HO_10 := n0_
                                                          have HL297_0 := n1_
                                                          have BK259 := n2_
                                                          have HR297_0 := n3_
                                                          have HB := n4_
                                                          clear n0_ n1_ n2_ n3_ n4_
                                                          have p299 : 0 ≤ (x12_4 : Int) := of_decide_eq_true (by first | (with_reducible assumption) | assumption)
                                                          have q299 : x12_4 < (x10_5.length : Int) := of_decide_eq_true (by first | (with_reducible assumption) | assumption)
                                                          obtain ⟨ad299, A299_0, c299_0, e299, hx299_0, hl299_0, hi299_0⟩ := at_L6 (Kd.S_reads' HO_10.out).2.2 x12_4 p299 q299
                                                          obtain rfl : ad297 = ad299 := (by injection e299)
                                                          obtain ⟨ce299, hce299, hMe299, hcc299⟩ := Kd.S_get HO_10.out [] x12_4 p299 (by first | exact q299 | exact of_decide_eq_true (by first | (with_reducible assumption) | assumption) | (have e_ := (Kd.S_reads' HO_10.out).1; omega))
                                                          obtain ⟨ve299_0, rfl, ge299_0⟩ := hMe299
                                                          have hv299_0 := hcc299 0 _ rfl
                                                          rw [Nat.add_zero, show ((Kd.slice 4 Kd.bool)).sz = 1 from rfl, Nat.mul_one] at hv299_0
                                                          replace hv299_0 := Option.some.inj (hv299_0.symm.trans hx299_0)
                                                          rw [hv299_0] at ge299_0
                                                          have HL299_0 := Aside0.mk (show Kd.R Kd.bool 4 _ _ _ _ (rd_L6 x10_5 x12_4) from ge299_0)
                                                          clear hv299_0 ge299_0
                                                          have HX299_0 := Aside0.mk hx299_0
                                                          clear hcc299 hce299
                                                          have HR299_0 := Aside0.mk hi299_0
                                                          have HC299_0 := Aside0.mk hl299_0
                                                          clear hi299_0 hl299_0
                                                          replace p299 := eq_true p299
                                                          replace q299 := eq_true q299
                                                          have p300 : 0 ≤ (x12_4 : Int) := of_decide_eq_true (by first | (with_reducible assumption) | assumption)
                                                          have q300 : x12_4 < (x10_5.length : Int) := of_decide_eq_true (by first | (with_reducible assumption) | assumption)
                                                          obtain ⟨ad300, A300_0, c300_0, e300, hx300_0, hl300_0, hi300_0⟩ := at_L6 (Kd.S_reads' HO_10.out).2.2 x12_4 p300 q300
                                                          obtain rfl : ad297 = ad300 := (by injection e300)
                                                          obtain ⟨ce300, hce300, hMe300, hcc300⟩ := Kd.S_get HO_10.out [] x12_4 p300 (by first | exact q300 | exact of_decide_eq_true (by first | (with_reducible assumption) | assumption) | (have e_ := (Kd.S_reads' HO_10.out).1; omega))
                                                          obtain ⟨ve300_0, rfl, ge300_0⟩ := hMe300
                                                          have hv300_0 := hcc300 0 _ rfl
                                                          rw [Nat.add_zero, show ((Kd.slice 4 Kd.bool)).sz = 1 from rfl, Nat.mul_one] at hv300_0
                                                          replace hv300_0 := Option.some.inj (hv300_0.symm.trans hx300_0)
                                                          rw [hv300_0] at ge300_0
                                                          have HL300_0 := Aside0.mk (show Kd.R Kd.bool 4 _ _ _ _ (rd_L6 x10_5 x12_4) from ge300_0)
                                                          clear hv300_0 ge300_0
                                                          have HX300_0 := Aside0.mk hx300_0
                                                          clear hcc300 hce300
                                                          have HR300_0 := Aside0.mk hi300_0
                                                          have HC300_0 := Aside0.mk hl300_0
                                                          clear hi300_0 hl300_0
                                                          replace p300 := eq_true p300
                                                          replace q300 := eq_true q300
                                                          have ea_ := Option.some.inj (hx299_0.symm.trans hx300_0)
                                                          injection ea_ with ea_ en_ ec_
                                                          subst ea_
                                                          subst ec_
                                                          clear en_
                                                          have p301 : 0 ≤ (x13_5 : Int) := of_decide_eq_true (by first | (with_reducible assumption) | assumption)
                                                          have q301 : x13_5 < ((rd_L6 x10_5 x12_4).length : Int) := of_decide_eq_true (by first | (with_reducible assumption) | assumption)
                                                          obtain ⟨ad301, e301, hx301_0⟩ := Kd.at_bool (by repeat (first | (with_reducible exact HR300_0.out) | (with_reducible refine Kd.C_alloc ?_ _) | (with_reducible refine Kd.C_drewN ?_ _) | (with_reducible refine Kd.C_drew ?_) | exact HR300_0.out)) x13_5 p301 q301
                                                          (try rw [← Nbq86.out] at hx301_0)
                                                          (try rw [← Nbq90.out] at hx301_0)
                                                          cases e301
                                                          replace p301 := eq_true p301
                                                          replace q301 := eq_true q301
                                                          have p305 : 0 ≤ (x11_3 : Int) := of_decide_eq_true (by first | (with_reducible assumption) | assumption)
                                                          have q305 : x11_3 < (x10_5.length : Int) := of_decide_eq_true (by first | (with_reducible assumption) | assumption)
                                                          obtain ⟨ad305, A305_0, c305_0, e305, hx305_0, hl305_0, hi305_0⟩ := at_L6 (Kd.S_reads' HO_10.out).2.2 x11_3 p305 q305
                                                          obtain rfl : ad297 = ad305 := (by injection e305)
                                                          obtain ⟨ce305, hce305, hMe305, hcc305⟩ := Kd.S_get HO_10.out [] x11_3 p305 (by first | exact q305 | exact of_decide_eq_true (by first | (with_reducible assumption) | assumption) | (have e_ := (Kd.S_reads' HO_10.out).1; omega))
                                                          obtain ⟨ve305_0, rfl, ge305_0⟩ := hMe305
                                                          have hv305_0 := hcc305 0 _ rfl
                                                          rw [Nat.add_zero, show ((Kd.slice 4 Kd.bool)).sz = 1 from rfl, Nat.mul_one] at hv305_0
                                                          replace hv305_0 := Option.some.inj (hv305_0.symm.trans hx305_0)
                                                          rw [hv305_0] at ge305_0
                                                          have HL305_0 := Aside0.mk (show Kd.R Kd.bool 4 _ _ _ _ (rd_L6 x10_5 x11_3) from ge305_0)
                                                          clear hv305_0 ge305_0
                                                          have HX305_0 := Aside0.mk hx305_0
                                                          clear hcc305 hce305
                                                          have HR305_0 := Aside0.mk hi305_0
                                                          have HC305_0 := Aside0.mk hl305_0
                                                          clear hi305_0 hl305_0
                                                          replace p305 := eq_true p305
                                                          replace q305 := eq_true q305
                                                          have p306 : 0 ≤ (x13_5 : Int) := of_decide_eq_true (by first | (with_reducible assumption) | assumption)
                                                          have q306 : x13_5 < ((rd_L6 x10_5 x11_3).length : Int) := of_decide_eq_true (by first | (with_reducible assumption) | assumption)
                                                          obtain ⟨ad306, e306, hx306_0⟩ := Kd.at_bool (by repeat (first | (with_reducible exact HR305_0.out) | (with_reducible refine Kd.C_alloc ?_ _) | (with_reducible refine Kd.C_drewN ?_ _) | (with_reducible refine Kd.C_drew ?_) | exact HR305_0.out)) x13_5 p306 q306
                                                          (try rw [← Nbq86.out] at hx306_0)
                                                          (try rw [← Nbq90.out] at hx306_0)
                                                          cases e306
                                                          replace p306 := eq_true p306
                                                          replace q306 := eq_true q306
                                                          have p98 : 0 ≤ (x13_5 : Int) := of_decide_eq_true (by first | (with_reducible assumption) | assumption)
                                                          have q98 : (x13_5 : Int) < (((rd_L6 x10_5 x12_4).length : Int) : Int) := of_decide_eq_true (by first | (with_reducible assumption) | assumption)
                                                          obtain ⟨go98, co98, eo98, gb98, gl98, cl98, HG98⟩ := Kd.R_form HL299_0.out (by omega)
                                                          (first | cases eo98 | (injection eo98 with ea_ en_ ec_; (first | subst ea_ | (injection ea_ with ea_; subst ea_)); subst ec_; clear en_))
                                                          have GB98 := Aside0.mk gb98
                                                          have GG98 := Aside0.mk HG98
                                                          clear gb98 gl98 HG98
                                                          (first | simp only [add_plain] at hx301_0 | skip)
                                                          obtain ⟨hx98_0, hf98_0⟩ := Kd.R_celln false HL299_0.out (x13_5 : Int) p98 q98
                                                          replace p98 := eq_true p98
                                                          replace q98 := eq_true q98
                                                          have hq100 : (x12_4 : Int) < (x10_5.length : Int) := (by have h_ : (x12_4 : Int) < ((x10_5.length : Int) : Int) := of_decide_eq_true (by first | (with_reducible assumption) | assumption); first | exact h_ | (have e_ := (Kd.S_reads' HO_10.out).1; omega) | simpa only [List.length_set, List.length_set] using h_)
                                                          obtain ⟨oki100, ce100, hcl100, hM100, hcc100, hok100, hbk100⟩ := Kd.S_borrow HO_10.out [] (x12_4 : Int) (of_decide_eq_true (by first | (with_reducible assumption) | assumption)) hq100
                                                          obtain ⟨ve100_0, rfl, ge100_0⟩ := hM100
                                                          have hv100 := hcc100 0 _ rfl
                                                          rw [Nat.add_zero, show ((Kd.slice 4 Kd.bool)).sz = 1 from rfl, Nat.mul_one] at hv100
                                                          replace hv100 := Option.some.inj (hv100.symm.trans HX299_0.out)
                                                          subst hv100
                                                          clear hcc100 hcl100
                                                          replace ge100_0 := (show Kd.R Kd.bool 4 _ _ _ _ (rd_L6 x10_5 x12_4) from ge100_0)
                                                          have HP100 := Kd.R_putg ge100_0 (x13_5 : Int) (rdOf false (rd_L6 x10_5 x11_3) x13_5)
                                                          rw [← Ny307.out] at HP100
                                                          have HS100 := hbk100 HP100.2 (fun k_ e_ => by injection e_ with e_; subst e_; exact ge100_0.1 _ rfl) (x' := y307) (Kd.M_row HP100.1)
                                                          rw [← Ny309.out] at HS100
                                                          have HQ100 := Aside0.mk HS100
                                                          clear HP100 HS100 hbk100 hok100
                                                          refine start_ (n := 23) (S := fun w' => w'.cell? (ad297.add (x12_4).toNat) = some (.slice (some ⟨go98, 0, none⟩) (rd_L6 x10_5 x12_4).length c299_0) ∧ w'.cell? (ad297.add (x12_4).toNat) = some (.slice (some ⟨go98, 0, none⟩) (rd_L6 x10_5 x12_4).length c299_0) ∧ w'.cell? ⟨go98, (x13_5).toNat, none⟩ = some (.bool false) ∧ w'.cell? (ad297.add (x11_3).toNat) = some (.slice (some ad306) (rd_L6 x10_5 x11_3).length c305_0) ∧ w'.cell? (ad306.add (x13_5).toNat) = some (.bool (rdOf false (rd_L6 x10_5 x11_3) x13_5))) (ds := [22]) #[false, false, false, false, false, false, false, false, false, false, false, false, false, false, false, false, false, false, false, false, false, false, false] (by kernel_rfl) rfl rfl ⟨hx299_0, hx300_0, hx301_0, hx305_0, hx306_0⟩ (fun hHeld => ?_); refine with_tabW colloquyref03_Table.tab34 colloquyref03_Table.bits34 (fun HT_ HW_ => ?_)
                                                          generalize wr.drew = w99 at HO_10 HL297_0 BK259 HR297_0 HB GG98 HL299_0 HL300_0 HL305_0 HQ100 HR299_0 HR300_0 HR305_0 HX299_0 HX300_0 HX305_0 hf98_0 hx299_0 hx300_0 hx301_0 hx305_0 hx306_0 hx98_0 hHeld ⊢
                                                          refine pure_ (i := 0) (N := some 145) (v := ?_) (a' := ?_) #[true, false, false, false, false, false, false, false, false, false, false, false, false, false, false, false, false, false, false, false, false, false, false] rfl rfl (any_of HT_.out (by kernel_rfl)) (fun _ _ _ h => h) (Or.inl ⟨by rfl, ?_⟩) ?_ ?_
                                                          rotate_left
                                                          · intro w'
                                                            go_simp
                                                            with_reducible rfl
                                                          rotate_left
                                                          · simp only [Act.put, List.setIfInBounds_toArray, List.set_cons_zero, List.set_cons_succ, i64_w, i32_w]
                                                            rfl
                                                          refine pure_ (i := 1) (N := some 146) (v := ?_) (a' := ?_) #[true, true, false, false, false, false, false, false, false, false, false, false, false, false, false, false, false, false, false, false, false, false, false] rfl rfl (any_of HT_.out (by kernel_rfl)) (fun _ _ _ h => h) (Or.inl ⟨by rfl, ?_⟩) ?_ ?_
                                                          rotate_left
                                                          · intro w'
                                                            go_simp
                                                            with_reducible rfl
                                                          rotate_left
                                                          · simp only [Act.put, List.setIfInBounds_toArray, List.set_cons_zero, List.set_cons_succ, i64_w, i32_w]
                                                            rfl
                                                          refine pure_ (i := 2) (N := some 147) (v := ?_) (a' := ?_) #[true, true, true, false, false, false, false, false, false, false, false, false, false, false, false, false, false, false, false, false, false, false, false] rfl rfl (any_of HT_.out (by kernel_rfl)) (fun _ _ _ h => h) (Or.inl ⟨by rfl, ?_⟩) ?_ ?_
                                                          rotate_left
                                                          · intro w'
                                                            go_simp
                                                            with_reducible rfl
                                                          rotate_left
                                                          · simp only [Act.put, List.setIfInBounds_toArray, List.set_cons_zero, List.set_cons_succ, i64_w, i32_w]
                                                            rfl
                                                          refine pure_ (i := 4) (N := some 149) (v := ?_) (a' := ?_) #[true, true, true, false, true, false, false, false, false, false, false, false, false, false, false, false, false, false, false, false, false, false, false] rfl rfl (any_of HT_.out (by kernel_rfl)) (fun _ _ _ h => h) (Or.inl ⟨by rfl, ?_⟩) ?_ ?_
                                                          rotate_left
                                                          · intro w'
                                                            go_simp
                                                            with_reducible rfl
                                                          rotate_left
                                                          · simp only [Act.put, List.setIfInBounds_toArray, List.set_cons_zero, List.set_cons_succ, i64_w, i32_w]
                                                            rfl
                                                          refine pure_ (i := 5) (N := some 150) (v := ?_) (a' := ?_) #[true, true, true, false, true, true, false, false, false, false, false, false, false, false, false, false, false, false, false, false, false, false, false] rfl rfl (any_of HT_.out (by kernel_rfl)) (fun _ _ _ h => h) (Or.inl ⟨by rfl, ?_⟩) ?_ ?_
                                                          rotate_left
                                                          · intro w'
                                                            go_simp
                                                            with_reducible rfl
                                                          rotate_left
                                                          · simp only [Act.put, List.setIfInBounds_toArray, List.set_cons_zero, List.set_cons_succ, i64_w, i32_w]
                                                            rfl
                                                          refine pure_ (i := 6) (N := some 151) (v := ?_) (a' := ?_) #[true, true, true, false, true, true, true, false, false, false, false, false, false, false, false, false, false, false, false, false, false, false, false] rfl rfl (any_of HT_.out (by kernel_rfl)) (fun _ _ _ h => h) (Or.inl ⟨by rfl, ?_⟩) ?_ ?_
                                                          rotate_left
                                                          · intro w'
                                                            go_simp
                                                            with_reducible rfl
                                                          rotate_left
                                                          · simp only [Act.put, List.setIfInBounds_toArray, List.set_cons_zero, List.set_cons_succ, i64_w, i32_w]
                                                            rfl
                                                          refine pure_ (i := 7) (N := some 152) (v := ?_) (a' := ?_) #[true, true, true, false, true, true, true, true, false, false, false, false, false, false, false, false, false, false, false, false, false, false, false] rfl rfl (any_of HT_.out (by kernel_rfl)) (fun _ _ _ h => h) (Or.inl ⟨by rfl, ?_⟩) ?_ ?_
                                                          rotate_left
                                                          · intro w'
                                                            go_simp
                                                            with_reducible rfl
                                                          rotate_left
                                                          · simp only [Act.put, List.setIfInBounds_toArray, List.set_cons_zero, List.set_cons_succ, i64_w, i32_w]
                                                            rfl
                                                          refine pure_ (i := 9) (N := some 154) (v := ?_) (a' := ?_) #[true, true, true, false, true, true, true, true, false, true, false, false, false, false, false, false, false, false, false, false, false, false, false] rfl rfl (any_of HT_.out (by kernel_rfl)) (fun _ _ _ h => h) (Or.inl ⟨by rfl, ?_⟩) ?_ ?_
                                                          rotate_left
                                                          · intro w'
                                                            go_simp
                                                            with_reducible rfl
                                                          rotate_left
                                                          · simp only [Act.put, List.setIfInBounds_toArray, List.set_cons_zero, List.set_cons_succ, i64_w, i32_w]
                                                            rfl
                                                          refine take_ (i := 3) (N := some 148) (v := ?_) (a' := ?_) #[true, true, true, true, true, true, true, true, false, true, false, false, false, false, false, false, false, false, false, false, false, false, false] rfl rfl (take_ofW HT_.out HW_.out (by kernel_rfl)) (fun _ _ _ h => h) (Or.inl ⟨by rfl, ?_⟩) hHeld ?_ ?_
                                                          rotate_left
                                                          · rintro w' ⟨s0, s1, s2, s3, s4⟩
                                                            go_simp
                                                            with_reducible rfl
                                                          rotate_left
                                                          · simp only [Act.put, List.setIfInBounds_toArray, List.set_cons_zero, List.set_cons_succ, i64_w, i32_w]
                                                            rfl
                                                          refine take_ (i := 8) (N := some 153) (v := ?_) (a' := ?_) #[true, true, true, true, true, true, true, true, true, true, false, false, false, false, false, false, false, false, false, false, false, false, false] rfl rfl (take_ofW HT_.out HW_.out (by kernel_rfl)) (fun _ _ _ h => h) (Or.inl ⟨by rfl, ?_⟩) hHeld ?_ ?_
                                                          rotate_left
                                                          · rintro w' ⟨s0, s1, s2, s3, s4⟩
                                                            go_simp
                                                            with_reducible rfl
                                                          rotate_left
                                                          · simp only [Act.put, List.setIfInBounds_toArray, List.set_cons_zero, List.set_cons_succ, i64_w, i32_w]
                                                            rfl
                                                          refine pure_ (i := 10) (N := some 155) (v := ?_) (a' := ?_) #[true, true, true, true, true, true, true, true, true, true, true, false, false, false, false, false, false, false, false, false, false, false, false] rfl rfl (any_of HT_.out (by kernel_rfl)) (fun _ _ _ h => h) (Or.inl ⟨by rfl, ?_⟩) ?_ ?_
                                                          rotate_left
                                                          · intro w'
                                                            go_simp
                                                            with_reducible rfl
                                                          rotate_left
                                                          · simp only [Act.put, List.setIfInBounds_toArray, List.set_cons_zero, List.set_cons_succ, i64_w, i32_w]
                                                            rfl
                                                          refine take_ (i := 11) (N := some 156) (v := ?_) (a' := ?_) #[true, true, true, true, true, true, true, true, true, true, true, true, false, false, false, false, false, false, false, false, false, false, false] rfl rfl (take_ofW HT_.out HW_.out (by kernel_rfl)) (fun _ _ _ h => h) (Or.inl ⟨by rfl, ?_⟩) hHeld ?_ ?_
                                                          rotate_left
                                                          · rintro w' ⟨s0, s1, s2, s3, s4⟩
                                                            go_simp
                                                            with_reducible rfl
                                                          rotate_left
                                                          · simp only [Act.put, List.setIfInBounds_toArray, List.set_cons_zero, List.set_cons_succ, i64_w, i32_w]
                                                            rfl
                                                          refine pure_ (i := 12) (N := some 157) (v := ?_) (a' := ?_) #[true, true, true, true, true, true, true, true, true, true, true, true, true, false, false, false, false, false, false, false, false, false, false] rfl rfl (any_of HT_.out (by kernel_rfl)) (fun _ _ _ h => h) (Or.inl ⟨by rfl, ?_⟩) ?_ ?_
                                                          rotate_left
                                                          · intro w'
                                                            go_simp
                                                            with_reducible rfl
                                                          rotate_left
                                                          · simp only [Act.put, List.setIfInBounds_toArray, List.set_cons_zero, List.set_cons_succ, i64_w, i32_w]
                                                            rfl
                                                          refine pure_ (i := 13) (N := some 158) (v := ?_) (a' := ?_) #[true, true, true, true, true, true, true, true, true, true, true, true, true, true, false, false, false, false, false, false, false, false, false] rfl rfl (any_of HT_.out (by kernel_rfl)) (fun _ _ _ h => h) (Or.inl ⟨by rfl, ?_⟩) ?_ ?_
                                                          rotate_left
                                                          · intro w'
                                                            go_simp
                                                            with_reducible rfl
                                                          rotate_left
                                                          · simp only [Act.put, List.setIfInBounds_toArray, List.set_cons_zero, List.set_cons_succ, i64_w, i32_w]
                                                            rfl
                                                          refine pure_ (i := 14) (N := some 159) (v := ?_) (a' := ?_) #[true, true, true, true, true, true, true, true, true, true, true, true, true, true, true, false, false, false, false, false, false, false, false] rfl rfl (any_of HT_.out (by kernel_rfl)) (fun _ _ _ h => h) (Or.inl ⟨by rfl, ?_⟩) ?_ ?_
                                                          rotate_left
                                                          · intro w'
                                                            go_simp
                                                            with_reducible rfl
                                                          rotate_left
                                                          · simp only [Act.put, List.setIfInBounds_toArray, List.set_cons_zero, List.set_cons_succ, i64_w, i32_w]
                                                            rfl
                                                          refine pure_ (i := 15) (N := some 160) (v := ?_) (a' := ?_) #[true, true, true, true, true, true, true, true, true, true, true, true, true, true, true, true, false, false, false, false, false, false, false] rfl rfl (any_of HT_.out (by kernel_rfl)) (fun _ _ _ h => h) (Or.inl ⟨by rfl, ?_⟩) ?_ ?_
                                                          rotate_left
                                                          · intro w'
                                                            go_simp
                                                            with_reducible rfl
                                                          rotate_left
                                                          · simp only [Act.put, List.setIfInBounds_toArray, List.set_cons_zero, List.set_cons_succ, i64_w, i32_w]
                                                            rfl
                                                          refine pure_ (i := 17) (N := some 162) (v := ?_) (a' := ?_) #[true, true, true, true, true, true, true, true, true, true, true, true, true, true, true, true, false, true, false, false, false, false, false] rfl rfl (any_of HT_.out (by kernel_rfl)) (fun _ _ _ h => h) (Or.inl ⟨by rfl, ?_⟩) ?_ ?_
                                                          rotate_left
                                                          · intro w'
                                                            go_simp
                                                            with_reducible rfl
                                                          rotate_left
                                                          · simp only [Act.put, List.setIfInBounds_toArray, List.set_cons_zero, List.set_cons_succ, i64_w, i32_w]
                                                            rfl
                                                          refine take_ (i := 16) (N := some 161) (v := ?_) (a' := ?_) #[true, true, true, true, true, true, true, true, true, true, true, true, true, true, true, true, true, true, false, false, false, false, false] rfl rfl (take_ofW HT_.out HW_.out (by kernel_rfl)) (fun _ _ _ h => h) (Or.inl ⟨by rfl, ?_⟩) hHeld ?_ ?_
                                                          rotate_left
                                                          · rintro w' ⟨s0, s1, s2, s3, s4⟩
                                                            go_simp
                                                            with_reducible rfl
                                                          rotate_left
                                                          · simp only [Act.put, List.setIfInBounds_toArray, List.set_cons_zero, List.set_cons_succ, i64_w, i32_w]
                                                            rfl
                                                          refine pure_ (i := 18) (N := some 163) (v := ?_) (a' := ?_) #[true, true, true, true, true, true, true, true, true, true, true, true, true, true, true, true, true, true, true, false, false, false, false] rfl rfl (any_of HT_.out (by kernel_rfl)) (fun _ _ _ h => h) (Or.inl ⟨by rfl, ?_⟩) ?_ ?_
                                                          rotate_left
                                                          · intro w'
                                                            go_simp
                                                            with_reducible rfl
                                                          rotate_left
                                                          · simp only [Act.put, List.setIfInBounds_toArray, List.set_cons_zero, List.set_cons_succ, i64_w, i32_w]
                                                            rfl
                                                          refine take_ (i := 19) (N := some 164) (v := ?_) (a' := ?_) #[true, true, true, true, true, true, true, true, true, true, true, true, true, true, true, true, true, true, true, true, false, false, false] rfl rfl (take_ofW HT_.out HW_.out (by kernel_rfl)) (fun _ _ _ h => h) (Or.inl ⟨by rfl, ?_⟩) hHeld ?_ ?_
                                                          rotate_left
                                                          · rintro w' ⟨s0, s1, s2, s3, s4⟩
                                                            go_simp
                                                            with_reducible rfl
                                                          rotate_left
                                                          · simp only [Act.put, List.setIfInBounds_toArray, List.set_cons_zero, List.set_cons_succ, i64_w, i32_w]
                                                            rfl
                                                          refine pure_ (i := 20) (N := some 165) (v := ?_) (a' := ?_) #[true, true, true, true, true, true, true, true, true, true, true, true, true, true, true, true, true, true, true, true, true, false, false] rfl rfl (any_of HT_.out (by kernel_rfl)) (fun _ _ _ h => h) (Or.inl ⟨by rfl, ?_⟩) ?_ ?_
                                                          rotate_left
                                                          · intro w'
                                                            go_simp
                                                            with_reducible rfl
                                                          rotate_left
                                                          · simp only [Act.put, List.setIfInBounds_toArray, List.set_cons_zero, List.set_cons_succ, i64_w, i32_w]
                                                            rfl
                                                          refine pure_ (i := 21) (N := some 166) (v := ?_) (a' := ?_) #[true, true, true, true, true, true, true, true, true, true, true, true, true, true, true, true, true, true, true, true, true, true, false] rfl rfl (any_of HT_.out (by kernel_rfl)) (fun _ _ _ h => h) (Or.inl ⟨by rfl, ?_⟩) ?_ ?_
                                                          rotate_left
                                                          · intro w'
                                                            go_simp
                                                            with_reducible rfl
                                                          rotate_left
                                                          · simp only [Act.put, List.setIfInBounds_toArray, List.set_cons_zero, List.set_cons_succ, i64_w, i32_w]
                                                            rfl
                                                          refine last_ (i := 22) (N := none) #[true, true, true, true, true, true, true, true, true, true, true, true, true, true, true, true, true, true, true, true, true, true, true] rfl rfl (one_of HT_.out (by kernel_rfl)) (by decide) (fun K hK => ?_)
                                                          refine skip_ (w1 := ?_) (by rfl) rfl ?_ ?_
                                                          rotate_left
                                                          · go_simp
                                                            rfl
                                                          refine hK.out _ _ ?_
                                                          clear hK K
                                                          refine done_ (done_of HT_.out (by kernel_rfl)) ?_
                                                          try go_wp2
                                                          (try simp only [← hl10_5])
                                                          go_roundg k5
                                                          case measure => have := HJ20.out; have := HJ53.out; have := HK3.out; have := HK4.out; have := HK5.out; omega
                                                          case rel => exact ⟨(y309), (wrap64 (x13_5 + 1)), (by first | rfl | (simp; done) | (simp [*]; done)), H', ⟨by have := HJ20.out; have := HJ53.out; have := HK3.out; have := HK4.out; have := HK5.out; omega⟩, ⟨by (try simp only [hl10_4]); (try simp only [hl10_5]); (with_reducible repeat (first | apply Kd.S_alloc | apply Kd.S_drewN | apply Kd.S_drew)); exact HQ100.out⟩, ⟨by (try simp only [hl10_4]); (try simp only [hl10_5]); (with_reducible repeat (first | refine blk_drewN ?_ _ | refine blk_drew ?_ | refine blk_alloc ?_ _)); refine blk_far ?_ (by have h_ := Kd.R_ne HL299_0.out BK259.out (by decide); intro e_; exact h_ (by rw [e_]; rfl)) _; (with_reducible repeat (first | refine blk_drewN ?_ _ | refine blk_drew ?_ | refine blk_alloc ?_ _)); exact BK259.out⟩, ⟨by repeat (first | (with_reducible first | exact HB.out | apply below_alloc | apply pw_below_drewN | apply below_drew1 | refine below_set ?_ GB98.out | refine below_set ?_ GE259.out) | exact HB.out)⟩⟩
                                                        · rw [if_neg c97] at H
                                                          exact absurd H (by simp)
                                                      · rw [if_neg c96] at H
                                                        exact absurd H (by simp)
                                                  · rw [if_neg c89] at H
                                                    exact absurd H (by simp)
                                                · rw [if_neg c88] at H
                                                  exact absurd H (by simp)
                                              · replace c87 := Bool.eq_false_iff.mpr c87
                                                subst c87
                                                have H1 : (colloquyref03_Table.l3 k5 a1 x10_5 x11_3 (wrap64 (x12_4 + 1)) a0_0 l0_1 l0_2) = some r := by rw [if_neg (show ¬ (false = true) by decide)] at H; exact H
                                                clear H
                                                have H := H1
                                                clear H1
                                                have H' := Aside0.mk H
                                                clear H
                                                have p297 : 0 ≤ (x12_4 : Int) := of_decide_eq_true (by first | (with_reducible assumption) | assumption)
                                                have q297 : x12_4 < (x10_5.length : Int) := of_decide_eq_true (by first | (with_reducible assumption) | assumption)
                                                obtain ⟨ad297, A297_0, c297_0, e297, hx297_0, hl297_0, hi297_0⟩ := at_L6 (Kd.S_reads' HO_10.out).2.2 x12_4 p297 q297
                                                cases e297
                                                obtain ⟨ce297, hce297, hMe297, hcc297⟩ := Kd.S_get HO_10.out [] x12_4 p297 (by first | exact q297 | exact of_decide_eq_true (by first | (with_reducible assumption) | assumption) | (have e_ := (Kd.S_reads' HO_10.out).1; omega))
                                                obtain ⟨ve297_0, rfl, ge297_0⟩ := hMe297
                                                have hv297_0 := hcc297 0 _ rfl
                                                rw [Nat.add_zero, show ((Kd.slice 4 Kd.bool)).sz = 1 from rfl, Nat.mul_one] at hv297_0
                                                replace hv297_0 := Option.some.inj (hv297_0.symm.trans hx297_0)
                                                rw [hv297_0] at ge297_0
                                                have HL297_0 := Aside0.mk (show Kd.R Kd.bool 4 _ _ _ _ (rd_L6 x10_5 x12_4) from ge297_0)
                                                clear hv297_0 ge297_0
                                                have HX297_0 := Aside0.mk hx297_0
                                                clear hcc297 hce297
                                                have HR297_0 := Aside0.mk hi297_0
                                                have HC297_0 := Aside0.mk hl297_0
                                                clear hi297_0 hl297_0
                                                replace p297 := eq_true p297
                                                replace q297 := eq_true q297
                                                have p298 : 0 ≤ (x11_3 : Int) := of_decide_eq_true (by first | (with_reducible assumption) | assumption)
                                                have q298 : x11_3 < ((rd_L6 x10_5 x12_4).length : Int) := of_decide_eq_true (by first | (with_reducible assumption) | assumption)
                                                obtain ⟨ad298, e298, hx298_0⟩ := Kd.at_bool (by repeat (first | (with_reducible exact HR297_0.out) | (with_reducible refine Kd.C_alloc ?_ _) | (with_reducible refine Kd.C_drewN ?_ _) | (with_reducible refine Kd.C_drew ?_) | exact HR297_0.out)) x11_3 p298 q298
                                                (try rw [← Nbq86.out] at hx298_0)
                                                cases e298
                                                replace p298 := eq_true p298
                                                replace q298 := eq_true q298
                                                go_wp2
                                                (try simp only [← hl10_4, ← hl10_5])
                                                go_roundg k5
                                                case measure => have := HJ20.out; have := HJ53.out; have := HK3.out; have := HK4.out; have := HK5.out; omega
                                                case rel => exact ⟨(x10_5), (wrap64 (x12_4 + 1)), (by first | rfl | (simp; done) | (simp [*]; done)), H', ⟨by have := HJ20.out; have := HJ53.out; have := HK3.out; have := HK4.out; have := HK5.out; omega⟩, ⟨by (try simp only [hl10_4]); (try simp only [hl10_5]); (with_reducible repeat (first | apply Kd.S_alloc | apply Kd.S_drewN | apply Kd.S_drew)); exact HO_10.out⟩, ⟨by (try simp only [hl10_4]); (try simp only [hl10_5]); (with_reducible repeat (first | refine blk_drewN ?_ _ | refine blk_drew ?_ | refine blk_alloc ?_ _)); exact BK259.out⟩, ⟨by repeat (first | (with_reducible first | exact HB.out | apply below_alloc | apply pw_below_drewN | apply below_drew1 | refine below_set ?_ GE259.out) | exact HB.out)⟩⟩
                                            · rw [if_neg c85] at H
                                              exact absurd H (by simp)
                                          · rw [if_neg c84] at H
                                            exact absurd H (by simp)
                                        · rw [if_neg c83] at H
                                          exact absurd H (by simp)
                                      · rw [if_neg c82] at H
                                        exact absurd H (by simp)
                                    · rw [if_neg c81] at H
                                      have c81b0 : decide (x13_5 < (x10_5.length : Int)) = false := decide_eq_false c81
                                      clear c81
                                      have H' := Aside0.mk H
                                      clear H
                                      go_wp2
                                      (try simp only [← hl10_4, ← hl10_5])
                                      go_roundg k5
                                      case measure => have := HJ20.out; have := HJ53.out; have := HK3.out; have := HK4.out; have := HK5.out; omega
                                      case rel => exact ⟨(x10_5), (wrap64 (x12_4 + 1)), (by first | rfl | (simp; done) | (simp [*]; done)), H', ⟨by have := HJ20.out; have := HJ53.out; have := HK3.out; have := HK4.out; have := HK5.out; omega⟩, ⟨by (try simp only [hl10_4]); (try simp only [hl10_5]); (with_reducible repeat (first | apply Kd.S_alloc | apply Kd.S_drewN | apply Kd.S_drew)); exact HO_10.out⟩, ⟨by (try simp only [hl10_4]); (try simp only [hl10_5]); (with_reducible repeat (first | refine blk_drewN ?_ _ | refine blk_drew ?_ | refine blk_alloc ?_ _)); exact BK259.out⟩, ⟨by repeat (first | (with_reducible first | exact HB.out | apply below_alloc | apply pw_below_drewN | apply below_drew1 | refine below_set ?_ GE259.out) | exact HB.out)⟩⟩
                              · rw [if_neg c80] at H
                                have c80b0 : decide (x12_4 < (x10_4.length : Int)) = false := decide_eq_false c80
                                clear c80
                                have H' := Aside0.mk H
                                clear H
                                go_wp2
                                (try simp only [← hl10_4])
                                go_roundg k4
                                case measure => have := HJ20.out; have := HJ53.out; have := HK3.out; have := HK4.out; omega
                                case rel => exact ⟨(x10_4), (wrap64 (x11_3 + 1)), (by first | rfl | (simp; done) | (simp [*]; done)), H', ⟨by have := HJ20.out; have := HJ53.out; have := HK3.out; have := HK4.out; omega⟩, ⟨by (try simp only [hl10_4]); (with_reducible repeat (first | apply Kd.S_alloc | apply Kd.S_drewN | apply Kd.S_drew)); exact HO_10.out⟩, ⟨by (try simp only [hl10_4]); (with_reducible repeat (first | refine blk_drewN ?_ _ | refine blk_drew ?_ | refine blk_alloc ?_ _)); exact BK259.out⟩, ⟨by repeat (first | (with_reducible first | exact HB.out | apply below_alloc | apply pw_below_drewN | apply below_drew1 | refine below_set ?_ GE259.out) | exact HB.out)⟩⟩
                        · rw [if_neg c78] at H
                          have c78b0 : decide (x11_3 < (x10_3.length : Int)) = false := decide_eq_false c78
                          clear c78
                          by_cases c102 : a0_0 = 4
                          · rw [if_pos c102] at H
                            have c102b0 : (a0_0 == 4) = true := beq_iff_eq.mpr c102
                            have c102b1 : (a0_0 != 4) = false := bne_eq_false_iff_eq.mpr c102
                            clear c102
                            replace H := Option.bind_eq_some_iff.mp H
                            obtain ⟨t310, A1030, H⟩ := H
                            replace H : ((colloquyref03_either.f k3 x10_3 t310).bind fun t313 => (some t313)) = some r := H
                            have A103 := Aside0.mk A1030
                            clear A1030
                            replace H := Option.bind_eq_some_iff.mp H
                            obtain ⟨t313, A1040, H⟩ := H
                            replace H : (some t313) = some r := H
                            have A104 := Aside0.mk A1040
                            clear A1040
                            obtain rfl := Option.some.inj H
                            obtain ⟨Ao105, co105, eo105⟩ := Kd.S_slice HO_10.out
                            subst eo105
                            have hcz106_0 : wr.cell? ⟨gb259, 0, none⟩ = some (.int .i64 a0_0) := (blk_cell BK259.out 0).trans rfl
                            have hcz106_1 : wr.cell? ⟨gb259, 1, none⟩ = some (.slice A0_1 l0_1.length c0_1) := (blk_cell BK259.out 1).trans rfl
                            have hcz106_2 : wr.cell? ⟨gb259, 2, none⟩ = some (.slice (some ad287) l0_2.length c0_2) := (blk_cell BK259.out 2).trans rfl
                            have hfz106_0 := blk_frozen BK259.out 0
                            have hfz106_1 := blk_frozen BK259.out 1
                            have hfz106_2 := blk_frozen BK259.out 2
                            go_wp2_with (first | ((with_reducible refine gate_callee (f := 32) rfl ?_); refine goesL_ (some 174) rfl rfl Try.func32 (by kernel_rfl) rfl #[.int .i64 (wrap64 ((a1.size : Int) + 1))] rfl (by (try simp only [List.map_toArray, List.map_cons, List.map_nil]); first | done | rfl | (simp only [List.length_drop, List.length_take]; rfl)) ?_; (with_reducible refine (colloquyref03_same.calls k3 (wrap64 ((a1.size : Int) + 1)) t310 _ A103.out).mono ?_); rintro e w107 ⟨v311, rfl, ho0, hb⟩; refine ⟨_, rfl, ?_⟩; have n0_ := Aside0.mk (Kd.S_elder' (by (with_reducible repeat (first | apply Kd.S_alloc | apply Kd.S_drewN | apply Kd.S_drew)); exact HO_10.out) (Kd.S_base ho0) hb); have n1_ := Aside0.mk (Kd.S_lower (Kd.S_new' ho0 (Kd.S_lt (by (with_reducible repeat (first | apply Kd.S_alloc | apply Kd.S_drewN | apply Kd.S_drew)); exact HO_10.out))) (below_size (by repeat (first | (with_reducible first | exact HB.out | apply below_alloc | apply pw_below_drewN | apply below_drew1 | refine below_set ?_ GE259.out) | exact HB.out)))); have n2_ := Aside0.mk (blk_below (g := gb259) (o := .cells #[.int .i64 a0_0, .slice A0_1 l0_1.length c0_1, .slice (some ad287) l0_2.length c0_2] 25 (0, 0)) (by (with_reducible repeat (first | refine blk_drewN ?_ _ | refine blk_drew ?_ | refine blk_alloc ?_ _)); exact BK259.out) hb); have n3_ := Aside0.mk (below_step (by repeat (first | (with_reducible first | exact HB.out | apply below_alloc | apply pw_below_drewN | apply below_drew1 | refine below_set ?_ GE259.out) | exact HB.out)) hb); clear HO_10; clear BK259; clear HB; have HO_10 := n0_; have HO312 := n1_; have BK259 := n2_; have HB := n3_; clear n0_ n1_ n2_ n3_; (try clear hb); (try clear hb2); (try clear hk); (try clear hi); (try clear ho0); obtain ⟨Ao108, co108, eo108⟩ := Kd.S_slice HO312.out; subst eo108) | ((with_reducible refine gate_callee (f := 34) rfl ?_); refine goesL_ (some 175) rfl rfl Try.func34 (by kernel_rfl) rfl #[.slice Ao105 x10_3.length co105, .slice Ao108 t310.length co108] rfl (by (try simp only [List.map_toArray, List.map_cons, List.map_nil]); first | done | rfl | (simp only [List.length_drop, List.length_take]; rfl)) ?_; (with_reducible refine (colloquyref03_either.calls k3 _ _ x10_3 _ _ t310 t313 _ ?side1 ?side2 ?side3 ?side4 A104.out).mono ?_); (case side1 => repeat (first | exact (Kd.S_reads' HO_10.out).2.2 | (with_reducible refine Kd.C_alloc ?_ _) | (with_reducible refine Kd.C_drewN ?_ _) | (with_reducible refine Kd.C_drew ?_))); (case side2 => exact (Kd.S_reads' HO_10.out).2.1); (case side3 => repeat (first | exact (Kd.S_reads' HO312.out).2.2 | (with_reducible refine Kd.C_alloc ?_ _) | (with_reducible refine Kd.C_drewN ?_ _) | (with_reducible refine Kd.C_drew ?_))); (case side4 => exact (Kd.S_reads' HO312.out).2.1); rintro e w109 ⟨v314, rfl, ho0, hb⟩; refine ⟨_, rfl, ?_⟩; have n0_ := Aside0.mk (Kd.S_elder' (by (with_reducible repeat (first | apply Kd.S_alloc | apply Kd.S_drewN | apply Kd.S_drew)); exact HO_10.out) (Kd.S_base ho0) hb); have n1_ := Aside0.mk (Kd.S_elder' (by (with_reducible repeat (first | apply Kd.S_alloc | apply Kd.S_drewN | apply Kd.S_drew)); exact HO312.out) (Kd.S_base ho0) hb); have n2_ := Aside0.mk (Kd.S_lower (Kd.S_new' (Kd.S_new' ho0 (Kd.S_lt (by (with_reducible repeat (first | apply Kd.S_alloc | apply Kd.S_drewN | apply Kd.S_drew)); exact HO_10.out))) (Kd.S_lt (by (with_reducible repeat (first | apply Kd.S_alloc | apply Kd.S_drewN | apply Kd.S_drew)); exact HO312.out))) (below_size (by repeat (first | (with_reducible first | exact HB.out | apply below_alloc | apply pw_below_drewN | apply below_drew1 | refine below_set ?_ GE259.out) | exact HB.out)))); have n3_ := Aside0.mk (blk_below (g := gb259) (o := .cells #[.int .i64 a0_0, .slice A0_1 l0_1.length c0_1, .slice (some ad287) l0_2.length c0_2] 25 (0, 0)) (by (with_reducible repeat (first | refine blk_drewN ?_ _ | refine blk_drew ?_ | refine blk_alloc ?_ _)); exact BK259.out) hb); have n4_ := Aside0.mk (below_step (by repeat (first | (with_reducible first | exact HB.out | apply below_alloc | apply pw_below_drewN | apply below_drew1 | refine below_set ?_ GE259.out) | exact HB.out)) hb); clear HO_10; clear HO312; clear BK259; clear HB; have HO_10 := n0_; have HO312 := n1_; have HO315 := n2_; have BK259 := n3_; have HB := n4_; clear n0_ n1_ n2_ n3_ n4_; (try clear hb); (try clear hb2); (try clear hk); (try clear hi); (try clear ho0)))
                            go_ret
                            exact ⟨_, by first | rfl | (simp [errW_none, errW_some] <;> rfl) | (simp [*, errW_none, errW_some] <;> rfl), by (with_reducible repeat (first | apply Kd.S_alloc | apply Kd.S_drewN | apply Kd.S_drew)); exact Kd.S_mono HO315.out (fun _ hk => trivial), by repeat (first | (with_reducible first | exact HB.out | apply below_alloc | apply pw_below_drewN | apply below_drew1 | refine below_set ?_ GE259.out) | exact HB.out)⟩
                          · rw [if_neg c102] at H
                            have c102b0 : (a0_0 == 4) = false := beq_eq_false_iff_ne.mpr c102
                            have c102b1 : (a0_0 != 4) = true := bne_iff_ne.mpr c102
                            obtain rfl := Option.some.inj H
                            obtain ⟨Ao110, co110, eo110⟩ := Kd.S_slice HO_10.out
                            subst eo110
                            have hcz111_0 : wr.cell? ⟨gb259, 0, none⟩ = some (.int .i64 a0_0) := (blk_cell BK259.out 0).trans rfl
                            have hcz111_1 : wr.cell? ⟨gb259, 1, none⟩ = some (.slice A0_1 l0_1.length c0_1) := (blk_cell BK259.out 1).trans rfl
                            have hcz111_2 : wr.cell? ⟨gb259, 2, none⟩ = some (.slice (some ad287) l0_2.length c0_2) := (blk_cell BK259.out 2).trans rfl
                            have hfz111_0 := blk_frozen BK259.out 0
                            have hfz111_1 := blk_frozen BK259.out 1
                            have hfz111_2 := blk_frozen BK259.out 2
                            go_wp2
                            go_ret
                            exact ⟨_, by first | rfl | (simp [errW_none, errW_some] <;> rfl) | (simp [*, errW_none, errW_some] <;> rfl), by (with_reducible repeat (first | apply Kd.S_alloc | apply Kd.S_drewN | apply Kd.S_drew)); exact HO_10.out, by repeat (first | (with_reducible first | exact HB.out | apply below_alloc | apply pw_below_drewN | apply below_drew1 | refine below_set ?_ GE259.out) | exact HB.out)⟩
                · rw [if_neg c63] at H
                  exact absurd H (by simp)

end Go.Proofs.Ytmhodkkfbbpgaaa.PNfa
