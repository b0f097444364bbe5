/- TalkTimes, walked. -/
import Derived.Test.YtjnfomgehfmllaaTo
namespace Go.Proofs.Ytjnfomgehfmllaa.Tk
set_option linter.unusedVariables false
set_option linter.unusedSimpArgs false
open Go.RowKit Go.Proofs.Ytjnfomgehfmllaa.Mem Go.Proofs.Ytjnfomgehfmllaa.By Go.Proofs.YtjnfomgehfmllaaW.PrintWords Go.Proofs.YtjnfomgehfmllaaW.PrintLast Go.Proofs.YtjnfomgehfmllaaW.PrintMore

theorem chin_nil (w : World) : ChIn w (.slice none 0 0) [] := ⟨none, 0, rfl, Nat.le_refl _, by simp, fun h => absurd rfl h, fun g o hg => by cases hg⟩
abbrev clT : List Cl := [(1, some ⟨#[120]⟩), (4, none)]
theorem silent_wait (now u bound : Int) : waitP ⟨[], 0, 0⟩ clT 9 u bound 1 ⟨0, now, 0⟩ [] false 0 = if bound < u then (⟨6, -1, [], 0⟩, ⟨0, max now (min u bound), 0⟩, []) else (⟨5, 1, [], 0⟩, ⟨0, max now (min u bound), 0⟩, []) := by
  have h1 : lookP clT [] 0 = none := rfl
  have h2 : nextP ⟨[], 0, 0⟩ ⟨0, now, 0⟩ (min u bound) = (4, [], ⟨0, max now (min u bound), 0⟩) := by
    unfold nextP
    have : due ⟨[], 0, 0⟩ ⟨0, now, 0⟩ = (0, 4) := rfl
    rw [this, if_pos (.inl rfl)]
  rw [waitP, h1]
  simp only [h2]
  rw [if_neg (by simp), if_neg (by decide), if_neg (by decide), if_neg (by decide)]
  rfl
set_option maxHeartbeats 4000000 in
set_option maxRecDepth 100000 in
theorem times_walk {w : World} {m : Int} (us : List Int) (bound : Int) (A : Option Addr) (n c : Nat) (hu : ReadsInt w .i64 A n us) (hm : w.cell? ⟨0, 0, none⟩ = some (.int .i64 m)) : Calls Try.prog 3 #[.slice A n c, .int .i64 bound] w fun e w' => e = .returned (.bool true) ∧ Below w.heap.size w w' := by
  have HU := Lib.hid hu
  have HAL := Lib.hid (alive_any hm)
  have HM := Lib.hid hm
  clear hu hm
  go_enter Try.func3, Try.ntmps3
  go_wp2_with (first | (go_at_call 6; refine Hid.out ?_))
  refine Lib.hid ?_
  refine HAL.out.mono ?_
  rintro e w1 ⟨rfl, hb1⟩
  have HB1 := Lib.hid hb1
  clear hb1 HAL
  obtain ⟨W, hW⟩ : ∃ W, W = w1.alloc (.cells #[.int .i64 1, .string ⟨#[120]⟩, .bool false, .slice none 0 0, .int .i64 4, .string ⟨#[]⟩, .bool false, .slice none 0 0] 30) := ⟨_, rfl⟩
  have hCI : CIn W (.slice (some ⟨w1.heap.size, 0, none⟩) 2 2) [(1, ⟨#[120]⟩), (4, ⟨#[]⟩)] := by
    have hb : Blk W w1.heap.size 30 (apCells [(1, ⟨#[120]⟩), (4, ⟨#[]⟩)]).toArray := by rw [hW]; exact Blk.new _ _ _
    exact cin_blk hb (Nat.le_refl _) (by decide)
  have HBW : Hid (Below w1.heap.size w1 W) := Lib.hid (by rw [hW]; exact (Below.refl _ _).alloc (Nat.le_refl _) _)
  have HCO := Lib.hid (tcomp_any hCI (by intro c hc; simp at hc; rcases hc with rfl | rfl; exact .inl ⟨rfl, by decide⟩; exact .inr ⟨by decide, by decide⟩))
  have HWE := Lib.hid hW
  clear hCI hW
  go_wp2_with (first | (go_at_call 7; refine Hid.out ?_))
  refine Lib.hid ?_
  rw [← HWE.out]
  refine HCO.out.mono ?_
  rintro e w2 ⟨cv, rfl, hcl, hb2⟩
  have HCL := Lib.hid hcl
  have HB2 : Hid (Below w.heap.size w w2) := Lib.hid (HB1.out.trans ((HBW.out.trans (hb2.mono HBW.out.size)).mono HB1.out.size))
  obtain ⟨Acv, ccv, rfl, _, _, _, _⟩ := id hcl
  clear hcl hb2 HCO HWE HBW HB1
  have HOP := Lib.hid (open_any (chin_nil w2) 0 0)
  go_wp2_with (first | (go_at_call 8; refine Hid.out ?_))
  refine Lib.hid ?_
  refine HOP.out.mono ?_
  rintro e w3 ⟨g, rfl, hge, hlt, hb3, hli⟩
  have HNW := Lib.hid (new_any w3 9)
  have HF3 := Lib.hid (And.intro (And.intro hge hlt) (And.intro hb3 hli))
  clear hge hlt hb3 hli HOP
  go_wp2_with (first | (go_at_call 9; refine Hid.out ?_))
  refine Lib.hid ?_
  refine HNW.out.mono ?_
  rintro e w4 ⟨rfl, hb4, hbu⟩
  obtain ⟨gB, hgB⟩ : ∃ g, g = w3.heap.size := ⟨_, rfl⟩
  have HS : Hid (Ses w w4 g gB g 9 ⟨[], 0, 0⟩ clT (.slice Acv 2 ccv) ⟨0, 0, 0⟩ []) := Lib.hid (by
    rw [hgB]
    exact Ses.mk' HM.out HCL.out HB2.out HF3.out.2.1 HF3.out.1.1 HF3.out.1.2 HF3.out.2.2 hb4 hbu)
  rw [← hgB]
  clear hb4 hbu hgB HNW HF3
  go_wp2
  have HN := Lib.hid HU.out.2.1
  go_loopg [9, 37] (n + 1) (fun kq v9 v37 wr => ∃ (i : Nat) (now : Int), i ≤ n ∧ v37 = .int .i64 i ∧ v9 = .int .i64 now ∧ Hid (kq = n + 1 - i) ∧ Hid (Ses w wr g gB g 9 ⟨[], 0, 0⟩ clT (.slice Acv 2 ccv) ⟨0, now, 0⟩ []))
  case atStart => exact ⟨0, 0, by omega, rfl, rfl, Lib.hid rfl, HS⟩
  case round =>
    clear HS HB2 HCL
    obtain ⟨i, now, hi, rfl, rfl, HKQ, HS⟩ := hrel
    have hn := HN.out
    rcases Nat.lt_or_ge i n with hlt | hge
    · obtain ⟨a, rfl, hcell⟩ := HU.out.2.2 (by omega)
      obtain ⟨u, hu⟩ : ∃ u, u = us.getD i 0 := ⟨_, rfl⟩
      have c0 : wr.cell? (a.add i) = some (.int .i64 u) := by
        have h0 := hcell i hlt
        rw [hu]
        exact cell_same h0 (HS.out.below.block _ (World.block_lt_of_cell? w _ h0))
      have g1 : decide ((i : Int) < (n : Int)) = true := by simp; omega
      have g2 : (i : Int) < (n : Int) := by omega
      have s1 : IntKind.i64.wrap ((i : Int) + 1) = (i : Int) + 1 := IntWalk.i64_in _ (by omega)
      clear hcell hu
      by_cases h30 : 30 ≤ (i : Int)
      · have g3 : decide (30 ≤ (i : Int)) = true := by simpa using h30
        clear hn
        go_wp2
        go_ret
        exact ⟨rfl, HS.out.below⟩
      · have g3 : decide (30 ≤ (i : Int)) = false := by simpa using h30
        clear hn h30
        have hsw := silent_wait now u bound
        obtain ⟨R, hR⟩ : ∃ R, R = waitP ⟨[], 0, 0⟩ clT 9 u bound 1 ⟨0, now, 0⟩ [] false 0 := ⟨_, rfl⟩
        have HW := Lib.hid (HS.out.wait u bound 1 (Nat.lt_succ_self 0) hR.symm)
        rw [← hR] at hsw
        clear hR
        obtain ⟨mn, hmn⟩ : ∃ x, x = max now (min u bound) := ⟨_, rfl⟩
        have e2 : max now (min u bound) = mn := hmn.symm
        rw [e2] at hsw
        clear hmn
        by_cases hbu : bound < u
        · have g4 : decide (bound < u) = true := by simpa using hbu
          rw [if_pos hbu] at hsw
          subst hsw
          dsimp only [List.length_nil] at HW
          go_wp2_with (first | (go_at_call 10; refine Hid.out ?_))
          refine Lib.hid ?_
          refine HW.out.mono ?_
          rintro e w7 ⟨A7, c7, rfl, ho7, hs7, hz7, hk7⟩
          obtain ⟨W7, hW7⟩ : ∃ W', W' = w7.alloc (.cells #[.int .i64 6, .int .i64 (-1), .slice A7 0 c7, .int .i64 0] 41) := ⟨_, rfl⟩
          have hB7 : Below w7.heap.size w7 W7 := by rw [hW7]; exact (Below.refl _ _).alloc (Nat.le_refl _) _
          have HS7 := Lib.hid (hs7.far hB7)
          have HP7 : Hid (Blk W7 w7.heap.size 41 #[.int .i64 6, .int .i64 (-1), .slice A7 0 c7, .int .i64 0]) := Lib.hid (by rw [hW7]; exact Blk.new _ _ _)
          clear ho7 hs7 hz7 hk7 hB7 c0
          go_upto_region 13 with fail
          rw [← hW7]
          clear hW7
          go_wp2_with (first | (go_at_call 11; refine Hid.out ?_))
          refine Lib.hid ?_
          refine HS7.out.now_.mono ?_
          rintro e w8 ⟨rfl, q8, hq8⟩
          have HS8 := Lib.hid (HS7.out.far (show Below W7.heap.size W7 w8 by rw [hq8]; exact below_drewN (Below.refl _ _) _))
          obtain ⟨⟨y0, y1, y2, y3⟩, _⟩ := blk4 (show Blk w8 w7.heap.size 41 #[.int .i64 6, .int .i64 (-1), .slice A7 0 c7, .int .i64 0] by rw [hq8]; exact HP7.out.drewN q8)
          clear hq8
          go_wp2
          go_roundg (n + 1 - (i + 1))
          case measure => have := HKQ.out; omega
          case rel => exact ⟨i + 1, mn, by omega, by simp, rfl, Lib.hid rfl, HS8⟩
        · have g4 : decide (bound < u) = false := by simpa using hbu
          rw [if_neg hbu] at hsw
          subst hsw
          dsimp only [List.length_nil] at HW
          go_wp2_with (first | (go_at_call 10; refine Hid.out ?_))
          refine Lib.hid ?_
          refine HW.out.mono ?_
          rintro e w7 ⟨A7, c7, rfl, ho7, hs7, hz7, hk7⟩
          obtain ⟨W7, hW7⟩ : ∃ W', W' = w7.alloc (.cells #[.int .i64 5, .int .i64 1, .slice A7 0 c7, .int .i64 0] 41) := ⟨_, rfl⟩
          have hB7 : Below w7.heap.size w7 W7 := by rw [hW7]; exact (Below.refl _ _).alloc (Nat.le_refl _) _
          have HS7 := Lib.hid (hs7.far hB7)
          have HP7 : Hid (Blk W7 w7.heap.size 41 #[.int .i64 5, .int .i64 1, .slice A7 0 c7, .int .i64 0]) := Lib.hid (by rw [hW7]; exact Blk.new _ _ _)
          clear ho7 hs7 hz7 hk7 hB7 c0
          go_upto_region 13 with fail
          rw [← hW7]
          clear hW7
          go_wp2_with (first | (go_at_call 11; refine Hid.out ?_))
          refine Lib.hid ?_
          refine HS7.out.now_.mono ?_
          rintro e w8 ⟨rfl, q8, hq8⟩
          have HS8 := Lib.hid (HS7.out.far (show Below W7.heap.size W7 w8 by rw [hq8]; exact below_drewN (Below.refl _ _) _))
          obtain ⟨⟨y0, y1, y2, y3⟩, _⟩ := blk4 (show Blk w8 w7.heap.size 41 #[.int .i64 5, .int .i64 1, .slice A7 0 c7, .int .i64 0] by rw [hq8]; exact HP7.out.drewN q8)
          clear hq8
          go_wp2
          go_roundg (n + 1 - (i + 1))
          case measure => have := HKQ.out; omega
          case rel => exact ⟨i + 1, mn, by omega, by simp, rfl, Lib.hid rfl, HS8⟩
    · obtain rfl : i = n := by omega
      have g1 : decide ((i : Int) < (i : Int)) = false := by simp
      go_wp2
      go_ret
      exact ⟨rfl, HS.out.below⟩
theorem times_row (us : List Int) (bound : Int) (A : Option Addr) (n c : Nat) (W : World) (m : Int) (hm : W.cell? ⟨0, 0, none⟩ = some (.int .i64 m)) (hu : ReadsInt W .i64 A n us) : Calls Try.prog 3 #[.slice A n c, .int .i64 bound] W fun e w' => e = .returned (.bool true) ∧ Below W.heap.size W w' := times_walk us bound A n c hu hm
end Go.Proofs.Ytjnfomgehfmllaa.Tk
