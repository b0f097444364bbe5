/- TalkFirst, walked. -/
import Derived.Test.YtjnfomgehfmllaaTv
import Derived.Test.YtjnfomgehfmllaaTl
namespace Go.Proofs.Ytjnfomgehfmllaa.Tk
set_option linter.unusedVariables false
set_option linter.unusedSimpArgs false
open Go.RowKit Go.Proofs.Ytjnfomgehfmllaa.Mem Go.Proofs.Ytjnfomgehfmllaa.By Go.Proofs.YtjnfomgehfmllaaW.PrintWords Go.Proofs.YtjnfomgehfmllaaW.PrintLast Go.Proofs.YtjnfomgehfmllaaW.PrintMore

theorem wpAnyH_mono {P : Program} {md : Region.Mode} {ops : Array Oper} {Q : Exit → Act → World → Prop} {S S' : World → Prop} (hs : ∀ w, S' w → S w) : ∀ (fuel : Nat) (listed : Array Bool) (a : Act) (w : World), wpAnyH P md ops Q S' fuel listed a w → wpAnyH P md ops Q S fuel listed a w
  | 0, _, _, _, h => h
  | fuel + 1, _, _, _, h => ⟨h.1, fun i hi => wpOp_mono (fun a' w' h' => ⟨hs _ h'.1, wpAnyH_mono hs fuel _ a' w' h'.2⟩) (h.2 i hi)⟩
theorem Ses.rest {w0 w : World} {gL gB N most : Nat} {s : Ln} {l : List Cl} {cv : Value} {d : Ld} {b : List Int} (h : Ses w0 w gL gB N most s l cv d b) : Calls Try.prog 14 #[.pointer (some ⟨gL, 0, none⟩)] w fun e w' => e = .returned (.int .i64 ((s.chunks.length : Int) - (d.at_ : Int))) ∧ ∃ q, w' = w.drewN q := rest_any h.li
set_option maxHeartbeats 4000000 in
set_option maxRecDepth 100000 in
theorem first_walk {w : World} {m : Int} (one two : ByteArray) (l : List (Int × List Int)) (A : Option Addr) (c : Nat) (fin wt : Int) (h1 : one.size ≤ maxLen) (h2 : two.size ≤ maxLen) (hmx : l.length ≤ 9223372036854775807) (hch : l.length ≤ 1000 → ChIn w (.slice A l.length c) l) (hm : w.cell? ⟨0, 0, none⟩ = some (.int .i64 m)) : Calls Try.prog 5 #[.string one, .string two, .agg #[.slice A l.length c, .int .i64 fin, .int .i64 wt]] w fun e w' => e = .returned (.bool true) ∧ Below w.heap.size w w' := by
  unfold maxLen at h1 h2
  obtain ⟨n, hn⟩ : ∃ n, n = l.length := ⟨_, rfl⟩
  have HNN := Lib.hid hn
  have HCH := Lib.hid hch
  rw [← hn] at hmx ⊢
  clear hn hch
  obtain ⟨W0, hW0⟩ : ∃ W, W = w.alloc (.cells #[.slice A n c, .int .i64 fin, .int .i64 wt] 36) := ⟨_, rfl⟩
  have HB0 : Hid (Below w.heap.size w W0) := Lib.hid (by rw [hW0]; exact (Below.refl _ _).alloc (Nat.le_refl _) _)
  have HS0 : Hid (Blk W0 w.heap.size 36 #[.slice A n c, .int .i64 fin, .int .i64 wt]) := Lib.hid (by rw [hW0]; exact Blk.new _ _ _)
  have hm0 : W0.cell? ⟨0, 0, none⟩ = some (.int .i64 m) := cell_same hm (HB0.out.block 0 (World.block_lt_of_cell? w _ hm))
  have HM := Lib.hid hm
  have HAL := Lib.hid (alive_any hm0)
  have HWE0 := Lib.hid hW0
  clear hm hm0 hW0
  go_enter Try.func5, Try.ntmps5
  go_wp2_with (first | (go_at_call 6; refine Hid.out ?_))
  refine Lib.hid ?_
  rw [← HWE0.out]
  refine HAL.out.mono ?_
  rintro e w1 ⟨rfl, hb1⟩
  have HB1 : Hid (Below w.heap.size w w1) := Lib.hid (HB0.out.trans (hb1.mono HB0.out.size))
  have HS1 : Hid (Blk w1 w.heap.size 36 #[.slice A n c, .int .i64 fin, .int .i64 wt]) := Lib.hid (HS0.out.below hb1 HS0.out.lt)
  clear hb1 HAL HWE0 HS0 HB0
  obtain ⟨p0, p1, p2, _⟩ := blk3 HS1.out
  by_cases e1 : 30 < n
  · have g1 : decide (30 < (n : Int)) = true := by simp; omega
    have g2 : (30 : Int) < (n : Int) := by omega
    go_wp2
    go_ret
    exact ⟨rfl, HB1.out⟩
  · have g1 : decide (30 < (n : Int)) = false := by simp; omega
    have g1' : ¬ (30 : Int) < (n : Int) := by omega
    by_cases e2 : 100 < one.size
    · have g2 : decide (100 < (one.size : Int)) = true := by simp; omega
      have g2' : (100 : Int) < (one.size : Int) := by omega
      go_wp2
      go_ret
      exact ⟨rfl, HB1.out⟩
    · have g2 : decide (100 < (one.size : Int)) = false := by simp; omega
      have g2' : ¬ (100 : Int) < (one.size : Int) := by omega
      by_cases e3 : 100 < two.size
      · have g3 : decide (100 < (two.size : Int)) = true := by simp; omega
        have g3' : (100 : Int) < (two.size : Int) := by omega
        go_wp2
        go_ret
        exact ⟨rfl, HB1.out⟩
      · have g3 : decide (100 < (two.size : Int)) = false := by simp; omega
        have g3' : ¬ (100 : Int) < (two.size : Int) := by omega
        have HSZ : Hid (n ≤ 30 ∧ one.size ≤ 100 ∧ two.size ≤ 100) := Lib.hid ⟨by omega, by omega, by omega⟩
        clear e1 e2 e3
        obtain ⟨W, hW⟩ : ∃ W, W = w1.alloc (.cells #[.int .i64 1, .string one, .bool false, .slice none 0 0, .int .i64 1, .string two, .bool false, .slice none 0 0] 30) := ⟨_, rfl⟩
        have hCI : CIn W (.slice (some ⟨w1.heap.size, 0, none⟩) 2 2) [(1, one), (1, two)] := by
          have hb : Blk W w1.heap.size 30 (apCells [(1, one), (1, two)]).toArray := by rw [hW]; exact Blk.new _ _ _
          exact cin_blk hb (Nat.le_refl _) (by simp)
        have HBW : Hid (Below w1.heap.size w1 W) := Lib.hid (by rw [hW]; exact (Below.refl _ _).alloc (Nat.le_refl _) _)
        have HCO := Lib.hid (tcomp_any hCI (by intro c hc; simp at hc; rcases hc with rfl | rfl; exact .inl ⟨rfl, by have := HSZ.out; simp only; omega⟩; exact .inl ⟨rfl, by have := HSZ.out; simp only; omega⟩))
        have HWE := Lib.hid hW
        clear hCI hW
        go_wp2_with (first | (go_at_call 7; refine Hid.out ?_))
        refine Lib.hid ?_
        rw [← HWE.out]
        refine HCO.out.mono ?_
        rintro e w2 ⟨cv, rfl, hcl, hb2⟩
        have HCL : Hid (Cls w2 w2.heap.size cv (clF one two)) := Lib.hid hcl
        have hb12 : Below w1.heap.size w1 w2 := HBW.out.trans (hb2.mono HBW.out.size)
        have HB2 : Hid (Below w.heap.size w w2) := Lib.hid (HB1.out.trans (hb12.mono HB1.out.size))
        have HS2 : Hid (Blk w2 w.heap.size 36 #[.slice A n c, .int .i64 fin, .int .i64 wt]) := Lib.hid (HS1.out.below hb12 HS1.out.lt)
        have HCI2 : Hid (ChIn w2 (.slice A n c) l) := Lib.hid (by rw [HNN.out]; exact (HCH.out (by have := HSZ.out; have := HNN.out; omega)).below HB2.out)
        obtain ⟨Acv, ccv, rfl, _, _, _, _⟩ := id hcl
        clear hcl hb2 hb12 HCO HWE HBW HB1 p0 p1 p2 HS1
        obtain ⟨p0, p1, p2, _⟩ := blk3 HS2.out
        have HOP := Lib.hid (open_any HCI2.out fin wt)
        go_wp2_with (first | (go_at_call 8; refine Hid.out ?_))
        refine Lib.hid ?_
        refine HOP.out.mono ?_
        rintro e w3 ⟨g, rfl, hge, hlt, hb3, hli⟩
        have HNW := Lib.hid (new_any w3 2000)
        have HF3 := Lib.hid (And.intro (And.intro hge hlt) (And.intro hb3 hli))
        have HS3 : Hid (Blk w3 w.heap.size 36 #[.slice A n c, .int .i64 fin, .int .i64 wt]) := Lib.hid (HS2.out.below hb3 HS2.out.lt)
        clear hge hlt hb3 hli HOP p0 p1 p2
        go_wp2_with (first | (go_at_call 9; refine Hid.out ?_))
        refine Lib.hid ?_
        refine HNW.out.mono ?_
        rintro e w4 ⟨rfl, hb4, hbu⟩
        obtain ⟨gB, hgB⟩ : ∃ g, g = w3.heap.size := ⟨_, rfl⟩
        obtain ⟨s, hs⟩ : ∃ s : Ln, s = ⟨l, fin, wt⟩ := ⟨_, rfl⟩
        have HS : Hid (Ses w w4 g gB g 2000 s (clF one two) (.slice Acv 2 ccv) ⟨0, 0, 0⟩ []) := Lib.hid (by
          rw [hgB, hs]
          exact Ses.mk' HM.out HCL.out HB2.out HF3.out.2.1 HF3.out.1.1 HF3.out.1.2 HF3.out.2.2 hb4 hbu)
        have HBL : Hid (Blk w4 w.heap.size 36 #[.slice A n c, .int .i64 fin, .int .i64 wt]) := Lib.hid (HS3.out.below hb4 HS3.out.lt)
        have HCI4 : Hid (ChIn w4 (.slice A n c) l) := Lib.hid ((HCI2.out.below HF3.out.2.1).below hb4)
        have HSC : Hid (s.chunks = l) := Lib.hid (by rw [hs])
        rw [← hgB]
        clear hb4 hbu hgB HNW HF3 HS3 HS2 HCL HB2 HCI2 hs
        obtain ⟨p0, p1, p2, _⟩ := blk3 HBL.out
        go_wp2
        -- TAIL
        have HRC : Hid (∀ i, Rng (catC (s.chunks.take i))) := Lib.hid (fun i => by rw [HSC.out]; exact catC_rng (fun c hc => (HCI4.out.rng c hc).1) i)
        have HLP : Hid (∀ i, i ≤ n → i ≤ s.chunks.length) := Lib.hid (fun i hi => by rw [HSC.out, ← HNN.out]; exact hi)
        go_loopg [11, 12, 13, 14] (n + 2) (fun kq v11 v12 v13 v14 wr => ∃ (i : Nat) (at_ : Int) (S : ByteArray), i ≤ n ∧ v11 = .string S ∧ v12 = .int .i64 (-1) ∧ v13 = .int .i64 at_ ∧ v14 = .int .i64 i ∧ Hid (kq = n + 2 - i) ∧ Hid (S = strOfNums (catC (s.chunks.take i))) ∧ Hid ((catC (s.chunks.take i)).length ≤ 2000 → ∃ d came, RunF s one two i d came) ∧ Hid (Ses w wr g gB g 2000 s (clF one two) (.slice Acv 2 ccv) ⟨0, 0, 0⟩ []) ∧ Hid (Blk wr w.heap.size 36 #[.slice A n c, .int .i64 fin, .int .i64 wt]) ∧ Hid (ChIn wr (.slice A n c) l))
        case atStart => exact ⟨0, 0, _, by omega, rfl, rfl, rfl, rfl, Lib.hid rfl, Lib.hid rfl, Lib.hid (fun _ => ⟨_, _, run_zero s one two⟩), HS, HBL, HCI4⟩
        case round =>
          clear HS HBL HCI4 p0 p1 p2
          obtain ⟨i, at_, S, hi, rfl, rfl, rfl, rfl, HKQ, HSS, HRUN, HSR, HBR, HCR⟩ := hrel
          obtain ⟨p0, p1, p2, _⟩ := blk3 HBR.out
          have g4 : decide ((i : Int) ≤ (n : Int)) = true := by simp; omega
          have g5 : (i : Int) ≤ (n : Int) := by omega
          have HI := Lib.hid hi
          have HSL : Hid (S.size = (catC (s.chunks.take i)).length) := Lib.hid (by rw [HSS.out, strOfNums_size])
          have s1 : IntKind.i64.wrap ((i : Int) + 1) = (i : Int) + 1 := IntWalk.i64_in _ (by have := HSZ.out; omega)
          by_cases h2000 : 2000 < S.size
          · have g6 : decide (2000 < (S.size : Int)) = true := by simp; omega
            have g7 : (2000 : Int) < (S.size : Int) := by omega
            go_wp2
            go_ret
            exact ⟨rfl, HSR.out.below⟩
          · have g6 : decide (2000 < (S.size : Int)) = false := by simp; omega
            have g7 : ¬ (2000 : Int) < (S.size : Int) := by omega
            have hlen : Hid ((catC (s.chunks.take i)).length ≤ 2000) := Lib.hid (by have := HSL.out; omega)
            obtain ⟨r1, hr1⟩ : ∃ r, r = decide (0 ≤ ix (catC (s.chunks.take i)) one) := ⟨_, rfl⟩
            obtain ⟨r2, hr2⟩ : ∃ r, r = decide (0 ≤ ix (catC (s.chunks.take i)) two) := ⟨_, rfl⟩
            have HH1 : Hid (Calls Try.prog 13 #[.string S, .string one] wr fun e w' => e = .returned (.bool r1) ∧ wr = w') := Lib.hid (by
              have := has_any S one (by omega) (by have := HSZ.out; omega) wr
              rw [HSS.out, has_ix, ← hr1, ← HSS.out] at this
              exact this)
            have HH2 : Hid (Calls Try.prog 13 #[.string S, .string two] wr fun e w' => e = .returned (.bool r2) ∧ wr = w') := Lib.hid (by
              have := has_any S two (by omega) (by have := HSZ.out; omega) wr
              rw [HSS.out, has_ix, ← hr2, ← HSS.out] at this
              exact this)
            have HR1 := Lib.hid hr1
            have HR2 := Lib.hid hr2
            clear hr1 hr2 h2000
            have HA1 : Hid (r1 = false → ¬ 0 ≤ ix (catC (s.chunks.take i)) one) := Lib.hid (fun h => by have := HR1.out; rw [h] at this; simpa using this.symm)
            have HA2 : Hid (r2 = false → ¬ 0 ≤ ix (catC (s.chunks.take i)) two) := Lib.hid (fun h => by have := HR2.out; rw [h] at this; simpa using this.symm)
            have HA3 : Hid (r1 = true → 0 ≤ ix (catC (s.chunks.take i)) one) := Lib.hid (fun h => by have := HR1.out; rw [h] at this; simpa using this.symm)
            have HA4 : Hid (r2 = true → 0 ≤ ix (catC (s.chunks.take i)) two) := Lib.hid (fun h => by have := HR2.out; rw [h] at this; simpa using this.symm)
            clear HR1 HR2
            cases r1
            · have HX1 := Lib.hid (HA1.out rfl)
              cases r2
              · have HX2 := Lib.hid (HA2.out rfl)
                clear HA1 HA2 HA3 HA4
                by_cases hie : i = n
                · have g8 : ((i : Int) == (n : Int)) = true := by simp [hie]
                  go_upto_region 23 with (first | (go_at_call 13; (first | ((with_reducible refine HH1.out.mono ?_); rintro e w' ⟨rfl, rfl⟩) | ((with_reducible refine HH2.out.mono ?_); rintro e w' ⟨rfl, rfl⟩))))
                  have hin : i = s.chunks.length := by rw [HSC.out, ← HNN.out]; exact hie
                  obtain ⟨d, came, hrun⟩ := HRUN.out hlen.out
                  have hlook : lookP (clF one two) (catC (s.chunks.take i)) 0 = none := by rw [look_F, if_neg (by have := HX1.out; omega), if_neg (by have := HX2.out; omega)]
                  rw [hin] at hrun hlook
                  obtain ⟨K, d', hK, hat, heq⟩ := run_over hrun hlook
                  rw [← hin] at heq
                  have HW := Lib.hid (HSR.out.wait UF BF (i + 1) (by show s.chunks.length < 0 + (i + 1); omega) heq)
                  dsimp only [List.length_nil] at HW
                  have hat2 : d'.at_ = n := by rw [hat, ← hin]; exact hie
                  have HAT := Lib.hid hat2
                  have HIN := Lib.hid hin
                  have HIE := Lib.hid hie
                  clear hrun hlook heq hat hat2 hin
                  go_wp2_with (first | (go_at_call 10; refine Hid.out ?_))
                  refine Lib.hid ?_
                  refine HW.out.mono ?_
                  rintro e w7 ⟨A7, c7, rfl, ho7, hs7, hz7, hk7⟩
                  obtain ⟨W7, hW7⟩ : ∃ W', W' = w7.alloc (.cells #[.int .i64 K, .int .i64 (-1), .slice A7 0 c7, .int .i64 0] 41) := ⟨_, rfl⟩
                  have hB7 : Below w7.heap.size w7 W7 := by rw [hW7]; exact (Below.refl _ _).alloc (Nat.le_refl _) _
                  have HS7 := Lib.hid (hs7.far hB7)
                  have HP7 : Hid (Blk W7 w7.heap.size 41 #[.int .i64 K, .int .i64 (-1), .slice A7 0 c7, .int .i64 0]) := Lib.hid (by rw [hW7]; exact Blk.new _ _ _)
                  clear ho7 hs7 hz7 hk7 hB7 p0 p1 p2
                  go_upto_region 24 with fail
                  rw [← hW7]
                  clear hW7
                  have HRE : Hid (Calls Try.prog 14 #[.pointer (some ⟨g, 0, none⟩)] W7 fun e w' => e = .returned (.int .i64 0) ∧ ∃ q, w' = W7.drewN q) := Lib.hid (by
                    have := HS7.out.rest
                    rw [HAT.out, HSC.out] at this
                    have e0 : ((l.length : Int) - (n : Int)) = 0 := by
                      have h1 := HIN.out; have h2 := HIE.out
                      rw [HSC.out] at h1
                      omega
                    rw [e0] at this
                    exact this)
                  obtain ⟨⟨y0, y1, y2, y3⟩, _⟩ := blk4 HP7.out
                  have tk1 : (K != 1) = true := by rcases hK with rfl | rfl | rfl <;> rfl
                  have tk2 : (K != 2) = true := by rcases hK with rfl | rfl | rfl <;> rfl
                  clear hK
                  go_wp2_with (first | (go_at_call 14; refine Hid.out ?_))
                  refine Lib.hid ?_
                  refine HRE.out.mono ?_
                  rintro e w8 ⟨rfl, q8, hq8⟩
                  have HS8 := Lib.hid (HS7.out.far (show Below W7.heap.size W7 w8 by rw [hq8]; exact below_drewN (Below.refl _ _) _))
                  clear hq8 y0 y1 y2 y3
                  go_wp2_with (first | (go_at_call 12; refine Hid.out ?_))
                  refine Lib.hid ?_
                  refine HS8.out.bytes.mono ?_
                  rintro e w9 ⟨A9, c9, rfl, hc9, hb9⟩
                  have HS9 := Lib.hid (HS8.out.far hb9)
                  rw [← HSS.out] at hc9
                  obtain ⟨n9, hn9⟩ : ∃ n, n = (catC (s.chunks.take i)).length := ⟨_, rfl⟩
                  rw [← hn9] at hc9 ⊢
                  clear hb9 hn9
                  go_wp2
                  go_ret
                  exact ⟨rfl, HS9.out.below⟩
                · have g8 : ((i : Int) == (n : Int)) = false := by simp; omega
                  have hlt' : i < l.length := by have := HNN.out; omega
                  obtain ⟨A', c', he, _, _, hA, hcell⟩ := HCR.out
                  injection he with i1 i2 i3
                  subst i1; subst i3
                  clear i2
                  obtain ⟨gc, oc, rfl, hgs⟩ := hA (fun e => by rw [e] at hlt'; simp at hlt')
                  obtain ⟨bv, c0, c1, c2, c3, c4⟩ := hcell gc oc rfl i hlt'
                  obtain ⟨⟨kw, x⟩, hkx⟩ : ∃ x, x = l[i] := ⟨_, rfl⟩
                  rw [← hkx] at c0 c2 c3 c4
                  simp only at c0 c2 c3 c4
                  obtain ⟨A4, c4', rfl, _, _, hr4⟩ := c2
                  obtain ⟨y, hy⟩ : ∃ y, y = strOfNums x := ⟨_, rfl⟩
                  have hcv : (convert 39 9 (.slice A4 x.length c4')).run Try.prog wr = .ok (.string y) wr := by
                    have hr' : ReadsInt wr .u8 A4 x.length (bI (strOfNums x)) := by rw [bI_str c3]; exact hr4
                    rw [hy]
                    exact conv_reads (w := wr) (A := A4) (n := x.length) (x := strOfNums x) c4' hr'
                  obtain ⟨n4, hn4⟩ : ∃ n, n = x.length := ⟨_, rfl⟩
                  rw [← hn4] at c1 hcv
                  have hysz : y.size = n4 := by rw [hy, strOfNums_size, hn4]
                  have g9 : decide (9223372036854775807 < S.size + y.size) = false := by simp; omega
                  have g9' : ¬ 9223372036854775807 < S.size + y.size := by omega
                  have HSN : Hid (S ++ y = strOfNums (catC (s.chunks.take (i + 1)))) := Lib.hid (by
                    have hc := catC_snoc (l := s.chunks) (i := i) (by rw [HSC.out]; exact hlt')
                    have hx : (s.chunks[i]'(by rw [HSC.out]; exact hlt')).2 = x := by simp only [HSC.out, ← hkx]
                    rw [hc, hx, str_app, HSS.out, hy])
                  have HRN : Hid ((catC (s.chunks.take (i + 1))).length ≤ 2000 → ∃ d came, RunF s one two (i + 1) d came) := Lib.hid (fun hb => by
                    obtain ⟨d, came, hrun⟩ := HRUN.out hlen.out
                    obtain ⟨d', h⟩ := run_next hrun (by rw [HSC.out]; exact hlt') (by have := HSZ.out; have := HNN.out; rw [HSC.out]; omega) (by rw [look_F, if_neg (by have := HX1.out; omega), if_neg (by have := HX2.out; omega)]) hb
                    exact ⟨d', true, h⟩)
                  have g10 : (0 : Int) ≤ (i : Int) := by omega
                  have g11 : (i : Int) < (n : Int) := by omega
                  clear hcell hA hkx hgs c0 c3 c4 hr4 hy hn4 hysz hlt'
                  go_wp2_with (first | (go_at_call 13; (first | ((with_reducible refine HH1.out.mono ?_); rintro e w' ⟨rfl, rfl⟩) | ((with_reducible refine HH2.out.mono ?_); rintro e w' ⟨rfl, rfl⟩))))
                  go_roundg (n + 2 - (i + 1))
                  case measure => have := HKQ.out; omega
                  case rel => exact ⟨i + 1, (i : Int), S ++ y, by omega, rfl, rfl, rfl, by simp, Lib.hid rfl, HSN, HRN, HSR, HBR, HCR⟩
              · have HX := Lib.hid (HA4.out rfl)
                clear HA1 HA2 HA3 HA4
                go_upto_region 23 with (first | (go_at_call 13; (first | ((with_reducible refine HH1.out.mono ?_); rintro e w' ⟨rfl, rfl⟩) | ((with_reducible refine HH2.out.mono ?_); rintro e w' ⟨rfl, rfl⟩))))
                obtain ⟨d, came, hrun⟩ := HRUN.out hlen.out
                have hlook : lookP (clF one two) (catC (s.chunks.take i)) 0 = some (1, ix (catC (s.chunks.take i)) two, ix (catC (s.chunks.take i)) two + (two.size : Int)) := by rw [look_F, if_neg (by have := HX1.out; omega), if_pos HX.out]
                have HW := Lib.hid (HSR.out.wait UF BF (s.chunks.length + 1) (by simp only; omega) (run_found hrun (by rw [HSC.out, ← HNN.out]; exact hi) hlook))
                have hat := hrun.at_
                obtain ⟨T, hT⟩ : ∃ T, T = ((catC (s.chunks.take i)).take (ix (catC (s.chunks.take i)) two + (two.size : Int)).toNat).drop (ix (catC (s.chunks.take i)) two).toNat := ⟨_, rfl⟩
                have hTX : strOfNums T = two := by rw [hT]; exact found_text HX.out
                dsimp only at HW
                rw [← hT] at HW
                obtain ⟨B', hB'⟩ : ∃ B', B' = (catC (s.chunks.take i)).drop (ix (catC (s.chunks.take i)) two + (two.size : Int)).toNat := ⟨_, rfl⟩
                rw [← hB'] at HW
                obtain ⟨n7, hn7⟩ : ∃ n, n = T.length := ⟨_, rfl⟩
                rw [← hn7] at HW
                have hTR : Hid (Rng T) := Lib.hid (by rw [hT]; exact ((HRC.out i).take _).drop _)
                have HT := Lib.hid hTX
                have HAT := Lib.hid hat
                have HN7 := Lib.hid hn7
                clear hrun hlook hT hTX hB' hat hn7
                go_wp2_with (first | (go_at_call 10; refine Hid.out ?_))
                refine Lib.hid ?_
                refine HW.out.mono ?_
                rintro e w7 ⟨A7, c7, rfl, ho7, hs7, hz7, hk7⟩
                obtain ⟨W7, hW7⟩ : ∃ W', W' = w7.alloc (.cells #[.int .i64 1, .int .i64 1, .slice A7 n7 c7, .int .i64 0] 41) := ⟨_, rfl⟩
                have hB7 : Below w7.heap.size w7 W7 := by rw [hW7]; exact (Below.refl _ _).alloc (Nat.le_refl _) _
                have HS7 := Lib.hid (hs7.far hB7)
                have HP7 : Hid (Blk W7 w7.heap.size 41 #[.int .i64 1, .int .i64 1, .slice A7 n7 c7, .int .i64 0]) := Lib.hid (by rw [hW7]; exact Blk.new _ _ _)
                have HQ7 : Hid (Blk W7 w.heap.size 36 #[.slice A n c, .int .i64 fin, .int .i64 wt]) := Lib.hid (have h := hk7 _ _ _ (by decide) (by decide) (by decide) HBR.out; h.below hB7 h.lt)
                have HCV : Hid (∀ W', Below W7.heap.size W7 W' → (convert 39 9 (.slice A7 n7 c7)).run Try.prog W' = .ok (.string two) W') := Lib.hid (fun W' hb => by
                  have hx : strOfNums T = two := HT.out
                  have hrg : Rng T := hTR.out
                  obtain ⟨A', c', he, _, _, hr⟩ := ((ho7.rd.below hB7).below hb)
                  have hn := HN7.out
                  subst hn
                  simp only [Value.slice.injEq, true_and] at he
                  obtain ⟨rfl, rfl⟩ := he
                  have hr' : ReadsInt W' .u8 A7 T.length (bI (strOfNums T)) := by rw [bI_str hrg]; exact hr
                  rw [← hx]
                  exact conv_reads (w := W') (A := A7) (n := T.length) (x := strOfNums T) c7 hr')
                have HALL : Hid (∀ W', Below W7.heap.size W7 W' → W'.cell? ⟨w7.heap.size, 0, none⟩ = some (.int .i64 1) ∧ W'.cell? ⟨w7.heap.size, 1, none⟩ = some (.int .i64 1) ∧ W'.cell? ⟨w7.heap.size, 2, none⟩ = some (.slice A7 n7 c7) ∧ W'.cell? ⟨w.heap.size, 0, none⟩ = some (.slice A n c) ∧ (convert 39 9 (.slice A7 n7 c7)).run Try.prog W' = .ok (.string two) W') := Lib.hid (fun W' hb => by
                  obtain ⟨⟨y0, y1, y2, _⟩, _⟩ := blk4 (HP7.out.below hb HP7.out.lt)
                  exact ⟨y0, y1, y2, (blk3 (HQ7.out.below hb HQ7.out.lt)).1, HCV.out W' hb⟩)
                have HRE : Hid (∀ q, Calls Try.prog 14 #[.pointer (some ⟨g, 0, none⟩)] (W7.drewN q) fun e w' => e = .returned (.int .i64 ((n : Int) - (i : Int))) ∧ ∃ q, w' = W7.drewN q) := Lib.hid (fun q => by
                  have := (HS7.out.far (show Below W7.heap.size W7 (W7.drewN q) from below_drewN (Below.refl _ _) _)).rest
                  rw [HAT.out, HSC.out, ← HNN.out] at this
                  refine this.mono ?_
                  rintro e w' ⟨h1, q2, h2⟩
                  exact ⟨h1, q + q2, by rw [h2, World.drewN_drewN]⟩)
                have s2 : IntKind.i64.wrap ((n : Int) - (i : Int)) = (n : Int) - (i : Int) := IntWalk.i64_in _ (by have := HSZ.out; have := HI.out; omega)
                clear ho7 hs7 hz7 hk7 hB7
                go_upto_region 26 with fail
                rw [← hW7]
                clear hW7 p0 p1 p2
                refine wp_region_noPanic ?_
                refine wp_region_held_drew (S := fun W' => W'.cell? ⟨w7.heap.size, 0, none⟩ = some (.int .i64 1) ∧ W'.cell? ⟨w7.heap.size, 1, none⟩ = some (.int .i64 1) ∧ W'.cell? ⟨w7.heap.size, 2, none⟩ = some (.slice A7 n7 c7) ∧ W'.cell? ⟨w.heap.size, 0, none⟩ = some (.slice A n c) ∧ (convert 39 9 (.slice A7 n7 c7)).run Try.prog W' = .ok (.string two) W') (by kernel_rfl) (HALL.out _ (Below.refl _ _).drew) (fun hHeld => ?_)
                refine wpAnyH_take (i := 0) (oi := _) (v := ?_) rfl (by kernel_rfl) (by kernel_rfl) (by kernel_rfl) (fun _ _ _ h => h) (Or.inl ⟨by rfl, ?_⟩) (by assumption) ?_
                rotate_left
                · (intro w hSw; (try dsimp only at hSw); go_simp; try (with_reducible rfl))
                try simp only [Act.put, List.setIfInBounds_toArray, List.set_cons_zero, List.set_cons_succ, List.getElem_toArray, List.getElem_cons_zero, List.getElem_cons_succ]
                refine wpAnyH_take (i := 1) (oi := _) (v := ?_) rfl (by kernel_rfl) (by kernel_rfl) (by kernel_rfl) (fun _ _ _ h => h) (Or.inl ⟨by rfl, ?_⟩) (by assumption) ?_
                rotate_left
                · (intro w hSw; (try dsimp only at hSw); go_simp; try (with_reducible rfl))
                try simp only [Act.put, List.setIfInBounds_toArray, List.set_cons_zero, List.set_cons_succ, List.getElem_toArray, List.getElem_cons_zero, List.getElem_cons_succ]
                refine wpAnyH_take (i := 2) (oi := _) (v := ?_) rfl (by kernel_rfl) (by kernel_rfl) (by kernel_rfl) (fun _ _ _ h => h) (Or.inl ⟨by rfl, ?_⟩) (by assumption) ?_
                rotate_left
                · (intro w hSw; (try dsimp only at hSw); go_simp; try (with_reducible rfl))
                try simp only [Act.put, List.setIfInBounds_toArray, List.set_cons_zero, List.set_cons_succ, List.getElem_toArray, List.getElem_cons_zero, List.getElem_cons_succ]
                refine wpAnyH_take (i := 3) (oi := _) (v := ?_) rfl (by kernel_rfl) (by kernel_rfl) (by kernel_rfl) (fun _ _ _ h => h) (Or.inl ⟨by rfl, ?_⟩) (by assumption) ?_
                rotate_left
                · (intro w hSw; (try dsimp only at hSw); go_simp; try (with_reducible rfl))
                try simp only [Act.put, List.setIfInBounds_toArray, List.set_cons_zero, List.set_cons_succ, List.getElem_toArray, List.getElem_cons_zero, List.getElem_cons_succ]
                refine wpAnyH_take (i := 4) (oi := _) (v := ?_) rfl (by kernel_rfl) (by kernel_rfl) (by kernel_rfl) (fun _ _ _ h => h) (Or.inl ⟨by rfl, ?_⟩) (by assumption) ?_
                rotate_left
                · (intro w hSw; (try dsimp only at hSw); go_simp; try (with_reducible rfl))
                try simp only [Act.put, List.setIfInBounds_toArray, List.set_cons_zero, List.set_cons_succ, List.getElem_toArray, List.getElem_cons_zero, List.getElem_cons_succ]
                refine wpAnyH_take (i := 5) (oi := _) (v := ?_) rfl (by kernel_rfl) (by kernel_rfl) (by kernel_rfl) (fun _ _ _ h => h) (Or.inl ⟨by rfl, ?_⟩) (by assumption) ?_
                rotate_left
                · (intro w hSw; (try dsimp only at hSw); go_simp; try (with_reducible rfl))
                try simp only [Act.put, List.setIfInBounds_toArray, List.set_cons_zero, List.set_cons_succ, List.getElem_toArray, List.getElem_cons_zero, List.getElem_cons_succ]
                refine wpAnyH_take (i := 6) (oi := _) (v := ?_) rfl (by kernel_rfl) (by kernel_rfl) (by kernel_rfl) (fun _ _ _ h => h) (Or.inl ⟨by rfl, ?_⟩) (by assumption) ?_
                rotate_left
                · (intro w hSw; (try dsimp only at hSw); go_simp; try (with_reducible rfl))
                try simp only [Act.put, List.setIfInBounds_toArray, List.set_cons_zero, List.set_cons_succ, List.getElem_toArray, List.getElem_cons_zero, List.getElem_cons_succ]
                refine wpAnyH_take (i := 7) (oi := _) (v := ?_) rfl (by kernel_rfl) (by kernel_rfl) (by kernel_rfl) (fun _ _ _ h => h) (Or.inl ⟨by rfl, ?_⟩) (by assumption) ?_
                rotate_left
                · (intro w hSw; (try dsimp only at hSw); go_simp; try (with_reducible rfl))
                try simp only [Act.put, List.setIfInBounds_toArray, List.set_cons_zero, List.set_cons_succ, List.getElem_toArray, List.getElem_cons_zero, List.getElem_cons_succ]
                refine wpAnyH_take (i := 8) (oi := _) (v := ?_) rfl (by kernel_rfl) (by kernel_rfl) (by kernel_rfl) (fun _ _ _ h => h) (Or.inl ⟨by rfl, ?_⟩) (by assumption) ?_
                rotate_left
                · (intro w hSw; (try dsimp only at hSw); go_simp; try (with_reducible rfl))
                try simp only [Act.put, List.setIfInBounds_toArray, List.set_cons_zero, List.set_cons_succ, List.getElem_toArray, List.getElem_cons_zero, List.getElem_cons_succ]
                refine wpAnyH_take (i := 9) (oi := _) (v := ?_) rfl (by kernel_rfl) (by kernel_rfl) (by kernel_rfl) (fun _ _ _ h => h) (Or.inl ⟨by rfl, ?_⟩) (by assumption) ?_
                rotate_left
                · (intro w hSw; (try dsimp only at hSw); go_simp; try (with_reducible rfl))
                try simp only [Act.put, List.setIfInBounds_toArray, List.set_cons_zero, List.set_cons_succ, List.getElem_toArray, List.getElem_cons_zero, List.getElem_cons_succ]
                refine wpAnyH_take (i := 10) (oi := _) (v := ?_) rfl (by kernel_rfl) (by kernel_rfl) (by kernel_rfl) (fun _ _ _ h => h) (Or.inl ⟨by rfl, ?_⟩) (by assumption) ?_
                rotate_left
                · (intro w hSw; (try dsimp only at hSw); go_simp; try (with_reducible rfl))
                try simp only [Act.put, List.setIfInBounds_toArray, List.set_cons_zero, List.set_cons_succ, List.getElem_toArray, List.getElem_cons_zero, List.getElem_cons_succ]
                refine wpAnyH_take (i := 12) (oi := _) (v := ?_) rfl (by kernel_rfl) (by kernel_rfl) (by kernel_rfl) (fun _ _ _ h => h) (Or.inl ⟨by rfl, ?_⟩) (by assumption) ?_
                rotate_left
                · (intro w hSw; (try dsimp only at hSw); go_simp; try (with_reducible rfl))
                try simp only [Act.put, List.setIfInBounds_toArray, List.set_cons_zero, List.set_cons_succ, List.getElem_toArray, List.getElem_cons_zero, List.getElem_cons_succ]
                refine wpAnyH_take (i := 13) (oi := _) (v := ?_) rfl (by kernel_rfl) (by kernel_rfl) (by kernel_rfl) (fun _ _ _ h => h) (Or.inl ⟨by rfl, ?_⟩) (by assumption) ?_
                rotate_left
                · (intro w hSw; (try dsimp only at hSw); go_simp; try (with_reducible rfl))
                try simp only [Act.put, List.setIfInBounds_toArray, List.set_cons_zero, List.set_cons_succ, List.getElem_toArray, List.getElem_cons_zero, List.getElem_cons_succ]
                refine wpAnyH_take (i := 14) (oi := _) (v := ?_) rfl (by kernel_rfl) (by kernel_rfl) (by kernel_rfl) (fun _ _ _ h => h) (Or.inl ⟨by rfl, ?_⟩) (by assumption) ?_
                rotate_left
                · (intro w hSw; (try dsimp only at hSw); go_simp; try (with_reducible rfl))
                try simp only [Act.put, List.setIfInBounds_toArray, List.set_cons_zero, List.set_cons_succ, List.getElem_toArray, List.getElem_cons_zero, List.getElem_cons_succ]
                refine wpAnyH_take (i := 15) (oi := _) (v := ?_) rfl (by kernel_rfl) (by kernel_rfl) (by kernel_rfl) (fun _ _ _ h => h) (Or.inl ⟨by rfl, ?_⟩) (by assumption) ?_
                rotate_left
                · (intro w hSw; (try dsimp only at hSw); go_simp; try (with_reducible rfl))
                try simp only [Act.put, List.setIfInBounds_toArray, List.set_cons_zero, List.set_cons_succ, List.getElem_toArray, List.getElem_cons_zero, List.getElem_cons_succ]
                refine wpAnyH_take (i := 16) (oi := _) (v := ?_) rfl (by kernel_rfl) (by kernel_rfl) (by kernel_rfl) (fun _ _ _ h => h) (Or.inl ⟨by rfl, ?_⟩) (by assumption) ?_
                rotate_left
                · (intro w hSw; (try dsimp only at hSw); go_simp; try (with_reducible rfl))
                try simp only [Act.put, List.setIfInBounds_toArray, List.set_cons_zero, List.set_cons_succ, List.getElem_toArray, List.getElem_cons_zero, List.getElem_cons_succ]
                refine wpAnyH_ready (rs := [11]) (by kernel_rfl) (by simp) ?_
                refine AllReadyH.cons (o := _) rfl (fun K hK => ?_) AllReadyH.nil
                try simp only [List.getElem_toArray, List.getElem_cons_zero, List.getElem_cons_succ]
                go_simp
                go_at_call 14
                refine (HRE.out 1).mono ?_
                rintro e w' ⟨rfl, q8, rfl⟩
                clear hHeld
                refine hK.out _ _ (HALL.out _ (below_drewN (Below.refl _ _) _)) (fun hHeld => ?_)
                clear hK K
                try simp only [Act.put, List.setIfInBounds_toArray, List.set_cons_zero, List.set_cons_succ, List.getElem_toArray, List.getElem_cons_zero, List.getElem_cons_succ]
                refine wpAnyH_take (i := 17) (oi := _) (v := ?_) rfl (by kernel_rfl) (by kernel_rfl) (by kernel_rfl) (fun _ _ _ h => h) (Or.inl ⟨by rfl, ?_⟩) (by assumption) ?_
                rotate_left
                · (intro w hSw; (try dsimp only at hSw); go_simp; try (with_reducible rfl))
                try simp only [Act.put, List.setIfInBounds_toArray, List.set_cons_zero, List.set_cons_succ, List.getElem_toArray, List.getElem_cons_zero, List.getElem_cons_succ]
                refine wpAnyH_take (i := 18) (oi := _) (v := ?_) rfl (by kernel_rfl) (by kernel_rfl) (by kernel_rfl) (fun _ _ _ h => h) (Or.inl ⟨by rfl, ?_⟩) (by assumption) ?_
                rotate_left
                · (intro w hSw; (try dsimp only at hSw); go_simp; try (with_reducible rfl))
                try simp only [Act.put, List.setIfInBounds_toArray, List.set_cons_zero, List.set_cons_succ, List.getElem_toArray, List.getElem_cons_zero, List.getElem_cons_succ]
                refine wpAnyH_take (i := 19) (oi := _) (v := ?_) rfl (by kernel_rfl) (by kernel_rfl) (by kernel_rfl) (fun _ _ _ h => h) (Or.inl ⟨by rfl, ?_⟩) (by assumption) ?_
                rotate_left
                · (intro w hSw; (try dsimp only at hSw); go_simp; try (with_reducible rfl))
                try simp only [Act.put, List.setIfInBounds_toArray, List.set_cons_zero, List.set_cons_succ, List.getElem_toArray, List.getElem_cons_zero, List.getElem_cons_succ]
                refine wpAnyH_take (i := 20) (oi := _) (v := ?_) rfl (by kernel_rfl) (by kernel_rfl) (by kernel_rfl) (fun _ _ _ h => h) (Or.inl ⟨by rfl, ?_⟩) (by assumption) ?_
                rotate_left
                · (intro w hSw; (try dsimp only at hSw); go_simp; try (with_reducible rfl))
                try simp only [Act.put, List.setIfInBounds_toArray, List.set_cons_zero, List.set_cons_succ, List.getElem_toArray, List.getElem_cons_zero, List.getElem_cons_succ]
                refine wpAnyH_take (i := 21) (oi := _) (v := ?_) rfl (by kernel_rfl) (by kernel_rfl) (by kernel_rfl) (fun _ _ _ h => h) (Or.inl ⟨by rfl, ?_⟩) (by assumption) ?_
                rotate_left
                · (intro w hSw; (try dsimp only at hSw); go_simp; try (with_reducible rfl))
                try simp only [Act.put, List.setIfInBounds_toArray, List.set_cons_zero, List.set_cons_succ, List.getElem_toArray, List.getElem_cons_zero, List.getElem_cons_succ]
                refine wpAnyH_take (i := 22) (oi := _) (v := ?_) rfl (by kernel_rfl) (by kernel_rfl) (by kernel_rfl) (fun _ _ _ h => h) (Or.inl ⟨by rfl, ?_⟩) (by assumption) ?_
                rotate_left
                · (intro w hSw; (try dsimp only at hSw); go_simp; try (with_reducible rfl))
                try simp only [Act.put, List.setIfInBounds_toArray, List.set_cons_zero, List.set_cons_succ, List.getElem_toArray, List.getElem_cons_zero, List.getElem_cons_succ]
                refine wpAnyH_take (i := 23) (oi := _) (v := ?_) rfl (by kernel_rfl) (by kernel_rfl) (by kernel_rfl) (fun _ _ _ h => h) (Or.inl ⟨by rfl, ?_⟩) (by assumption) ?_
                rotate_left
                · (intro w hSw; (try dsimp only at hSw); go_simp; try (with_reducible rfl))
                try simp only [Act.put, List.setIfInBounds_toArray, List.set_cons_zero, List.set_cons_succ, List.getElem_toArray, List.getElem_cons_zero, List.getElem_cons_succ]
                refine wpAnyH_take (i := 24) (oi := _) (v := ?_) rfl (by kernel_rfl) (by kernel_rfl) (by kernel_rfl) (fun _ _ _ h => h) (Or.inl ⟨by rfl, ?_⟩) (by assumption) ?_
                rotate_left
                · (intro w hSw; (try dsimp only at hSw); go_simp; try (with_reducible rfl))
                try simp only [Act.put, List.setIfInBounds_toArray, List.set_cons_zero, List.set_cons_succ, List.getElem_toArray, List.getElem_cons_zero, List.getElem_cons_succ]
                refine wpAnyH_take (i := 26) (oi := _) (v := ?_) rfl (by kernel_rfl) (by kernel_rfl) (by kernel_rfl) (fun _ _ _ h => h) (Or.inl ⟨by rfl, ?_⟩) (by assumption) ?_
                rotate_left
                · (intro w hSw; (try dsimp only at hSw); go_simp; try (with_reducible rfl))
                try simp only [Act.put, List.setIfInBounds_toArray, List.set_cons_zero, List.set_cons_succ, List.getElem_toArray, List.getElem_cons_zero, List.getElem_cons_succ]
                refine wpAnyH_ready (rs := [25]) (by kernel_rfl) (by simp) ?_
                refine AllReadyH.cons (o := _) rfl (fun K hK => ?_) AllReadyH.nil
                try simp only [List.getElem_toArray, List.getElem_cons_zero, List.getElem_cons_succ]
                go_simp
                clear hHeld
                refine hK.out _ _ (HALL.out _ ((below_drewN (Below.refl _ _) _).alloc (by simp) _)) (fun hHeld => ?_)
                clear hK K
                try simp only [Act.put, List.setIfInBounds_toArray, List.set_cons_zero, List.set_cons_succ, List.getElem_toArray, List.getElem_cons_zero, List.getElem_cons_succ]
                have hNew : (((W7.drewN q8).alloc (.cells #[.string one, .string two] 9)).cell? ⟨W7.heap.size, 1, none⟩ = some (.string two)) := (Blk.new (W7.drewN q8) 9 #[.string one, .string two]).cell 1
                refine wpAnyH_mono (S' := fun W' => W'.cell? ⟨W7.heap.size, 1, none⟩ = some (.string two) ∧ W'.cell? ⟨w7.heap.size, 0, none⟩ = some (.int .i64 1) ∧ W'.cell? ⟨w7.heap.size, 1, none⟩ = some (.int .i64 1) ∧ W'.cell? ⟨w7.heap.size, 2, none⟩ = some (.slice A7 n7 c7) ∧ W'.cell? ⟨w.heap.size, 0, none⟩ = some (.slice A n c) ∧ (convert 39 9 (.slice A7 n7 c7)).run Try.prog W' = .ok (.string two) W') (fun _ h => h.2) _ _ _ _ ?_
                have hHeld2 := And.intro hNew hHeld
                clear hNew hHeld
                refine wpAnyH_take (i := 27) (oi := _) (v := ?_) rfl (by kernel_rfl) (by kernel_rfl) (by kernel_rfl) (fun _ _ _ h => h) (Or.inl ⟨by rfl, ?_⟩) (by assumption) ?_
                rotate_left
                · (intro w hSw; (try dsimp only at hSw); go_simp; try (with_reducible rfl))
                try simp only [Act.put, List.setIfInBounds_toArray, List.set_cons_zero, List.set_cons_succ, List.getElem_toArray, List.getElem_cons_zero, List.getElem_cons_succ]
                refine wpAnyH_take (i := 28) (oi := _) (v := ?_) rfl (by kernel_rfl) (by kernel_rfl) (by kernel_rfl) (fun _ _ _ h => h) (Or.inl ⟨by rfl, ?_⟩) (by assumption) ?_
                rotate_left
                · (intro w hSw; (try dsimp only at hSw); go_simp; try (with_reducible rfl))
                try simp only [Act.put, List.setIfInBounds_toArray, List.set_cons_zero, List.set_cons_succ, List.getElem_toArray, List.getElem_cons_zero, List.getElem_cons_succ]
                refine wpAnyH_take (i := 29) (oi := _) (v := ?_) rfl (by kernel_rfl) (by kernel_rfl) (by kernel_rfl) (fun _ _ _ h => h) (Or.inl ⟨by rfl, ?_⟩) (by assumption) ?_
                rotate_left
                · (intro w hSw; (try dsimp only at hSw); go_simp; try (with_reducible rfl))
                try simp only [Act.put, List.setIfInBounds_toArray, List.set_cons_zero, List.set_cons_succ, List.getElem_toArray, List.getElem_cons_zero, List.getElem_cons_succ]
                refine wpAnyH_take (i := 30) (oi := _) (v := ?_) rfl (by kernel_rfl) (by kernel_rfl) (by kernel_rfl) (fun _ _ _ h => h) (Or.inl ⟨by rfl, ?_⟩) (by assumption) ?_
                rotate_left
                · (intro w hSw; (try dsimp only at hSw); go_simp; try (with_reducible rfl))
                try simp only [Act.put, List.setIfInBounds_toArray, List.set_cons_zero, List.set_cons_succ, List.getElem_toArray, List.getElem_cons_zero, List.getElem_cons_succ]
                refine wpAnyH_take (i := 31) (oi := _) (v := ?_) rfl (by kernel_rfl) (by kernel_rfl) (by kernel_rfl) (fun _ _ _ h => h) (Or.inl ⟨by rfl, ?_⟩) (by assumption) ?_
                rotate_left
                · (intro w hSw; (try dsimp only at hSw); go_simp; try (with_reducible rfl))
                try simp only [Act.put, List.setIfInBounds_toArray, List.set_cons_zero, List.set_cons_succ, List.getElem_toArray, List.getElem_cons_zero, List.getElem_cons_succ]
                refine wpAnyH_done (by kernel_rfl) ?_ _
                refine NoPanic.normal ?_
                go_wp2
                go_ret
                exact ⟨rfl, HS7.out.below.trans (((below_drewN (Below.refl _ _) _).alloc (by simp) _).mono HS7.out.below.size)⟩
            · have HX := Lib.hid (HA3.out rfl)
              clear HA1 HA2 HA3 HA4
              go_upto_region 23 with (first | (go_at_call 13; refine HH1.out.mono ?_; rintro e w' ⟨rfl, rfl⟩))
              obtain ⟨d, came, hrun⟩ := HRUN.out hlen.out
              have hlook : lookP (clF one two) (catC (s.chunks.take i)) 0 = some (0, ix (catC (s.chunks.take i)) one, ix (catC (s.chunks.take i)) one + (one.size : Int)) := by rw [look_F, if_pos HX.out]
              have HW := Lib.hid (HSR.out.wait UF BF (s.chunks.length + 1) (by simp only; omega) (run_found hrun (by rw [HSC.out, ← HNN.out]; exact hi) hlook))
              have hat := hrun.at_
              obtain ⟨T, hT⟩ : ∃ T, T = ((catC (s.chunks.take i)).take (ix (catC (s.chunks.take i)) one + (one.size : Int)).toNat).drop (ix (catC (s.chunks.take i)) one).toNat := ⟨_, rfl⟩
              have hTX : strOfNums T = one := by rw [hT]; exact found_text HX.out
              dsimp only at HW
              rw [← hT] at HW
              obtain ⟨B', hB'⟩ : ∃ B', B' = (catC (s.chunks.take i)).drop (ix (catC (s.chunks.take i)) one + (one.size : Int)).toNat := ⟨_, rfl⟩
              rw [← hB'] at HW
              obtain ⟨n7, hn7⟩ : ∃ n, n = T.length := ⟨_, rfl⟩
              rw [← hn7] at HW
              have hTR : Hid (Rng T) := Lib.hid (by rw [hT]; exact ((HRC.out i).take _).drop _)
              have HT := Lib.hid hTX
              have HAT := Lib.hid hat
              have HN7 := Lib.hid hn7
              clear hrun hlook hT hTX hB' hat hn7
              go_wp2_with (first | (go_at_call 10; refine Hid.out ?_))
              refine Lib.hid ?_
              refine HW.out.mono ?_
              rintro e w7 ⟨A7, c7, rfl, ho7, hs7, hz7, hk7⟩
              obtain ⟨W7, hW7⟩ : ∃ W', W' = w7.alloc (.cells #[.int .i64 1, .int .i64 0, .slice A7 n7 c7, .int .i64 0] 41) := ⟨_, rfl⟩
              have hB7 : Below w7.heap.size w7 W7 := by rw [hW7]; exact (Below.refl _ _).alloc (Nat.le_refl _) _
              have HS7 := Lib.hid (hs7.far hB7)
              have HP7 : Hid (Blk W7 w7.heap.size 41 #[.int .i64 1, .int .i64 0, .slice A7 n7 c7, .int .i64 0]) := Lib.hid (by rw [hW7]; exact Blk.new _ _ _)
              have HQ7 : Hid (Blk W7 w.heap.size 36 #[.slice A n c, .int .i64 fin, .int .i64 wt]) := Lib.hid (have h := hk7 _ _ _ (by decide) (by decide) (by decide) HBR.out; h.below hB7 h.lt)
              have HCV : Hid (∀ W', Below W7.heap.size W7 W' → (convert 39 9 (.slice A7 n7 c7)).run Try.prog W' = .ok (.string one) W') := Lib.hid (fun W' hb => by
                have hx : strOfNums T = one := HT.out
                have hrg : Rng T := hTR.out
                obtain ⟨A', c', he, _, _, hr⟩ := ((ho7.rd.below hB7).below hb)
                have hn := HN7.out
                subst hn
                simp only [Value.slice.injEq, true_and] at he
                obtain ⟨rfl, rfl⟩ := he
                have hr' : ReadsInt W' .u8 A7 T.length (bI (strOfNums T)) := by rw [bI_str hrg]; exact hr
                rw [← hx]
                exact conv_reads (w := W') (A := A7) (n := T.length) (x := strOfNums T) c7 hr')
              have HALL : Hid (∀ W', Below W7.heap.size W7 W' → W'.cell? ⟨w7.heap.size, 0, none⟩ = some (.int .i64 1) ∧ W'.cell? ⟨w7.heap.size, 1, none⟩ = some (.int .i64 0) ∧ W'.cell? ⟨w7.heap.size, 2, none⟩ = some (.slice A7 n7 c7) ∧ W'.cell? ⟨w.heap.size, 0, none⟩ = some (.slice A n c) ∧ (convert 39 9 (.slice A7 n7 c7)).run Try.prog W' = .ok (.string one) W') := Lib.hid (fun W' hb => by
                obtain ⟨⟨y0, y1, y2, _⟩, _⟩ := blk4 (HP7.out.below hb HP7.out.lt)
                exact ⟨y0, y1, y2, (blk3 (HQ7.out.below hb HQ7.out.lt)).1, HCV.out W' hb⟩)
              have HRE : Hid (∀ q, Calls Try.prog 14 #[.pointer (some ⟨g, 0, none⟩)] (W7.drewN q) fun e w' => e = .returned (.int .i64 ((n : Int) - (i : Int))) ∧ ∃ q, w' = W7.drewN q) := Lib.hid (fun q => by
                have := (HS7.out.far (show Below W7.heap.size W7 (W7.drewN q) from below_drewN (Below.refl _ _) _)).rest
                rw [HAT.out, HSC.out, ← HNN.out] at this
                refine this.mono ?_
                rintro e w' ⟨h1, q2, h2⟩
                exact ⟨h1, q + q2, by rw [h2, World.drewN_drewN]⟩)
              have s2 : IntKind.i64.wrap ((n : Int) - (i : Int)) = (n : Int) - (i : Int) := IntWalk.i64_in _ (by have := HSZ.out; have := HI.out; omega)
              clear ho7 hs7 hz7 hk7 hB7
              go_upto_region 26 with fail
              rw [← hW7]
              clear hW7 p0 p1 p2
              refine wp_region_noPanic ?_
              refine wp_region_held_drew (S := fun W' => W'.cell? ⟨w7.heap.size, 0, none⟩ = some (.int .i64 1) ∧ W'.cell? ⟨w7.heap.size, 1, none⟩ = some (.int .i64 0) ∧ W'.cell? ⟨w7.heap.size, 2, none⟩ = some (.slice A7 n7 c7) ∧ W'.cell? ⟨w.heap.size, 0, none⟩ = some (.slice A n c) ∧ (convert 39 9 (.slice A7 n7 c7)).run Try.prog W' = .ok (.string one) W') (by kernel_rfl) (HALL.out _ (Below.refl _ _).drew) (fun hHeld => ?_)
              refine wpAnyH_take (i := 0) (oi := _) (v := ?_) rfl (by kernel_rfl) (by kernel_rfl) (by kernel_rfl) (fun _ _ _ h => h) (Or.inl ⟨by rfl, ?_⟩) (by assumption) ?_
              rotate_left
              · (intro w hSw; (try dsimp only at hSw); go_simp; try (with_reducible rfl))
              try simp only [Act.put, List.setIfInBounds_toArray, List.set_cons_zero, List.set_cons_succ, List.getElem_toArray, List.getElem_cons_zero, List.getElem_cons_succ]
              refine wpAnyH_take (i := 1) (oi := _) (v := ?_) rfl (by kernel_rfl) (by kernel_rfl) (by kernel_rfl) (fun _ _ _ h => h) (Or.inl ⟨by rfl, ?_⟩) (by assumption) ?_
              rotate_left
              · (intro w hSw; (try dsimp only at hSw); go_simp; try (with_reducible rfl))
              try simp only [Act.put, List.setIfInBounds_toArray, List.set_cons_zero, List.set_cons_succ, List.getElem_toArray, List.getElem_cons_zero, List.getElem_cons_succ]
              refine wpAnyH_take (i := 2) (oi := _) (v := ?_) rfl (by kernel_rfl) (by kernel_rfl) (by kernel_rfl) (fun _ _ _ h => h) (Or.inl ⟨by rfl, ?_⟩) (by assumption) ?_
              rotate_left
              · (intro w hSw; (try dsimp only at hSw); go_simp; try (with_reducible rfl))
              try simp only [Act.put, List.setIfInBounds_toArray, List.set_cons_zero, List.set_cons_succ, List.getElem_toArray, List.getElem_cons_zero, List.getElem_cons_succ]
              refine wpAnyH_take (i := 3) (oi := _) (v := ?_) rfl (by kernel_rfl) (by kernel_rfl) (by kernel_rfl) (fun _ _ _ h => h) (Or.inl ⟨by rfl, ?_⟩) (by assumption) ?_
              rotate_left
              · (intro w hSw; (try dsimp only at hSw); go_simp; try (with_reducible rfl))
              try simp only [Act.put, List.setIfInBounds_toArray, List.set_cons_zero, List.set_cons_succ, List.getElem_toArray, List.getElem_cons_zero, List.getElem_cons_succ]
              refine wpAnyH_take (i := 4) (oi := _) (v := ?_) rfl (by kernel_rfl) (by kernel_rfl) (by kernel_rfl) (fun _ _ _ h => h) (Or.inl ⟨by rfl, ?_⟩) (by assumption) ?_
              rotate_left
              · (intro w hSw; (try dsimp only at hSw); go_simp; try (with_reducible rfl))
              try simp only [Act.put, List.setIfInBounds_toArray, List.set_cons_zero, List.set_cons_succ, List.getElem_toArray, List.getElem_cons_zero, List.getElem_cons_succ]
              refine wpAnyH_take (i := 5) (oi := _) (v := ?_) rfl (by kernel_rfl) (by kernel_rfl) (by kernel_rfl) (fun _ _ _ h => h) (Or.inl ⟨by rfl, ?_⟩) (by assumption) ?_
              rotate_left
              · (intro w hSw; (try dsimp only at hSw); go_simp; try (with_reducible rfl))
              try simp only [Act.put, List.setIfInBounds_toArray, List.set_cons_zero, List.set_cons_succ, List.getElem_toArray, List.getElem_cons_zero, List.getElem_cons_succ]
              refine wpAnyH_take (i := 6) (oi := _) (v := ?_) rfl (by kernel_rfl) (by kernel_rfl) (by kernel_rfl) (fun _ _ _ h => h) (Or.inl ⟨by rfl, ?_⟩) (by assumption) ?_
              rotate_left
              · (intro w hSw; (try dsimp only at hSw); go_simp; try (with_reducible rfl))
              try simp only [Act.put, List.setIfInBounds_toArray, List.set_cons_zero, List.set_cons_succ, List.getElem_toArray, List.getElem_cons_zero, List.getElem_cons_succ]
              refine wpAnyH_take (i := 7) (oi := _) (v := ?_) rfl (by kernel_rfl) (by kernel_rfl) (by kernel_rfl) (fun _ _ _ h => h) (Or.inl ⟨by rfl, ?_⟩) (by assumption) ?_
              rotate_left
              · (intro w hSw; (try dsimp only at hSw); go_simp; try (with_reducible rfl))
              try simp only [Act.put, List.setIfInBounds_toArray, List.set_cons_zero, List.set_cons_succ, List.getElem_toArray, List.getElem_cons_zero, List.getElem_cons_succ]
              refine wpAnyH_take (i := 8) (oi := _) (v := ?_) rfl (by kernel_rfl) (by kernel_rfl) (by kernel_rfl) (fun _ _ _ h => h) (Or.inl ⟨by rfl, ?_⟩) (by assumption) ?_
              rotate_left
              · (intro w hSw; (try dsimp only at hSw); go_simp; try (with_reducible rfl))
              try simp only [Act.put, List.setIfInBounds_toArray, List.set_cons_zero, List.set_cons_succ, List.getElem_toArray, List.getElem_cons_zero, List.getElem_cons_succ]
              refine wpAnyH_take (i := 9) (oi := _) (v := ?_) rfl (by kernel_rfl) (by kernel_rfl) (by kernel_rfl) (fun _ _ _ h => h) (Or.inl ⟨by rfl, ?_⟩) (by assumption) ?_
              rotate_left
              · (intro w hSw; (try dsimp only at hSw); go_simp; try (with_reducible rfl))
              try simp only [Act.put, List.setIfInBounds_toArray, List.set_cons_zero, List.set_cons_succ, List.getElem_toArray, List.getElem_cons_zero, List.getElem_cons_succ]
              refine wpAnyH_take (i := 10) (oi := _) (v := ?_) rfl (by kernel_rfl) (by kernel_rfl) (by kernel_rfl) (fun _ _ _ h => h) (Or.inl ⟨by rfl, ?_⟩) (by assumption) ?_
              rotate_left
              · (intro w hSw; (try dsimp only at hSw); go_simp; try (with_reducible rfl))
              try simp only [Act.put, List.setIfInBounds_toArray, List.set_cons_zero, List.set_cons_succ, List.getElem_toArray, List.getElem_cons_zero, List.getElem_cons_succ]
              refine wpAnyH_take (i := 12) (oi := _) (v := ?_) rfl (by kernel_rfl) (by kernel_rfl) (by kernel_rfl) (fun _ _ _ h => h) (Or.inl ⟨by rfl, ?_⟩) (by assumption) ?_
              rotate_left
              · (intro w hSw; (try dsimp only at hSw); go_simp; try (with_reducible rfl))
              try simp only [Act.put, List.setIfInBounds_toArray, List.set_cons_zero, List.set_cons_succ, List.getElem_toArray, List.getElem_cons_zero, List.getElem_cons_succ]
              refine wpAnyH_take (i := 13) (oi := _) (v := ?_) rfl (by kernel_rfl) (by kernel_rfl) (by kernel_rfl) (fun _ _ _ h => h) (Or.inl ⟨by rfl, ?_⟩) (by assumption) ?_
              rotate_left
              · (intro w hSw; (try dsimp only at hSw); go_simp; try (with_reducible rfl))
              try simp only [Act.put, List.setIfInBounds_toArray, List.set_cons_zero, List.set_cons_succ, List.getElem_toArray, List.getElem_cons_zero, List.getElem_cons_succ]
              refine wpAnyH_take (i := 14) (oi := _) (v := ?_) rfl (by kernel_rfl) (by kernel_rfl) (by kernel_rfl) (fun _ _ _ h => h) (Or.inl ⟨by rfl, ?_⟩) (by assumption) ?_
              rotate_left
              · (intro w hSw; (try dsimp only at hSw); go_simp; try (with_reducible rfl))
              try simp only [Act.put, List.setIfInBounds_toArray, List.set_cons_zero, List.set_cons_succ, List.getElem_toArray, List.getElem_cons_zero, List.getElem_cons_succ]
              refine wpAnyH_take (i := 15) (oi := _) (v := ?_) rfl (by kernel_rfl) (by kernel_rfl) (by kernel_rfl) (fun _ _ _ h => h) (Or.inl ⟨by rfl, ?_⟩) (by assumption) ?_
              rotate_left
              · (intro w hSw; (try dsimp only at hSw); go_simp; try (with_reducible rfl))
              try simp only [Act.put, List.setIfInBounds_toArray, List.set_cons_zero, List.set_cons_succ, List.getElem_toArray, List.getElem_cons_zero, List.getElem_cons_succ]
              refine wpAnyH_take (i := 16) (oi := _) (v := ?_) rfl (by kernel_rfl) (by kernel_rfl) (by kernel_rfl) (fun _ _ _ h => h) (Or.inl ⟨by rfl, ?_⟩) (by assumption) ?_
              rotate_left
              · (intro w hSw; (try dsimp only at hSw); go_simp; try (with_reducible rfl))
              try simp only [Act.put, List.setIfInBounds_toArray, List.set_cons_zero, List.set_cons_succ, List.getElem_toArray, List.getElem_cons_zero, List.getElem_cons_succ]
              refine wpAnyH_ready (rs := [11]) (by kernel_rfl) (by simp) ?_
              refine AllReadyH.cons (o := _) rfl (fun K hK => ?_) AllReadyH.nil
              try simp only [List.getElem_toArray, List.getElem_cons_zero, List.getElem_cons_succ]
              go_simp
              go_at_call 14
              refine (HRE.out 1).mono ?_
              rintro e w' ⟨rfl, q8, rfl⟩
              clear hHeld
              refine hK.out _ _ (HALL.out _ (below_drewN (Below.refl _ _) _)) (fun hHeld => ?_)
              clear hK K
              try simp only [Act.put, List.setIfInBounds_toArray, List.set_cons_zero, List.set_cons_succ, List.getElem_toArray, List.getElem_cons_zero, List.getElem_cons_succ]
              refine wpAnyH_take (i := 17) (oi := _) (v := ?_) rfl (by kernel_rfl) (by kernel_rfl) (by kernel_rfl) (fun _ _ _ h => h) (Or.inl ⟨by rfl, ?_⟩) (by assumption) ?_
              rotate_left
              · (intro w hSw; (try dsimp only at hSw); go_simp; try (with_reducible rfl))
              try simp only [Act.put, List.setIfInBounds_toArray, List.set_cons_zero, List.set_cons_succ, List.getElem_toArray, List.getElem_cons_zero, List.getElem_cons_succ]
              refine wpAnyH_take (i := 18) (oi := _) (v := ?_) rfl (by kernel_rfl) (by kernel_rfl) (by kernel_rfl) (fun _ _ _ h => h) (Or.inl ⟨by rfl, ?_⟩) (by assumption) ?_
              rotate_left
              · (intro w hSw; (try dsimp only at hSw); go_simp; try (with_reducible rfl))
              try simp only [Act.put, List.setIfInBounds_toArray, List.set_cons_zero, List.set_cons_succ, List.getElem_toArray, List.getElem_cons_zero, List.getElem_cons_succ]
              refine wpAnyH_take (i := 19) (oi := _) (v := ?_) rfl (by kernel_rfl) (by kernel_rfl) (by kernel_rfl) (fun _ _ _ h => h) (Or.inl ⟨by rfl, ?_⟩) (by assumption) ?_
              rotate_left
              · (intro w hSw; (try dsimp only at hSw); go_simp; try (with_reducible rfl))
              try simp only [Act.put, List.setIfInBounds_toArray, List.set_cons_zero, List.set_cons_succ, List.getElem_toArray, List.getElem_cons_zero, List.getElem_cons_succ]
              refine wpAnyH_take (i := 20) (oi := _) (v := ?_) rfl (by kernel_rfl) (by kernel_rfl) (by kernel_rfl) (fun _ _ _ h => h) (Or.inl ⟨by rfl, ?_⟩) (by assumption) ?_
              rotate_left
              · (intro w hSw; (try dsimp only at hSw); go_simp; try (with_reducible rfl))
              try simp only [Act.put, List.setIfInBounds_toArray, List.set_cons_zero, List.set_cons_succ, List.getElem_toArray, List.getElem_cons_zero, List.getElem_cons_succ]
              refine wpAnyH_take (i := 21) (oi := _) (v := ?_) rfl (by kernel_rfl) (by kernel_rfl) (by kernel_rfl) (fun _ _ _ h => h) (Or.inl ⟨by rfl, ?_⟩) (by assumption) ?_
              rotate_left
              · (intro w hSw; (try dsimp only at hSw); go_simp; try (with_reducible rfl))
              try simp only [Act.put, List.setIfInBounds_toArray, List.set_cons_zero, List.set_cons_succ, List.getElem_toArray, List.getElem_cons_zero, List.getElem_cons_succ]
              refine wpAnyH_take (i := 22) (oi := _) (v := ?_) rfl (by kernel_rfl) (by kernel_rfl) (by kernel_rfl) (fun _ _ _ h => h) (Or.inl ⟨by rfl, ?_⟩) (by assumption) ?_
              rotate_left
              · (intro w hSw; (try dsimp only at hSw); go_simp; try (with_reducible rfl))
              try simp only [Act.put, List.setIfInBounds_toArray, List.set_cons_zero, List.set_cons_succ, List.getElem_toArray, List.getElem_cons_zero, List.getElem_cons_succ]
              refine wpAnyH_take (i := 23) (oi := _) (v := ?_) rfl (by kernel_rfl) (by kernel_rfl) (by kernel_rfl) (fun _ _ _ h => h) (Or.inl ⟨by rfl, ?_⟩) (by assumption) ?_
              rotate_left
              · (intro w hSw; (try dsimp only at hSw); go_simp; try (with_reducible rfl))
              try simp only [Act.put, List.setIfInBounds_toArray, List.set_cons_zero, List.set_cons_succ, List.getElem_toArray, List.getElem_cons_zero, List.getElem_cons_succ]
              refine wpAnyH_take (i := 24) (oi := _) (v := ?_) rfl (by kernel_rfl) (by kernel_rfl) (by kernel_rfl) (fun _ _ _ h => h) (Or.inl ⟨by rfl, ?_⟩) (by assumption) ?_
              rotate_left
              · (intro w hSw; (try dsimp only at hSw); go_simp; try (with_reducible rfl))
              try simp only [Act.put, List.setIfInBounds_toArray, List.set_cons_zero, List.set_cons_succ, List.getElem_toArray, List.getElem_cons_zero, List.getElem_cons_succ]
              refine wpAnyH_take (i := 26) (oi := _) (v := ?_) rfl (by kernel_rfl) (by kernel_rfl) (by kernel_rfl) (fun _ _ _ h => h) (Or.inl ⟨by rfl, ?_⟩) (by assumption) ?_
              rotate_left
              · (intro w hSw; (try dsimp only at hSw); go_simp; try (with_reducible rfl))
              try simp only [Act.put, List.setIfInBounds_toArray, List.set_cons_zero, List.set_cons_succ, List.getElem_toArray, List.getElem_cons_zero, List.getElem_cons_succ]
              refine wpAnyH_ready (rs := [25]) (by kernel_rfl) (by simp) ?_
              refine AllReadyH.cons (o := _) rfl (fun K hK => ?_) AllReadyH.nil
              try simp only [List.getElem_toArray, List.getElem_cons_zero, List.getElem_cons_succ]
              go_simp
              clear hHeld
              refine hK.out _ _ (HALL.out _ ((below_drewN (Below.refl _ _) _).alloc (by simp) _)) (fun hHeld => ?_)
              clear hK K
              try simp only [Act.put, List.setIfInBounds_toArray, List.set_cons_zero, List.set_cons_succ, List.getElem_toArray, List.getElem_cons_zero, List.getElem_cons_succ]
              have hNew : (((W7.drewN q8).alloc (.cells #[.string one, .string two] 9)).cell? ⟨W7.heap.size, 0, none⟩ = some (.string one)) := (Blk.new (W7.drewN q8) 9 #[.string one, .string two]).cell 0
              refine wpAnyH_mono (S' := fun W' => W'.cell? ⟨W7.heap.size, 0, none⟩ = some (.string one) ∧ W'.cell? ⟨w7.heap.size, 0, none⟩ = some (.int .i64 1) ∧ W'.cell? ⟨w7.heap.size, 1, none⟩ = some (.int .i64 0) ∧ W'.cell? ⟨w7.heap.size, 2, none⟩ = some (.slice A7 n7 c7) ∧ W'.cell? ⟨w.heap.size, 0, none⟩ = some (.slice A n c) ∧ (convert 39 9 (.slice A7 n7 c7)).run Try.prog W' = .ok (.string one) W') (fun _ h => h.2) _ _ _ _ ?_
              have hHeld2 := And.intro hNew hHeld
              clear hNew hHeld
              refine wpAnyH_take (i := 27) (oi := _) (v := ?_) rfl (by kernel_rfl) (by kernel_rfl) (by kernel_rfl) (fun _ _ _ h => h) (Or.inl ⟨by rfl, ?_⟩) (by assumption) ?_
              rotate_left
              · (intro w hSw; (try dsimp only at hSw); go_simp; try (with_reducible rfl))
              try simp only [Act.put, List.setIfInBounds_toArray, List.set_cons_zero, List.set_cons_succ, List.getElem_toArray, List.getElem_cons_zero, List.getElem_cons_succ]
              refine wpAnyH_take (i := 28) (oi := _) (v := ?_) rfl (by kernel_rfl) (by kernel_rfl) (by kernel_rfl) (fun _ _ _ h => h) (Or.inl ⟨by rfl, ?_⟩) (by assumption) ?_
              rotate_left
              · (intro w hSw; (try dsimp only at hSw); go_simp; try (with_reducible rfl))
              try simp only [Act.put, List.setIfInBounds_toArray, List.set_cons_zero, List.set_cons_succ, List.getElem_toArray, List.getElem_cons_zero, List.getElem_cons_succ]
              refine wpAnyH_take (i := 29) (oi := _) (v := ?_) rfl (by kernel_rfl) (by kernel_rfl) (by kernel_rfl) (fun _ _ _ h => h) (Or.inl ⟨by rfl, ?_⟩) (by assumption) ?_
              rotate_left
              · (intro w hSw; (try dsimp only at hSw); go_simp; try (with_reducible rfl))
              try simp only [Act.put, List.setIfInBounds_toArray, List.set_cons_zero, List.set_cons_succ, List.getElem_toArray, List.getElem_cons_zero, List.getElem_cons_succ]
              refine wpAnyH_take (i := 30) (oi := _) (v := ?_) rfl (by kernel_rfl) (by kernel_rfl) (by kernel_rfl) (fun _ _ _ h => h) (Or.inl ⟨by rfl, ?_⟩) (by assumption) ?_
              rotate_left
              · (intro w hSw; (try dsimp only at hSw); go_simp; try (with_reducible rfl))
              try simp only [Act.put, List.setIfInBounds_toArray, List.set_cons_zero, List.set_cons_succ, List.getElem_toArray, List.getElem_cons_zero, List.getElem_cons_succ]
              refine wpAnyH_take (i := 31) (oi := _) (v := ?_) rfl (by kernel_rfl) (by kernel_rfl) (by kernel_rfl) (fun _ _ _ h => h) (Or.inl ⟨by rfl, ?_⟩) (by assumption) ?_
              rotate_left
              · (intro w hSw; (try dsimp only at hSw); go_simp; try (with_reducible rfl))
              try simp only [Act.put, List.setIfInBounds_toArray, List.set_cons_zero, List.set_cons_succ, List.getElem_toArray, List.getElem_cons_zero, List.getElem_cons_succ]
              refine wpAnyH_done (by kernel_rfl) ?_ _
              refine NoPanic.normal ?_
              go_wp2
              go_ret
              exact ⟨rfl, HS7.out.below.trans (((below_drewN (Below.refl _ _) _).alloc (by simp) _).mono HS7.out.below.size)⟩
theorem first_row (one two : ByteArray) (l : List (Int × List Int)) (A : Option Addr) (c : Nat) (fin wt : Int) (W : World) (m : Int) (hm : W.cell? ⟨0, 0, none⟩ = some (.int .i64 m)) (h1 : one.size ≤ maxLen) (h2 : two.size ≤ maxLen) (hmx : l.length ≤ 9223372036854775807) (hch : l.length ≤ 1000 → ChIn W (.slice A l.length c) l) : Calls Try.prog 5 #[.string one, .string two, .agg #[.slice A l.length c, .int .i64 fin, .int .i64 wt]] W fun e w' => e = .returned (.bool true) ∧ Below W.heap.size W w' := first_walk one two l A c fin wt h1 h2 hmx hch hm
end Go.Proofs.Ytjnfomgehfmllaa.Tk
