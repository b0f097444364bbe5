/- The walk of NfaSteps. -/
import Derived.Test.YtmhodkkfbbpgaaaAlv
import Derived.Test.YtmhodkkfbbpgaaaFac
namespace Go.Proofs.Ytmhodkkfbbpgaaa.Nm
set_option linter.unusedVariables false
set_option linter.unusedSimpArgs false
open Go.RowKit Mem Re Tree Fac Go.Proofs.Ytmhodkkfbbpgaaa.PNfa Go.Proofs.YtmhodkkfbbpgaaaW.PrintWords Go.Proofs.YtmhodkkfbbpgaaaW.PrintLast Go.Proofs.YtmhodkkfbbpgaaaW.PrintMore

theorem mac_len (x : Nd) : (mac (re x)).length ≤ 2 * sz x := by
  have := bld_len x 0 [⟨none, -1, -1⟩]
  simp only [List.length_cons, List.length_nil] at this
  unfold mac
  omega

/-- The first Longest is what Find finds. -/
theorem find_first {s : ByteArray} {r : Re} {f t : Int} {ok : Bool} (h : FindP s r f t ok) {i j : Nat} (hi : i ≤ s.size) (hno : ∀ a, a < i → ∀ j, ¬ mt (bS s) s.size r a j) (hm : mt (bS s) s.size r i j) (hmax : ∀ j', mt (bS s) s.size r i j' → j' ≤ j) : ok = true ∧ f = i ∧ t = j := by
  obtain ⟨⟨h1, h2⟩, _⟩ := h
  have hjl := (mt_le s r hm hi).2
  cases ok with
  | false => exact (h1 rfl i j ⟨Nat.zero_le _, fun c => by cases c⟩ (by omega) hm).elim
  | true =>
    obtain ⟨f', t', rfl, rfl, _, ht, hft, hbest⟩ := h2 rfl
    have hb := hbest i j ⟨Nat.zero_le _, fun c => by cases c⟩ (by omega) hm
    have hf : f' = i := by
      rcases hb with c | ⟨c, _⟩
      · exact (hno f' c t' hft).elim
      · exact c
    subst hf
    have := hmax t' hft
    refine ⟨rfl, rfl, ?_⟩
    omega

theorem find_none {s : ByteArray} {r : Re} {f t : Int} {ok : Bool} (h : FindP s r f t ok) (hno : ∀ a, a < s.size + 1 → ∀ j, ¬ mt (bS s) s.size r a j) : ok = false ∧ f = 0 ∧ t = 0 := by
  obtain ⟨⟨h1, h2⟩, h3⟩ := h
  cases ok with
  | false => exact ⟨rfl, h3 rfl⟩
  | true =>
    obtain ⟨f', t', rfl, rfl, _, ht, hft, hbest⟩ := h2 rfl
    have := ((reach_mt r f' t').2 hft).le
    exact (hno f' (by omega) t' hft).elim

theorem longP_cases {s : ByteArray} {r : Re} {i : Nat} {v : Int} (hi : i ≤ s.size) (h : LongP s r (i : Int) v) : (v = -1 → ∀ j, ¬ mt (bS s) s.size r i j) ∧ (v ≠ -1 → ∃ j : Nat, v = j ∧ mt (bS s) s.size r i j ∧ ∀ j', mt (bS s) s.size r i j' → j' ≤ j) := by
  have h1 := h.1 ⟨by omega, by omega⟩
  rw [Int.toNat_natCast] at h1
  rcases h1 with ⟨e, h2⟩ | ⟨j, e, _, h2, h3⟩
  · exact ⟨fun _ => h2, fun c => (c e).elim⟩
  · exact ⟨fun c => by omega, fun _ => ⟨j, e, h2, h3⟩⟩

theorem compile_wrong (w : World) (x : Nd) (cs : List Value) (h : k25.K w x cs) (hl : lenT x) (hok : okT x) (hs : sz x ≤ 1000) (hd : dp x ≤ 300) (hr : ¬ rightT x) :
    Calls Try.prog 12 #[.agg cs.toArray] w fun e w' => e = .returned (.tuple #[.pointer none, .int .i64 1]) ∧ Below w.heap.size w w' := by
  refine (compile_nv w x cs h hl hok hs hd).mono ?_
  rintro e w' ⟨hb, ⟨hrt, _⟩ | ⟨_, he⟩⟩
  · exact (hr hrt).elim
  · exact ⟨he, hb⟩

theorem step_le {stp : Int} {m n z : Nat} (h : stp ≤ ((m * n : Nat) : Int)) (hm : m ≤ 2 * z) (hz : z ≤ 400) : stp ≤ 2000 * (n : Int) := by
  have h1 : m * n ≤ 2000 * n := Nat.mul_le_mul_right _ (by omega)
  omega

set_option maxHeartbeats 4000000 in
set_option maxRecDepth 100000 in
theorem steps_walk (x : Nd) (s : ByteArray) (a : Int) (W : World) (cs : List Value) (hK : k25.K W x cs) (hok : okT x) (hlen : lenT x) :
    Calls Try.prog 8 #[.agg cs.toArray, .string s, .int .i64 a] W fun e w' => e = .returned (.bool true) ∧ Below W.heap.size W w' := by
  obtain ⟨A1, c1, A2, c2, rfl, l1, g1, l2, g2⟩ := k25_open hK
  obtain ⟨kd, hd⟩ := (deep_ev (sz x) x 100 (Nat.le_refl _) hlen (by omega)).get
  obtain ⟨kc, hc⟩ := (count_ev (sz x) x 401 (Nat.le_refl _) hlen (by omega) (by omega)).get
  have hal := alive_any (W.alloc (.cells #[.int .i64 x.f0, .slice A1 x.f1.length c1, .slice A2 x.f2.length c2] 25))
  have hb0 := below_a1 W (.cells #[.int .i64 x.f0, .slice A1 x.f1.length c1, .slice A2 x.f2.length c2] 25)
  have HBX : Hid (Blk (W.alloc (.cells #[.int .i64 x.f0, .slice A1 x.f1.length c1, .slice A2 x.f2.length c2] 25)) W.heap.size 25 #[.int .i64 x.f0, .slice A1 x.f1.length c1, .slice A2 x.f2.length c2]) := Blk.new _ _ _
  have HDC : Hid (∀ w1, Below W.heap.size W w1 → Calls Try.prog 21 #[.agg #[.int .i64 x.f0, .slice A1 x.f1.length c1, .slice A2 x.f2.length c2], .int .i64 100] w1 fun e w' => e = .returned (.bool (decide (100 < dp x))) ∧ Below w1.heap.size w1 w') := fun w1 hb =>
    colloquyref05_Deep.calls kd x.f0 A1 c1 x.f1 A2 c2 x.f2 100 _ w1 (Kd.C_below g1 hb) l1 (Kd.C_below g2 hb) l2 hd
  have HCC : Hid (∀ w1, Below W.heap.size W w1 → Calls Try.prog 22 #[.agg #[.int .i64 x.f0, .slice A1 x.f1.length c1, .slice A2 x.f2.length c2], .int .i64 401] w1 fun e w' => e = .returned (.int .i64 ((min (sz x) 401 : Nat) : Int)) ∧ Below w1.heap.size w1 w') := fun w1 hb =>
    colloquyref03_Count.calls kc x.f0 A1 c1 x.f1 A2 c2 x.f2 401 _ w1 (Kd.C_below g1 hb) l1 (Kd.C_below g2 hb) l2 hc
  have HK := Lib.hid hK
  have HB0 := Lib.hid hb0
  have HOK := Lib.hid hok
  have HLEN := Lib.hid hlen
  clear hK hok hlen hb0 g1 g2 hd hc
  by_cases hdp : 100 < dp x
  · rw [decide_eq_true hdp] at HDC
    go_enter Try.func8, Try.ntmps8
    go_wp2_with (first
      | (go_at_call 9; refine hal.mono ?_; rintro e w1 ⟨rfl, q1⟩; (have B1 := Lib.hid (HB0.out.trans (q1.mono HB0.out.size)); have BX1 := Lib.hid (HBX.out.below q1 HBX.out.lt); have x0 := BX1.out.cell 0; have x1 := BX1.out.cell 1; have x2 := BX1.out.cell 2; simp at x0 x1 x2; have hdc := HDC.out w1 B1.out; clear q1 hal))
      | (go_at_call 21; refine hdc.mono ?_; rintro e w2 ⟨rfl, q1⟩; (have B2 := Lib.hid (B1.out.trans (q1.mono B1.out.size)); clear q1 hdc)))
    go_ret
    exact ⟨rfl, B2.out⟩
  · rw [decide_eq_false hdp] at HDC
    by_cases hsz : sz x ≤ 400
    · have e2 : decide (((min (sz x) 401 : Nat) : Int) > 400) = false := by simp; omega
      by_cases hsl : s.size ≤ 120
      · have e3 : decide ((s.size : Int) > 120) = false := by simp; omega
        go_enter Try.func8, Try.ntmps8
        go_wp2_with (first
          | (go_at_call 9; refine hal.mono ?_; rintro e w1 ⟨rfl, q1⟩; (have B1 := Lib.hid (HB0.out.trans (q1.mono HB0.out.size)); have BX1 := Lib.hid (HBX.out.below q1 HBX.out.lt); have x0 := BX1.out.cell 0; have x1 := BX1.out.cell 1; have x2 := BX1.out.cell 2; simp at x0 x1 x2; have hdc := HDC.out w1 B1.out; clear q1 hal))
          | (go_at_call 21; refine hdc.mono ?_; rintro e w2 ⟨rfl, q1⟩; (have B2 := Lib.hid (B1.out.trans (q1.mono B1.out.size)); have BX2 := Lib.hid (BX1.out.below q1 BX1.out.lt); have x0 := BX2.out.cell 0; have x1 := BX2.out.cell 1; have x2 := BX2.out.cell 2; simp at x0 x1 x2; have hcc := HCC.out w2 B2.out; clear q1 hdc))
          | (go_at_call 22; refine hcc.mono ?_; rintro e w3 ⟨rfl, q1⟩; (have B3 := Lib.hid (B2.out.trans (q1.mono B2.out.size)); have BX3 := Lib.hid (BX2.out.below q1 BX2.out.lt); have x0 := BX3.out.cell 0; have x1 := BX3.out.cell 1; have x2 := BX3.out.cell 2; simp at x0 x1 x2; have HK3 := Lib.hid (Kd.K_below _ B3.out HK.out); clear q1 hcc)))
        by_cases hrt : rightT x
        · have hcp := compile_right w3 x _ HK3.out HLEN.out HOK.out (by omega) (by omega) hrt
          have hml := mac_len x
          go_wp2_with (first
            | (go_at_call 12; refine hcp.mono ?_; rintro e w4 ⟨bm, rfl, hm0, hge0, hb0⟩; (have hge := Nat.le_trans B3.out.size hge0; have B4 := Lib.hid (B3.out.trans (hb0.mono B3.out.size)); have hlo := longest_any w4 w3.heap.size bm (re x) 0 s a hm0 (by omega); clear hm0 hge0 hb0 hcp))
            | (go_at_call 13; refine hlo.mono ?_; rintro e w5 ⟨v, stp, rfl, _, q2, q3, q4, q5⟩; (have hs3 : stp ≤ 2000 * (s.size : Int) := step_le q3 hml hsz; have e5 : decide (stp < 0) = false := (by simp; omega); have e6 : decide (stp > 2000 * (s.size : Int)) = false := (by simp; omega); have B5 := Lib.hid (kp_bw B4.out q5 hge); have hst := steps_any w5 w3.heap.size bm (re x) stp q4; have hfi := find_any w5 w3.heap.size bm (re x) stp s q4 (by omega); clear q3 q4 q5 hlo))
            | (go_at_call 23; refine hst.mono ?_; rintro e w6 ⟨rfl, rfl⟩)
            | (go_at_call 17; refine hfi.mono ?_; rintro e w7 ⟨f, t, ok, stp2, rfl, q1, q2, q3, q4, q5⟩; (have hs3' : stp2 ≤ 2000 * (s.size : Int) := step_le q3 hml hsz; have e7 : decide (stp2 > 2000 * (s.size : Int)) = false := (by simp; omega); have B7 := Lib.hid (kp_bw B5.out q5 hge); have HF := Lib.hid q1; have HM7 := Lib.hid q4; have hst := steps_any w7 w3.heap.size bm (re x) stp2 q4; clear q1 q3 q4 q5 hfi)))
          go_loopw [12] (fun t12 wr => ∃ (i : Nat) (stp : Int), t12 = .int .i64 i ∧ i ≤ s.size + 1 ∧ Hid (Mach wr w3.heap.size bm (re x) stp) ∧ Hid (∀ a, a < i → ∀ j, ¬ mt (bS s) s.size (re x) a j) ∧ Hid (Below W.heap.size W wr)) (fun t12 _ => s.size + 1 - (intOf t12).toNat)
          case atStart => exact ⟨0, _, rfl, Nat.zero_le _, HM7, (fun a c => absurd c (Nat.not_lt_zero a)), B7⟩
          case round =>
            obtain ⟨i, stp3, rfl, hi, HM8, HNO, B8⟩ := hrel
            by_cases his : i ≤ s.size
            · have hlo := longest_any wr w3.heap.size bm (re x) stp3 s (i : Int) HM8.out (by omega)
              by_cases hex : ∃ j, mt (bS s) s.size (re x) i j
              · have hlo2 : Calls Try.prog 13 #[.pointer (some ⟨bm, 0, none⟩), .string s, .int .i64 (i : Int)] wr fun e w' => ∃ j : Nat, e = .returned (.int .i64 (j : Int)) ∧ (ok = true ∧ f = i ∧ t = j) ∧ Kp wr w' (fun k => k = bm) := by
                  refine hlo.mono ?_
                  rintro e w9 ⟨v, stp4, rfl, q1, _, _, q4, q5⟩
                  obtain ⟨hq1, hq2⟩ := longP_cases his q1
                  have hv : v ≠ -1 := fun c => by obtain ⟨j, hj⟩ := hex; exact hq1 c j hj
                  obtain ⟨j, rfl, hj, hmax⟩ := hq2 hv
                  exact ⟨j, rfl, find_first HF.out his HNO.out hj hmax, q5⟩
                clear hlo hex
                go_wp2_with (first
                  | (go_at_call 13; refine hlo2.mono ?_; rintro e w9 ⟨j, rfl, ⟨rfl, rfl, rfl⟩, q5⟩; (have B9 := Lib.hid (kp_bw B8.out q5 hge); clear q5 hlo2)))
                go_ret
                exact ⟨rfl, B9.out⟩
              · have hlo2 : Calls Try.prog 13 #[.pointer (some ⟨bm, 0, none⟩), .string s, .int .i64 (i : Int)] wr fun e w' => ∃ stp', e = .returned (.int .i64 (-1)) ∧ Mach w' w3.heap.size bm (re x) stp' ∧ Kp wr w' (fun k => k = bm) := by
                  refine hlo.mono ?_
                  rintro e w9 ⟨v, stp4, rfl, q1, _, _, q4, q5⟩
                  obtain ⟨hq1, hq2⟩ := longP_cases his q1
                  obtain rfl : v = -1 := by
                    by_cases c : v = -1
                    · exact c
                    · obtain ⟨j, _, hj, _⟩ := hq2 c
                      exact (hex ⟨j, hj⟩).elim
                  exact ⟨stp4, rfl, q4, q5⟩
                have HEX := Lib.hid hex
                clear hlo hex
                go_wp2_with (first
                  | (go_at_call 13; refine hlo2.mono ?_; rintro e w9 ⟨stp4, rfl, q4, q5⟩; (have B9 := Lib.hid (kp_bw B8.out q5 hge); have HM9 := Lib.hid q4; clear q4 q5 hlo2)))
                go_roundw
                case rel =>
                  refine ⟨i + 1, stp4, by go_num, by omega, HM9, fun a ha j hj => ?_, B9⟩
                  by_cases c : a < i
                  · exact HNO.out a c j hj
                  · obtain rfl : a = i := by omega
                    exact HEX.out ⟨j, hj⟩
                case measure => simp [intOf]; omega
            · obtain rfl : i = s.size + 1 := by omega
              obtain ⟨rfl, rfl, rfl⟩ := find_none HF.out HNO.out
              go_wp2
              go_ret
              exact ⟨rfl, B8.out⟩
        · have hcp := compile_wrong w3 x _ HK3.out HLEN.out HOK.out (by omega) (by omega) hrt
          go_wp2_with (first
            | (go_at_call 12; refine hcp.mono ?_; rintro e w4 ⟨rfl, hb0⟩; (have B4 := Lib.hid (B3.out.trans (hb0.mono B3.out.size)); clear hb0 hcp)))
          go_ret
          exact ⟨rfl, B4.out⟩
      · have e3 : decide ((s.size : Int) > 120) = true := by simp; omega
        go_enter Try.func8, Try.ntmps8
        go_wp2_with (first
          | (go_at_call 9; refine hal.mono ?_; rintro e w1 ⟨rfl, q1⟩; (have B1 := Lib.hid (HB0.out.trans (q1.mono HB0.out.size)); have BX1 := Lib.hid (HBX.out.below q1 HBX.out.lt); have x0 := BX1.out.cell 0; have x1 := BX1.out.cell 1; have x2 := BX1.out.cell 2; simp at x0 x1 x2; have hdc := HDC.out w1 B1.out; clear q1 hal))
          | (go_at_call 21; refine hdc.mono ?_; rintro e w2 ⟨rfl, q1⟩; (have B2 := Lib.hid (B1.out.trans (q1.mono B1.out.size)); have BX2 := Lib.hid (BX1.out.below q1 BX1.out.lt); have x0 := BX2.out.cell 0; have x1 := BX2.out.cell 1; have x2 := BX2.out.cell 2; simp at x0 x1 x2; have hcc := HCC.out w2 B2.out; clear q1 hdc))
          | (go_at_call 22; refine hcc.mono ?_; rintro e w3 ⟨rfl, q1⟩; (have B3 := Lib.hid (B2.out.trans (q1.mono B2.out.size)); clear q1 hcc)))
        go_ret
        exact ⟨rfl, B3.out⟩
    · have e2 : decide (((min (sz x) 401 : Nat) : Int) > 400) = true := by simp; omega
      go_enter Try.func8, Try.ntmps8
      go_wp2_with (first
        | (go_at_call 9; refine hal.mono ?_; rintro e w1 ⟨rfl, q1⟩; (have B1 := Lib.hid (HB0.out.trans (q1.mono HB0.out.size)); have BX1 := Lib.hid (HBX.out.below q1 HBX.out.lt); have x0 := BX1.out.cell 0; have x1 := BX1.out.cell 1; have x2 := BX1.out.cell 2; simp at x0 x1 x2; have hdc := HDC.out w1 B1.out; clear q1 hal))
        | (go_at_call 21; refine hdc.mono ?_; rintro e w2 ⟨rfl, q1⟩; (have B2 := Lib.hid (B1.out.trans (q1.mono B1.out.size)); have BX2 := Lib.hid (BX1.out.below q1 BX1.out.lt); have x0 := BX2.out.cell 0; have x1 := BX2.out.cell 1; have x2 := BX2.out.cell 2; simp at x0 x1 x2; have hcc := HCC.out w2 B2.out; clear q1 hdc))
        | (go_at_call 22; refine hcc.mono ?_; rintro e w3 ⟨rfl, q1⟩; (have B3 := Lib.hid (B2.out.trans (q1.mono B2.out.size)); clear q1 hcc)))
      go_ret
      exact ⟨rfl, B3.out⟩

end Go.Proofs.Ytmhodkkfbbpgaaa.Nm
