/- The walk of NfaFinds. (Printed by gl2.py.) -/
import Derived.Test.YtmhodkkfbbpgaaaTab4
import Derived.Test.YtmhodkkfbbpgaaaLawLoops0
namespace Go.Proofs.Ytmhodkkfbbpgaaa.Nm
set_option linter.unusedVariables false
set_option linter.unusedSimpArgs false
open Go.RowKit Mem Re Tree Fac Go.Proofs.Ytmhodkkfbbpgaaa.PNfa Go.Proofs.YtmhodkkfbbpgaaaW.PrintWords Go.Proofs.YtmhodkkfbbpgaaaW.PrintLast Go.Proofs.YtmhodkkfbbpgaaaW.PrintMore

set_option maxHeartbeats 4000000 in
set_option maxRecDepth 100000 in
theorem finds_walk (x : Nd) (s : ByteArray) (W : World) (cs : List Value) (hK : k25.K W x cs) (hok : okT x) (hlen : lenT x) :
    Calls Try.prog 4 #[.agg cs.toArray, .string s] W fun e w' => e = .returned (.bool true) ∧ Below W.heap.size W w' := by
  obtain ⟨A1, c1, A2, c2, rfl, l1, g1, l2, g2⟩ := k25_open hK
  obtain ⟨kf, hf⟩ := (few_ev x s hlen).get
  have hal := alive_any (W.alloc (.cells #[.int .i64 x.f0, .slice A1 x.f1.length c1, .slice A2 x.f2.length c2] 25))
  have BW0 := Lib.hid (below_a1 W (.cells #[.int .i64 x.f0, .slice A1 x.f1.length c1, .slice A2 x.f2.length c2] 25))
  have HM0 := Lib.hid (Ms.nil W.heap.size (W.alloc (.cells #[.int .i64 x.f0, .slice A1 x.f1.length c1, .slice A2 x.f2.length c2] 25)))
  have BX0 : Hid (Blk (W.alloc (.cells #[.int .i64 x.f0, .slice A1 x.f1.length c1, .slice A2 x.f2.length c2] 25)) W.heap.size 25 #[.int .i64 x.f0, .slice A1 x.f1.length c1, .slice A2 x.f2.length c2]) := Blk.new _ _ _
  have HFW : Hid (∀ w1, Below W.heap.size W w1 → Calls Try.prog 10 #[.agg #[.int .i64 x.f0, .slice A1 x.f1.length c1, .slice A2 x.f2.length c2], .string s] w1 fun e w' => e = .returned (.bool (decide (dp x ≤ 60 ∧ sz x ≤ 40 ∧ s.size ≤ 30))) ∧ Below w1.heap.size w1 w') := fun w1 hb =>
    colloquylaw05_few.calls kf x.f0 A1 c1 x.f1 A2 c2 x.f2 s _ w1 (Kd.C_below g1 hb) l1 (Kd.C_below g2 hb) l2 hf
  have HK := Lib.hid hK
  by_cases hfw : dp x ≤ 60 ∧ sz x ≤ 40 ∧ s.size ≤ 30
  · rw [decide_eq_true hfw] at HFW
    obtain ⟨hf1, hf2, hf3⟩ := hfw
    obtain ⟨kc, hc⟩ := (check_ev x hlen (by omega) (by omega)).get
    have HCK : Hid (∀ w1, Below W.heap.size W w1 → Calls Try.prog 11 #[.agg #[.int .i64 x.f0, .slice A1 x.f1.length c1, .slice A2 x.f2.length c2]] w1 fun e w' => e = .returned (.int .i64 (if rightB x = true then 0 else 1)) ∧ Below w1.heap.size w1 w') := fun w1 hb =>
      colloquyref05_Check.calls kc x.f0 A1 c1 x.f1 A2 c2 x.f2 _ w1 (Kd.C_below g1 hb) l1 (Kd.C_below g2 hb) l2 hc
    have HRF : Hid (∀ w1 f t ok, Below W.heap.size W w1 → rightT x → FindP s (re x) f t ok → Calls Try.prog 18 #[.agg #[.int .i64 x.f0, .slice A1 x.f1.length c1, .slice A2 x.f2.length c2], .string s] w1 fun e w' => e = .returned (.tuple #[.int .i64 f, .int .i64 t, .bool ok]) ∧ Below w1.heap.size w1 w') := fun w1 f t ok hb hr hp => by
      obtain ⟨kr, hr⟩ := (rfind_ev x s (by omega) hr hok hlen hp).get
      exact colloquyref05_Find.calls kr x.f0 A1 c1 x.f1 A2 c2 x.f2 s _ _ _ w1 (Kd.C_below g1 hb) l1 (Kd.C_below g2 hb) l2 hr
    have HOK := Lib.hid hok
    have HLEN := Lib.hid hlen
    clear hK hok hlen g1 g2 hf hc
    by_cases hrt : rightT x
    · rw [(rightB_iff x).2 hrt, if_pos rfl] at HCK
      go_enter Try.func4, Try.ntmps4
      go_wp2_with (first
        | (go_at_call 18; (have hguard := BW5; clear hguard); refine (hrf).mono ?_; rintro e w6 ⟨rfl, hb0⟩; (have BW6 := Lib.hid (BW5.out.trans (hb0.mono BW5.out.size)); clear hb0 hrf; cases ok))
        | (go_at_call 17; (have hguard := BW4; clear hguard); refine (hfi).mono ?_; rintro e w5 ⟨f, t, ok, stp, rfl, q1, _, _, _, q5⟩; (have BW5 := Lib.hid (kp_bw BW4.out q5 hge); have BX5 := Lib.hid (BX4.out.kp q5 (fun c => by obtain ⟨cs, hbm⟩ := HMM.out.blk; exact (Blk.ne_ BX4.out hbm (by decide)) c)); have BX5l := BX5.out.lt; have BX5x := BX5.out.cell 0; have BX5y := BX5.out.cell 1; have BX5z := BX5.out.cell 2; simp at BX5x BX5y BX5z; have hrf := HRF.out w5 f t ok BW5.out hrt q1; clear q1 q5 hfi))
        | (go_at_call 12; (have hguard := BW3; clear hguard); refine (compile_right _ x _ (Kd.K_below _ BW3.out HK.out) HLEN.out HOK.out (by omega) (by omega) hrt).mono ?_; rintro e w4 ⟨bm, rfl, hm0, hge0, hb0⟩; (have BW4 := Lib.hid (BW3.out.trans (hb0.mono BW3.out.size)); have HM4 := Lib.hid (HM3.out.below hb0); have BX4 := Lib.hid (Blk.below BX3.out hb0 BX3.out.lt); have BX4l := BX4.out.lt; have BX4x := BX4.out.cell 0; have BX4y := BX4.out.cell 1; have BX4z := BX4.out.cell 2; simp at BX4x BX4y BX4z; have hge := Nat.le_trans BW3.out.size hge0; have hfi := find_any w4 _ bm (re x) 0 s hm0 (by omega); have HMM := Lib.hid hm0; clear hm0 hge0 hb0))
        | (go_at_call 11; (have hguard := BW2; clear hguard); refine (HCK.out _ BW2.out).mono ?_; rintro e w3 ⟨rfl, hb0⟩; (have BW3 := Lib.hid (BW2.out.trans (hb0.mono BW2.out.size)); have HM3 := Lib.hid (HM2.out.below hb0); have BX3 := Lib.hid (Blk.below BX2.out hb0 BX2.out.lt); have BX3l := BX3.out.lt; have BX3x := BX3.out.cell 0; have BX3y := BX3.out.cell 1; have BX3z := BX3.out.cell 2; simp at BX3x BX3y BX3z; clear hb0))
        | (go_at_call 10; (have hguard := BW1; clear hguard); refine (HFW.out _ BW1.out).mono ?_; rintro e w2 ⟨rfl, hb0⟩; (have BW2 := Lib.hid (BW1.out.trans (hb0.mono BW1.out.size)); have HM2 := Lib.hid (HM1.out.below hb0); have BX2 := Lib.hid (Blk.below BX1.out hb0 BX1.out.lt); have BX2l := BX2.out.lt; have BX2x := BX2.out.cell 0; have BX2y := BX2.out.cell 1; have BX2z := BX2.out.cell 2; simp at BX2x BX2y BX2z; clear hb0))
        | (go_at_call 9; (have hguard := BW0; clear hguard); refine (hal).mono ?_; rintro e w1 ⟨rfl, hb0⟩; (have BW1 := Lib.hid (BW0.out.trans (hb0.mono BW0.out.size)); have HM1 := Lib.hid (HM0.out.below hb0); have BX1 := Lib.hid (Blk.below BX0.out hb0 BX0.out.lt); have BX1l := BX1.out.lt; have BX1x := BX1.out.cell 0; have BX1y := BX1.out.cell 1; have BX1z := BX1.out.cell 2; simp at BX1x BX1y BX1z; clear hb0)))
      all_goals
        go_ret
        exact ⟨rfl, BW6.out⟩
    · have hrb : rightB x = false := by
        cases h : rightB x with
        | false => rfl
        | true => exact (hrt ((rightB_iff x).1 h)).elim
      rw [hrb, if_neg (by decide)] at HCK
      go_enter Try.func4, Try.ntmps4
      go_wp2_with (first
        | (go_at_call 11; (have hguard := BW2; clear hguard); refine (HCK.out _ BW2.out).mono ?_; rintro e w3 ⟨rfl, hb0⟩; (have BW3 := Lib.hid (BW2.out.trans (hb0.mono BW2.out.size)); have HM3 := Lib.hid (HM2.out.below hb0); have BX3 := Lib.hid (Blk.below BX2.out hb0 BX2.out.lt); have BX3l := BX3.out.lt; have BX3x := BX3.out.cell 0; have BX3y := BX3.out.cell 1; have BX3z := BX3.out.cell 2; simp at BX3x BX3y BX3z; clear hb0))
        | (go_at_call 10; (have hguard := BW1; clear hguard); refine (HFW.out _ BW1.out).mono ?_; rintro e w2 ⟨rfl, hb0⟩; (have BW2 := Lib.hid (BW1.out.trans (hb0.mono BW1.out.size)); have HM2 := Lib.hid (HM1.out.below hb0); have BX2 := Lib.hid (Blk.below BX1.out hb0 BX1.out.lt); have BX2l := BX2.out.lt; have BX2x := BX2.out.cell 0; have BX2y := BX2.out.cell 1; have BX2z := BX2.out.cell 2; simp at BX2x BX2y BX2z; clear hb0))
        | (go_at_call 9; (have hguard := BW0; clear hguard); refine (hal).mono ?_; rintro e w1 ⟨rfl, hb0⟩; (have BW1 := Lib.hid (BW0.out.trans (hb0.mono BW0.out.size)); have HM1 := Lib.hid (HM0.out.below hb0); have BX1 := Lib.hid (Blk.below BX0.out hb0 BX0.out.lt); have BX1l := BX1.out.lt; have BX1x := BX1.out.cell 0; have BX1y := BX1.out.cell 1; have BX1z := BX1.out.cell 2; simp at BX1x BX1y BX1z; clear hb0)))
      go_ret
      exact ⟨rfl, BW3.out⟩
  · rw [decide_eq_false hfw] at HFW
    clear hfw hK hok hlen g1 g2 hf
    go_enter Try.func4, Try.ntmps4
    go_wp2_with (first
      | (go_at_call 10; (have hguard := BW1; clear hguard); refine (HFW.out _ BW1.out).mono ?_; rintro e w2 ⟨rfl, hb0⟩; (have BW2 := Lib.hid (BW1.out.trans (hb0.mono BW1.out.size)); have HM2 := Lib.hid (HM1.out.below hb0); have BX2 := Lib.hid (Blk.below BX1.out hb0 BX1.out.lt); have BX2l := BX2.out.lt; have BX2x := BX2.out.cell 0; have BX2y := BX2.out.cell 1; have BX2z := BX2.out.cell 2; simp at BX2x BX2y BX2z; clear hb0))
      | (go_at_call 9; (have hguard := BW0; clear hguard); refine (hal).mono ?_; rintro e w1 ⟨rfl, hb0⟩; (have BW1 := Lib.hid (BW0.out.trans (hb0.mono BW0.out.size)); have HM1 := Lib.hid (HM0.out.below hb0); have BX1 := Lib.hid (Blk.below BX0.out hb0 BX0.out.lt); have BX1l := BX1.out.lt; have BX1x := BX1.out.cell 0; have BX1y := BX1.out.cell 1; have BX1z := BX1.out.cell 2; simp at BX1x BX1y BX1z; clear hb0)))
    go_ret
    exact ⟨rfl, BW2.out⟩

end Go.Proofs.Ytmhodkkfbbpgaaa.Nm
