/- The walk of NfaLongest. (Printed by gl3.py.) -/
import Derived.Test.YtmhodkkfbbpgaaaTab4
import Derived.Test.YtmhodkkfbbpgaaaLawLoops0
import Derived.Deep.RegionHeld3
namespace Go.Proofs.Ytmhodkkfbbpgaaa.Nm
set_option linter.unusedVariables false
set_option linter.unusedSimpArgs false
open Go.RowKit Mem Re Tree Fac Go.Proofs.Ytmhodkkfbbpgaaa.PNfa Go.Proofs.YtmhodkkfbbpgaaaW.PrintWords Go.Proofs.YtmhodkkfbbpgaaaW.PrintLast Go.Proofs.YtmhodkkfbbpgaaaW.PrintMore

/-- A machine, and a node's own cells beside it. -/
structure L0 (W w : World) (b : Nat) (r : Re) (ty : TypeId) (cs : Array Value) : Prop where
  mach : ∃ base stp, Mach w base b r stp
  box : Blk w W.heap.size ty cs
  ge : W.heap.size ≤ b
  bel : Below W.heap.size W w

theorem L0.below {W w w' : World} {b : Nat} {r : Re} {ty : TypeId} {cs : Array Value} (h : L0 W w b r ty cs) (hb : Below w.heap.size w w') : L0 W w' b r ty cs := by
  obtain ⟨base, stp, hm⟩ := h.mach
  exact ⟨⟨base, stp, hm.below hb⟩, Blk.below h.box hb h.box.lt, h.ge, h.bel.trans (hb.mono h.bel.size)⟩

theorem L0.long {W w : World} {b : Nat} {r : Re} {cs : Array Value} (h : L0 W w b r 25 cs) (s : ByteArray) (a : Int) (hs : s.size ≤ 1000000000) :
    Calls Try.prog 13 #[.pointer (some ⟨b, 0, none⟩), .string s, .int .i64 a] w fun e w' => e = .returned (.int .i64 (lg s r a)) ∧ L0 W w' b r 25 cs := by
  obtain ⟨base, stp, hM⟩ := h.mach
  refine (longest_any w base b r stp s a hM hs).mono ?_
  rintro e w' ⟨u, stp', rfl, h1, _, _, h4, h5⟩
  refine ⟨by rw [longP_uniq h1 (lg_spec s r a)], ⟨base, stp', h4⟩, ?_, h.ge, h.bel.trans (h5.below h.bel.size (fun k e => by rw [e]; exact h.ge))⟩
  exact h.box.kp h5 (fun c => by obtain ⟨ds, hbm⟩ := hM.blk; exact (Blk.ne_ h.box hbm (by decide)) c)

/-- A machine, and the document's table behind it. -/
structure LT (W w : World) (b : Nat) (r : Re) (N : Nat) (v : Value) (t : List (List Bool)) : Prop where
  mach : ∃ base stp, Mach w base b r stp
  tab : Kd.S (Kd.slice 4 Kd.bool) 61 w N (fun _ => True) v t
  lt : b < N
  ge : W.heap.size ≤ b
  bel : Below W.heap.size W w

theorem LT.below {W w w' : World} {b N : Nat} {r : Re} {v : Value} {t : List (List Bool)} (h : LT W w b r N v t) (hb : Below w.heap.size w w') : LT W w' b r N v t := by
  obtain ⟨base, stp, hm⟩ := h.mach
  exact ⟨⟨base, stp, hm.below hb⟩, Kd.S_step h.tab (fun k _ hlt => hb.block k hlt), h.lt, h.ge, h.bel.trans (hb.mono h.bel.size)⟩

theorem LT.long {W w : World} {b N : Nat} {r : Re} {v : Value} {t : List (List Bool)} (h : LT W w b r N v t) (s : ByteArray) (a : Int) (hs : s.size ≤ 1000000000) :
    Calls Try.prog 13 #[.pointer (some ⟨b, 0, none⟩), .string s, .int .i64 a] w fun e w' => e = .returned (.int .i64 (lg s r a)) ∧ LT W w' b r N v t := by
  obtain ⟨base, stp, hM⟩ := h.mach
  refine (longest_any w base b r stp s a hM hs).mono ?_
  rintro e w' ⟨u, stp', rfl, h1, _, _, h4, h5⟩
  refine ⟨by rw [longP_uniq h1 (lg_spec s r a)], ⟨base, stp', h4⟩, ?_, h.lt, h.ge, h.bel.trans (h5.below h.bel.size (fun k e => by rw [e]; exact h.ge))⟩
  have hlt := h.lt
  exact Kd.S_mono (Kd.S_step (Kd.S_bound h.tab) (fun k hk hl => h5.block k hl (fun c => by have := hk.2.1; omega))) (fun _ _ => trivial)

theorem LT.last {W w : World} {b N : Nat} {r : Re} {A : Option Addr} {c n : Nat} {t : List (List Bool)} (h : LT W w b r N (.slice A n c) t) (hn : n = t.length) (hc : n ≤ c) (i v : Int) {k : Nat} (hk : colloquyref03_Last.f k t i = some v) :
    Calls Try.prog 16 #[.slice A n c, .int .i64 i] w fun e w' => e = .returned (.int .i64 v) ∧ LT W w' b r N (.slice A n c) t := by
  subst hn
  refine (colloquyref03_Last.calls k A c t i v w (Kd.F_now (Kd.S_F h.tab)) hc hk).mono ?_
  rintro e w' ⟨rfl, hd⟩
  exact ⟨rfl, h.below hd.below⟩

set_option maxHeartbeats 4000000 in
set_option maxRecDepth 100000 in
theorem longest_walk (x : Nd) (s : ByteArray) (a : Int) (W : World) (cs : List Value) (hK : k25.K W x cs) (hok : okT x) (hlen : lenT x) :
    Calls Try.prog 3 #[.agg cs.toArray, .string s, .int .i64 a] W fun e w' => e = .returned (.bool true) ∧ Below W.heap.size W w' := by
  obtain ⟨A1, c1, A2, c2, rfl, l1, g1, l2, g2⟩ := k25_open hK
  obtain ⟨kf, hf⟩ := (few_ev x s hlen).get
  have hal := alive_any (W.alloc (.cells #[.int .i64 x.f0, .slice A1 x.f1.length c1, .slice A2 x.f2.length c2] 25))
  have BW0 := Lib.hid (below_a1 W (.cells #[.int .i64 x.f0, .slice A1 x.f1.length c1, .slice A2 x.f2.length c2] 25))
  have HM0 := Lib.hid (Ms.nil W.heap.size (W.alloc (.cells #[.int .i64 x.f0, .slice A1 x.f1.length c1, .slice A2 x.f2.length c2] 25)))
  have BX0 : Hid (Blk (W.alloc (.cells #[.int .i64 x.f0, .slice A1 x.f1.length c1, .slice A2 x.f2.length c2] 25)) W.heap.size 25 #[.int .i64 x.f0, .slice A1 x.f1.length c1, .slice A2 x.f2.length c2]) := Blk.new _ _ _
  have HFW : Hid (∀ w1, Below W.heap.size W w1 → Calls Try.prog 10 #[.agg #[.int .i64 x.f0, .slice A1 x.f1.length c1, .slice A2 x.f2.length c2], .string s] w1 fun e w' => e = .returned (.bool (decide (dp x ≤ 60 ∧ sz x ≤ 40 ∧ s.size ≤ 30))) ∧ Below w1.heap.size w1 w') := fun w1 hb =>
    colloquylaw05_few.calls kf x.f0 A1 c1 x.f1 A2 c2 x.f2 s _ w1 (Kd.C_below g1 hb) l1 (Kd.C_below g2 hb) l2 hf
  have HK := Lib.hid hK
  by_cases hfw : dp x ≤ 60 ∧ sz x ≤ 40 ∧ s.size ≤ 30
  · rw [decide_eq_true hfw] at HFW
    obtain ⟨hf1, hf2, hf3⟩ := hfw
    obtain ⟨kc, hc⟩ := (check_ev x hlen (by omega) (by omega)).get
    have HCK : Hid (∀ w1, Below W.heap.size W w1 → Calls Try.prog 11 #[.agg #[.int .i64 x.f0, .slice A1 x.f1.length c1, .slice A2 x.f2.length c2]] w1 fun e w' => e = .returned (.int .i64 (if rightB x = true then 0 else 1)) ∧ Below w1.heap.size w1 w') := fun w1 hb =>
      colloquyref05_Check.calls kc x.f0 A1 c1 x.f1 A2 c2 x.f2 _ w1 (Kd.C_below g1 hb) l1 (Kd.C_below g2 hb) l2 hc
    by_cases hrt : rightT x
    · obtain ⟨kl, hl⟩ := (rlongest_ev x s (by omega) hrt hok hlen a).get
      obtain ⟨kt, ht⟩ := (table_ev s (by omega) (sz x) x (Nat.le_refl _) hrt hok hlen).get
      have HRL : Hid (∀ w1, Below W.heap.size W w1 → Calls Try.prog 14 #[.agg #[.int .i64 x.f0, .slice A1 x.f1.length c1, .slice A2 x.f2.length c2], .string s, .int .i64 a] w1 fun e w' => e = .returned (.int .i64 (lg s (re x) a)) ∧ Below w1.heap.size w1 w') := fun w1 hb =>
        colloquyref05_Longest.calls kl x.f0 A1 c1 x.f1 A2 c2 x.f2 s a _ w1 (Kd.C_below g1 hb) l1 (Kd.C_below g2 hb) l2 hl
      have HTB : Hid (∀ w1, Below W.heap.size W w1 → Calls Try.prog 15 #[.agg #[.int .i64 x.f0, .slice A1 x.f1.length c1, .slice A2 x.f2.length c2], .string s] w1 fun e w' => ∃ v0_ : Value, e = .returned v0_ ∧ Kd.S (Kd.slice 4 Kd.bool) 61 w' w1.heap.size (fun _ => True) v0_ (tb (s.size + 1) (M s (re x))) ∧ Below w1.heap.size w1 w') := fun w1 hb =>
        colloquyref03_Table.calls kt x.f0 A1 c1 x.f1 A2 c2 x.f2 s _ w1 (Kd.C_below g1 hb) l1 (Kd.C_below g2 hb) l2 ht
      have HLA : Hid (∀ i : Nat, i ≤ s.size → ∃ k, colloquyref03_Last.f k (tb (s.size + 1) (M s (re x))) (i : Int) = some (lg s (re x) (i : Int))) := fun i hi => (last_ev s (by omega) (re x) hi).get
      have HTL : Hid ((tb (s.size + 1) (M s (re x))).length = s.size + 1) := tb_len _ _
      have HOK := Lib.hid hok
      have HLEN := Lib.hid hlen
      clear hK hok hlen g1 g2 hf hc hl ht
      rw [(rightB_iff x).2 hrt, if_pos rfl] at HCK
      obtain ⟨r, hr⟩ : ∃ r, re x = r := ⟨_, rfl⟩
      obtain ⟨la, hla⟩ : ∃ v, lg s r a = v := ⟨_, rfl⟩
      rw [hr, hla] at HRL
      rw [hr] at HTB HLA HTL
      obtain ⟨t, htt⟩ : ∃ t, tb (s.size + 1) (M s r) = t := ⟨_, rfl⟩
      rw [htt] at HTB HLA HTL
      have HR := Lib.hid hr
      have HLG := Lib.hid hla
      clear hr hla htt
      go_enter Try.func3, Try.ntmps3
      go_wp2_with (first
        | (go_at_call 12; (have hguard := BW3; clear hguard); refine (ms_compile HM3.out BW3.out x _ (Kd.K_below _ BW3.out HK.out) HLEN.out HOK.out (by omega) (by omega) hrt).mono ?_; rintro e w4 ⟨bm, rfl, hm0, hb0, hB0⟩; (rw [HR.out] at hm0; have BW4 := Lib.hid hB0; have HM4 := Lib.hid hm0; have BX4 := Lib.hid (Blk.below BX3.out hb0 BX3.out.lt); have BX4l := BX4.out.lt; have BX4x := BX4.out.cell 0; have BX4y := BX4.out.cell 1; have BX4z := BX4.out.cell 2; simp at BX4x BX4y BX4z; clear hm0 hb0 hB0))
        | (go_at_call 11; (have hguard := BW2; clear hguard); refine (HCK.out _ BW2.out).mono ?_; rintro e w3 ⟨rfl, hb0⟩; (have BW3 := Lib.hid (BW2.out.trans (hb0.mono BW2.out.size)); have HM3 := Lib.hid (HM2.out.below hb0); have BX3 := Lib.hid (Blk.below BX2.out hb0 BX2.out.lt); have BX3l := BX3.out.lt; have BX3x := BX3.out.cell 0; have BX3y := BX3.out.cell 1; have BX3z := BX3.out.cell 2; simp at BX3x BX3y BX3z; clear hb0))
        | (go_at_call 10; (have hguard := BW1; clear hguard); refine (HFW.out _ BW1.out).mono ?_; rintro e w2 ⟨rfl, hb0⟩; (have BW2 := Lib.hid (BW1.out.trans (hb0.mono BW1.out.size)); have HM2 := Lib.hid (HM1.out.below hb0); have BX2 := Lib.hid (Blk.below BX1.out hb0 BX1.out.lt); have BX2l := BX2.out.lt; have BX2x := BX2.out.cell 0; have BX2y := BX2.out.cell 1; have BX2z := BX2.out.cell 2; simp at BX2x BX2y BX2z; clear hb0))
        | (go_at_call 9; (have hguard := BW0; clear hguard); refine (hal).mono ?_; rintro e w1 ⟨rfl, hb0⟩; (have BW1 := Lib.hid (BW0.out.trans (hb0.mono BW0.out.size)); have HM1 := Lib.hid (HM0.out.below hb0); have BX1 := Lib.hid (Blk.below BX0.out hb0 BX0.out.lt); have BX1l := BX1.out.lt; have BX1x := BX1.out.cell 0; have BX1y := BX1.out.cell 1; have BX1z := BX1.out.cell 2; simp at BX1x BX1y BX1z; clear hb0)))
      have L4d : Hid (L0 W w4.drew bm r 25 #[.int .i64 x.f0, .slice A1 x.f1.length c1, .slice A2 x.f2.length c2]) := by
        obtain ⟨base, stp, hm⟩ := HM4.out.at_ (bm, r) (by simp)
        exact ⟨⟨base, stp, hm.below (below_drew (Below.refl _ _))⟩, Blk.drew BX4.out, HM4.out.ge (bm, r) (by simp), below_drew BW4.out⟩
      have BX4d := Lib.hid (Blk.drew BX4.out)
      clear BW0 BW1 BW2 BW3 HM0 HM1 HM2 HM3 BX0 BX1 BX2 BX3 HFW HCK
      go_region_held3 (fun w' => w'.cell? ⟨W.heap.size, 0, none⟩ = some (.int .i64 x.f0) ∧ w'.cell? ⟨W.heap.size, 1, none⟩ = some (.slice A1 x.f1.length c1) ∧ w'.cell? ⟨W.heap.size, 2, none⟩ = some (.slice A2 x.f2.length c2)) (first | exact ⟨b0, b1, b2⟩ | go_keep)
        (first
          | (go_at_call 13; refine (L4d.out.long s a (by omega)).mono ?_; rintro e w5 ⟨he, hL⟩; (rw [HLG.out] at he; subst he; have L5 := Lib.hid hL; have b0 := hL.box.cell 0; have b1 := hL.box.cell 1; have b2 := hL.box.cell 2; simp at b0 b1 b2; clear hL))
          | (go_at_call 14; refine (HRL.out _ L5.out.bel).mono ?_; rintro e w6 ⟨rfl, hb0⟩; (have hL := L5.out.below hb0; have L6 := Lib.hid hL; have b0 := hL.box.cell 0; have b1 := hL.box.cell 1; have b2 := hL.box.cell 2; simp at b0 b1 b2; clear hL hb0)))
      go_wp2_with (first
        | (go_at_call 15; refine (HTB.out _ L6.out.bel).mono ?_; rintro e w7 ⟨v0_, rfl, hS, hb0⟩; (obtain ⟨base6, stp6, hm6⟩ := L6.out.mach; obtain ⟨AT, cT, rfl, lcT, _⟩ := Kd.R_reads (Kd.S_R hS); have LT7 : Hid (LT W w7 bm r w6.heap.size (.slice AT t.length cT) t) := ⟨⟨base6, stp6, hm6.below hb0⟩, hS, hm6.lt, L6.out.ge, L6.out.bel.trans (hb0.mono L6.out.bel.size)⟩; clear hS hb0 hm6)))
      go_loopw [10] (fun t10 wr => ∃ i : Nat, t10 = .int .i64 i ∧ i ≤ s.size + 1 ∧ Hid (LT W wr bm r w6.heap.size (.slice AT t.length cT) t)) (fun t10 _ => s.size + 1 - (intOf t10).toNat)
      case atStart => exact ⟨0, rfl, Nat.zero_le _, LT7⟩
      case round =>
        obtain ⟨i, rfl, hi, LR⟩ := hrel
        by_cases his : i ≤ s.size
        · obtain ⟨kl, hkl⟩ := HLA.out i his
          obtain ⟨v, hv⟩ : ∃ v, lg s r (i : Int) = v := ⟨_, rfl⟩
          rw [hv] at hkl
          have HKL := Lib.hid hkl
          have HV := Lib.hid hv
          clear hkl hv
          go_wp2_with (first
            | (go_at_call 16; refine (LT.last LR8.out rfl lcT (i : Int) v HKL.out).mono ?_; rintro e w9 ⟨rfl, hL⟩; (have LR9 := Lib.hid hL; clear hL))
            | (go_at_call 13; refine (LT.long LR.out s (i : Int) (by omega)).mono ?_; rintro e w8 ⟨he, hL⟩; (rw [HV.out] at he; subst he; have LR8 := Lib.hid hL; clear hL)))
          go_roundw
          case rel => exact ⟨i + 1, by go_num, by omega, LR9⟩
          case measure => simp [intOf]; omega
        · obtain rfl : i = s.size + 1 := by omega
          go_wp2
          go_ret
          exact ⟨rfl, LR.out.bel⟩
    · have hrb : rightB x = false := by
        cases h : rightB x with
        | false => rfl
        | true => exact (hrt ((rightB_iff x).1 h)).elim
      rw [hrb, if_neg (by decide)] at HCK
      clear hK hok hlen g1 g2 hf hc
      go_enter Try.func3, Try.ntmps3
      go_wp2_with (first
        | (go_at_call 11; (have hguard := BW2; clear hguard); refine (HCK.out _ BW2.out).mono ?_; rintro e w3 ⟨rfl, hb0⟩; (have BW3 := Lib.hid (BW2.out.trans (hb0.mono BW2.out.size)); have HM3 := Lib.hid (HM2.out.below hb0); have BX3 := Lib.hid (Blk.below BX2.out hb0 BX2.out.lt); have BX3l := BX3.out.lt; have BX3x := BX3.out.cell 0; have BX3y := BX3.out.cell 1; have BX3z := BX3.out.cell 2; simp at BX3x BX3y BX3z; clear hb0))
        | (go_at_call 10; (have hguard := BW1; clear hguard); refine (HFW.out _ BW1.out).mono ?_; rintro e w2 ⟨rfl, hb0⟩; (have BW2 := Lib.hid (BW1.out.trans (hb0.mono BW1.out.size)); have HM2 := Lib.hid (HM1.out.below hb0); have BX2 := Lib.hid (Blk.below BX1.out hb0 BX1.out.lt); have BX2l := BX2.out.lt; have BX2x := BX2.out.cell 0; have BX2y := BX2.out.cell 1; have BX2z := BX2.out.cell 2; simp at BX2x BX2y BX2z; clear hb0))
        | (go_at_call 9; (have hguard := BW0; clear hguard); refine (hal).mono ?_; rintro e w1 ⟨rfl, hb0⟩; (have BW1 := Lib.hid (BW0.out.trans (hb0.mono BW0.out.size)); have HM1 := Lib.hid (HM0.out.below hb0); have BX1 := Lib.hid (Blk.below BX0.out hb0 BX0.out.lt); have BX1l := BX1.out.lt; have BX1x := BX1.out.cell 0; have BX1y := BX1.out.cell 1; have BX1z := BX1.out.cell 2; simp at BX1x BX1y BX1z; clear hb0)))
      go_ret
      exact ⟨rfl, BW3.out⟩
  · rw [decide_eq_false hfw] at HFW
    clear hfw hK hok hlen g1 g2 hf
    go_enter Try.func3, Try.ntmps3
    go_wp2_with (first
      | (go_at_call 10; (have hguard := BW1; clear hguard); refine (HFW.out _ BW1.out).mono ?_; rintro e w2 ⟨rfl, hb0⟩; (have BW2 := Lib.hid (BW1.out.trans (hb0.mono BW1.out.size)); have HM2 := Lib.hid (HM1.out.below hb0); have BX2 := Lib.hid (Blk.below BX1.out hb0 BX1.out.lt); have BX2l := BX2.out.lt; have BX2x := BX2.out.cell 0; have BX2y := BX2.out.cell 1; have BX2z := BX2.out.cell 2; simp at BX2x BX2y BX2z; clear hb0))
      | (go_at_call 9; (have hguard := BW0; clear hguard); refine (hal).mono ?_; rintro e w1 ⟨rfl, hb0⟩; (have BW1 := Lib.hid (BW0.out.trans (hb0.mono BW0.out.size)); have HM1 := Lib.hid (HM0.out.below hb0); have BX1 := Lib.hid (Blk.below BX0.out hb0 BX0.out.lt); have BX1l := BX1.out.lt; have BX1x := BX1.out.cell 0; have BX1y := BX1.out.cell 1; have BX1z := BX1.out.cell 2; simp at BX1x BX1y BX1z; clear hb0)))
    go_ret
    exact ⟨rfl, BW2.out⟩

end Go.Proofs.Ytmhodkkfbbpgaaa.Nm
