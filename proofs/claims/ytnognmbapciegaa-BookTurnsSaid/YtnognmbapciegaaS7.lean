/- The document's Unpack: the walk. -/
import Derived.Test.YtnognmbapciegaaKd
namespace Go.Proofs.Ytnognmbapciegaa.Bk
open Go.RowKit Go.Proofs.YtnognmbapciegaaW.PrintWords Go.Proofs.YtnognmbapciegaaW.PrintLast Go.Proofs.YtnognmbapciegaaW.PrintMore Go.Proofs.Ytnognmbapciegaa.PBk
set_option linter.unusedVariables false
set_option linter.unusedSimpArgs false

def UnP (w : World) (u : Option Ent) (e : Ending) (w' : World) : Prop := Below w.heap.size w w' ∧ match u with
  | none => e = .returned (.tuple #[.agg #[.int .i64 0, .slice none 0 0, .slice none 0 0], .bool false])
  | some en => ∃ v1 v2, e = .returned (.tuple #[.agg #[.int .i64 en.g, v1, v2], .bool true]) ∧ Kd.R k42 42 w' w.heap.size (fun _ => True) v1 en.rs ∧ Kd.R (Kd.slice 44 k44) 46 w' w.heap.size (fun _ => True) v2 en.ts
theorem OutW.start {w w2 : World} {G : Int} (A : Option Addr) (n c : Nat) (b : Bool) (hb : Below w.heap.size w w2) (hr : w2.heap[w.heap.size]? = some (.cells zEnt 25 (0, 0))) : OutW w w2.heap.size G ((w2.alloc (.cells #[.slice A n c, .bool b] 66)).alloc (.cells #[.int .i64 G, .slice none 0 0, .slice none 0 0] 25)) [] [] := by
  have hlt := blk_lt hr
  refine ⟨(hb.alloc hb.size _).alloc (hb.alloc hb.size _).size _, hlt, by simp, blk_alloc (blk_alloc hr _) _, none, 0, 0, none, 0, 0, ?_, Kd.R_nil _ _ _ _ _, Kd.R_nil _ _ _ _ _⟩
  have := blk_new (w2.alloc (.cells #[.slice A n c, .bool b] 66)) (.cells #[.int .i64 G, .slice none 0 0, .slice none 0 0] 25)
  rw [al_size] at this
  exact this
theorem AtY.start {w w2 : World} {G : Int} {A : Option Addr} {n c : Nat} {b : Bool} {o : Option (List Int)} (h : InV w (.agg #[.slice A n c, .bool b]) o) : AtY w w2.heap.size ((w2.alloc (.cells #[.slice A n c, .bool b] 66)).alloc (.cells #[.int .i64 G, .slice none 0 0, .slice none 0 0] 25)) o :=
  ⟨A, n, c, b, blk_alloc (blk_new w2 _) _, h⟩

theorem AtY.moveB {w wr w1 : World} {By B : Nat} {o : Option (List Int)} (h : AtY w By wr o) (hb : Below B wr w1) (hB : By < B) : AtY w By w1 o := by
  obtain ⟨A, n, c, b, h1, h2⟩ := h
  exact ⟨A, n, c, b, (hb.block By hB).trans h1, h2⟩
theorem setS {wI wi w7 : World} {By : Nat} {A : Option Addr} {n c : Nat} {b : Bool} {o1 o2 : Obj} (h : wI.heap.size ≤ wi.heap.size) (hb : Below wi.heap.size wi w7) : wI.heap.size ≤ (setY ((w7.alloc o1).alloc o2) By A n c b).heap.size := by
  rw [setY_size, al_size, al_size]
  have := hb.size
  omega
def EvP2 (w0 w : World) (ev : Value) (o : Option (List Int)) (e : Ending) (w' : World) : Prop := ∃ (A : Option Addr) (n c : Nat) (b : Bool), e = .returned (.tuple #[ev, .agg #[.slice A n c, .bool b]]) ∧ InV w0 (.agg #[.slice A n c, .bool b]) o ∧ Below w.heap.size w w'
theorem EvP.two {w0 w w' : World} {o : Option (List Int)} {e : Ending} (h : EvP w0 w o e w') : EvP2 w0 w (evV (oE o)) (oEr o) e w' := by
  obtain ⟨v, h1, h2, h3⟩ := h
  obtain ⟨A, n, c, b, rfl⟩ := h2.form
  exact ⟨A, n, c, b, h1, h2, h3⟩
set_option maxHeartbeats 4000000 in
set_option maxRecDepth 100000 in
theorem refUnpack_any (w : World) (A : Option Addr) (c m : Nat) (xs : List Int) (hm : m = xs.length) (hmc : m ≤ c) (hC : Kd.C (Kd.int .u8) w A m xs) (hy : By xs) (hx : m ≤ 1099511627776) : Calls Try.prog 15 #[.slice A m c] w fun e w' => UnP w (unpack xs) e w' := by
  have hin : InV w (.agg #[.slice A m c, .bool true]) (some xs) := ⟨A, m, c, rfl, hm, hmc, hC⟩
  have hfit : Fit m (some xs) := fun ys h => by cases h; exact ⟨hy, by omega⟩
  have hm2 : m ≤ 140737488355328 := by omega
  have hL0 := fun (i : Nat) rs ts (h : OutP m (uO2 xs) (uN xs).toNat i none rs ts) => OutP.last_none hy (hm ▸ h)
  have hL1 := fun (i : Nat) (r : List Int) rs ts (h : OutP m (uO2 xs) (uN xs).toNat i (some r) rs ts) (hi : i = (uN xs).toNat) => OutP.last_some hy (hm ▸ h) hi
  have hf1 : Fit m (uO1 xs) := fit_N hfit _
  have hf2 : Fit m (uO2 xs) := fit_N hf1 _
  have hNb : 0 ≤ uN xs ∧ uN xs ≤ (m : Int) := by
    have := oN_bd (hf1.fine hm2) (m : Int) (by omega)
    unfold uN
    rw [← hm]
    exact this
  obtain ⟨G, hG⟩ : ∃ G, uG xs = G := ⟨_, rfl⟩
  have C1 : Hid (∀ W, Below w.heap.size w W → Calls Try.prog 38 #[.agg #[.slice A m c, .bool true], .int .i64 1048576] W fun e w' => GetV2 w W w' e (.int .i64 G) (uO1 xs)) := Lib.hid (fun W hb => by
    have := get_any2 w W hb 1048576 _ (some xs) hin (hfit.fine hm2)
    rw [show oN (some xs) 1048576 = G from hG] at this
    exact this)
  obtain ⟨N, hN⟩ : ∃ N, uN xs = N := ⟨_, rfl⟩
  have C2 : Hid (∀ W v, Below w.heap.size w W → InV w v (uO1 xs) → Calls Try.prog 38 #[v, .int .i64 (m : Int)] W fun e w' => GetV2 w W w' e (.int .i64 N) (uO2 xs)) := Lib.hid (fun W v hb hi => by
    have := get_any2 w W hb (m : Int) v (uO1 xs) hi (hf1.fine hm2)
    have e1 : oN (uO1 xs) (m : Int) = N := by rw [← hN]; unfold uN; rw [← hm]
    have e2 : oNr (uO1 xs) (m : Int) = uO2 xs := by unfold uO2; rw [← hm]
    rw [e1, e2] at this
    exact this)
  rw [hN] at hNb hL0 hL1
  obtain ⟨nn, rfl⟩ := Int.eq_ofNat_of_zero_le hNb.1
  simp only [Int.toNat_natCast] at hL0 hL1
  obtain ⟨o1, ho1⟩ : ∃ o, uO1 xs = o := ⟨_, rfl⟩
  obtain ⟨o2, ho2⟩ : ∃ o, uO2 xs = o := ⟨_, rfl⟩
  rw [ho1] at C1 C2
  rw [ho2] at C2 hL0 hL1 hf2
  rw [hG] at hL1
  have hnn : nn ≤ m := by omega
  have HFIT := Lib.hid hf2
  have HL0 := Lib.hid hL0
  have HL1 := Lib.hid hL1
  have hbA : Below w.heap.size w (w.alloc (.cells #[.int .i64 0, .slice none 0 0, .slice none 0 0] 25)) := al_below w _
  have hrA : (w.alloc (.cells #[.int .i64 0, .slice none 0 0, .slice none 0 0] 25)).heap[w.heap.size]? = some (.cells zEnt 25 (0, 0)) := blk_new w _
  obtain ⟨U, hU⟩ : ∃ U, unpack xs = U := ⟨_, rfl⟩
  rw [hU] at HL0 HL1 ⊢
  clear hin hfit hL0 hL1 hf1 hf2 hG hN ho1 ho2 hU hNb hC hm hm2
  have hrA' := Lib.hid hrA
  clear hrA
  go_enter Try.func15, Try.ntmps15
  go_wp2_with (first
    | (go_at_call 38; (have hguard := HI1; clear hguard); go_loud ((with_reducible refine (C2.out _ _ (HB1.out.alloc HB1.out.size (.cells #[.slice A1 n1 c1, .bool b1] 66)) HI1.out).mono ?_); rintro e5 w2 ⟨A2, n2, c2, b2, rfl, hin, hb⟩; have HB2 := Lib.hid ((HB1.out.alloc HB1.out.size (.cells #[.slice A1 n1 c1, .bool b1] 66)).trans (hb.mono (HB1.out.alloc HB1.out.size (.cells #[.slice A1 n1 c1, .bool b1] 66)).size)); have HR2 := Lib.hid (blk_below (blk_alloc HR1.out (.cells #[.slice A1 n1 c1, .bool b1] 66)) hb); have HI2 := Lib.hid hin; clear hb hin))
    | (go_at_call 38; go_loud ((with_reducible refine (C1.out _ hbA).mono ?_); rintro e5 w1 ⟨A1, n1, c1, b1, rfl, hin, hb⟩; have HB1 := Lib.hid (hbA.trans (hb.mono hbA.size)); have HR1 := Lib.hid (blk_below hrA'.out hb); have HI1 := Lib.hid hin; clear hb hin)))
  have HO3 : Hid (OutW w w2.heap.size G ((w2.alloc (.cells #[.slice A2 n2 c2, .bool b2] 66)).alloc (.cells #[.int .i64 G, .slice none 0 0, .slice none 0 0] 25)) [] []) := Lib.hid (OutW.start A2 n2 c2 b2 HB2.out HR2.out)
  have HY3 : Hid (AtY w w2.heap.size ((w2.alloc (.cells #[.slice A2 n2 c2, .bool b2] 66)).alloc (.cells #[.int .i64 G, .slice none 0 0, .slice none 0 0] 25)) o2) := Lib.hid (AtY.start HI2.out)
  have HP3 := Lib.hid (OutP.first (o2 := o2) nn HFIT.out)
  clear HB1 HB2 HR1 HR2 HI1 HI2 C1 C2 HFIT hbA hrA'
  go_loopw [9] (fun i wr => ∃ (k : Nat) (rs : List S42) (ts : List (List S44)) (o : Option (List Int)), i = .int .i64 (k : Int) ∧ k ≤ nn ∧ Hid (OutW w w2.heap.size G wr rs ts) ∧ Hid (AtY w w2.heap.size wr o) ∧ Hid (OutP m o2 nn k o rs ts)) (fun i _ => nn - (iOf i).toNat)
  case atStart => exact ⟨0, [], [], o2, rfl, by omega, HO3, HY3, HP3⟩
  case round =>
    clear HO3 HY3 HP3
    obtain ⟨k, rs, ts, o, rfl, hk, HO, HY, HP⟩ := hrel
    obtain ⟨wo, rfl⟩ : ∃ wo : World, wo = wr := ⟨_, rfl⟩
    cases o with
    | none =>
      have HU : Hid (U = none) := Lib.hid (HL0.out _ _ _ HP.out)
      have hyb := atY_none HY.out
      have y1 := blk_cell hyb 1
      simp only [List.getElem?_toArray, List.getElem?_cons_zero, List.getElem?_cons_succ] at y1
      clear hyb
      by_cases hlt : k < nn
      · have g1 : decide ((k : Int) < (nn : Int)) = true := by simp; omega
        have hres := HO.out.res
        have r0 := blk_cell hres 0
        have r1 := blk_cell hres 1
        have r2 := blk_cell hres 2
        simp only [zEnt, List.getElem?_toArray, List.getElem?_cons_zero, List.getElem?_cons_succ] at r0 r1 r2
        have r3 := blk_frozen hres 0
        have r4 := blk_frozen hres 1
        have r5 := blk_frozen hres 2
        have HRES := Lib.hid hres
        clear hres
        go_wp2_with fail
        have hg : (((wo.setCell ⟨w.heap.size, 0, none⟩ (.int .i64 0)).setCell ⟨w.heap.size, 1, none⟩ (.slice none 0 0)).setCell ⟨w.heap.size, 2, none⟩ (.slice none 0 0)).heap[w.heap.size]? = some (.cells #[.int .i64 0, .slice none 0 0, .slice none 0 0] 25 (0, 0)) := blk_set (blk_set (blk_set HRES.out 0 _) 1 _) 2 _
        refine bodyPost_ret (results_ct (p := 2) (u := 3) rfl _ _ w.heap.size 25 _ (0, 0) _ rfl hg Try.underlying25 rfl info25) rfl ?_
        rw [HU.out]
        exact ⟨((HO.out.below.setCell (p := ⟨w.heap.size, 0, none⟩) (Nat.le_refl _) _).setCell (p := ⟨w.heap.size, 1, none⟩) (Nat.le_refl _) _).setCell (p := ⟨w.heap.size, 2, none⟩) (Nat.le_refl _) _, rfl⟩
      · have g1 : decide ((k : Int) < (nn : Int)) = false := by simp; omega
        have hres := HO.out.res
        have r0 := blk_cell hres 0
        have r1 := blk_cell hres 1
        have r2 := blk_cell hres 2
        simp only [zEnt, List.getElem?_toArray, List.getElem?_cons_zero, List.getElem?_cons_succ] at r0 r1 r2
        have r3 := blk_frozen hres 0
        have r4 := blk_frozen hres 1
        have r5 := blk_frozen hres 2
        have HRES := Lib.hid hres
        clear hres
        go_wp2_with fail
        have hg : (((wo.setCell ⟨w.heap.size, 0, none⟩ (.int .i64 0)).setCell ⟨w.heap.size, 1, none⟩ (.slice none 0 0)).setCell ⟨w.heap.size, 2, none⟩ (.slice none 0 0)).heap[w.heap.size]? = some (.cells #[.int .i64 0, .slice none 0 0, .slice none 0 0] 25 (0, 0)) := blk_set (blk_set (blk_set HRES.out 0 _) 1 _) 2 _
        refine bodyPost_ret (results_ct (p := 2) (u := 3) rfl _ _ w.heap.size 25 _ (0, 0) _ rfl hg Try.underlying25 rfl info25) rfl ?_
        rw [HU.out]
        exact ⟨((HO.out.below.setCell (p := ⟨w.heap.size, 0, none⟩) (Nat.le_refl _) _).setCell (p := ⟨w.heap.size, 1, none⟩) (Nat.le_refl _) _).setCell (p := ⟨w.heap.size, 2, none⟩) (Nat.le_refl _) _, rfl⟩
    | some ys =>
      obtain ⟨Ay, ny, cy, hyb, hyi, hyn⟩ := atY_some HY.out
      have y0 := blk_cell hyb 0
      have y1 := blk_cell hyb 1
      simp only [List.getElem?_toArray, List.getElem?_cons_zero, List.getElem?_cons_succ] at y0 y1
      by_cases hlt : k < nn
      · have g1 : decide ((k : Int) < (nn : Int)) = true := by simp; omega
        have hfz : Fit m (rA ys) := fit_T HP.out.fit _
        have hfc : Fit m (rC ys) := fit_N hfz _
        have hfzz : Fit m (rZ m ys) := fit_N hfc _
        have hKb : 0 ≤ rK m ys ∧ rK m ys ≤ (m : Int) := oN_bd (hfc.fine (by omega)) _ (by omega)
        obtain ⟨nm, hnm⟩ : ∃ x, rName ys = x := ⟨_, rfl⟩
        obtain ⟨oa, hoa⟩ : ∃ x, rA ys = x := ⟨_, rfl⟩
        obtain ⟨V, hV⟩ : ∃ x, rV ys = x := ⟨_, rfl⟩
        obtain ⟨oc, hoc⟩ : ∃ x, rC ys = x := ⟨_, rfl⟩
        obtain ⟨oz, hoz⟩ : ∃ x, rZ m ys = x := ⟨_, rfl⟩
        obtain ⟨K, hK⟩ : ∃ x, rK m ys = x := ⟨_, rfl⟩
        have D1 : Hid (∀ W, Below w.heap.size w W → Calls Try.prog 39 #[.agg #[.slice Ay ny cy, .bool true], .int .i64 80] W fun e w' => GetV2 w W w' e (.string nm) oa) := Lib.hid (fun W hb => by
          have := txt_any2 w W hb 80 _ (some ys) hyi (HP.out.fit.fine (by omega))
          rw [show oT (some ys) 80 = nm from hnm, show oTr (some ys) 80 = oa from hoa] at this
          exact this)
        have D2 : Hid (∀ W v, Below w.heap.size w W → InV w v oa → Calls Try.prog 38 #[v, .int .i64 7] W fun e w' => GetV2 w W w' e (.int .i64 V) oc) := Lib.hid (fun W v hb hi => by
          have := get_any2 w W hb 7 v oa hi (by rw [← hoa]; exact hfz.fine (by omega))
          rw [show oN oa 7 = V by rw [← hoa]; exact hV, show oNr oa 7 = oc by rw [← hoa]; exact hoc] at this
          exact this)
        have D3 : Hid (∀ W v, Below w.heap.size w W → InV w v oc → Calls Try.prog 38 #[v, .int .i64 (m : Int)] W fun e w' => GetV2 w W w' e (.int .i64 K) oz) := Lib.hid (fun W v hb hi => by
          have := get_any2 w W hb (m : Int) v oc hi (by rw [← hoc]; exact hfc.fine (by omega))
          rw [show oN oc (m : Int) = K by rw [← hoc]; exact hK, show oNr oc (m : Int) = oz by rw [← hoc]; exact hoz] at this
          exact this)
        have hst := fun (o : Option (List Int)) (done : List S44) (j : Nat) (h1 : InnP m (rZ m ys) (rK m ys).toNat j o done) (h2 : o = none ∨ j = (rK m ys).toNat) (h3 : j ≤ m) => HP.out.step hlt h1 h2 h3
        rw [hnm, hV, hoz, hK] at hst
        rw [hK] at hKb
        rw [hoz] at hfzz
        obtain ⟨kk, rfl⟩ := Int.eq_ofNat_of_zero_le hKb.1
        simp only [Int.toNat_natCast] at hst
        have hkk : kk ≤ m := by omega
        have HST := Lib.hid hst
        have HFZ := Lib.hid hfzz
        have HYB := Lib.hid hyb
        clear hst hfzz hfc hfz hKb hnm hoa hV hoc hoz hK hyb hyi hyn
        go_wp2_with (first
          | (go_at_call 38; (have hguard := HI4; clear hguard); go_loud ((with_reducible refine (D3.out _ _ (HB4.out.alloc HB4.out.size (.cells #[.slice A4 n4 c4, .bool b4] 66)) HI4.out).mono ?_); rintro e5 w5 ⟨A5, n5, c5, b5, rfl, hin, hb⟩; have HB5 := Lib.hid ((HB4.out.alloc HB4.out.size (.cells #[.slice A4 n4 c4, .bool b4] 66)).trans (hb.mono (HB4.out.alloc HB4.out.size (.cells #[.slice A4 n4 c4, .bool b4] 66)).size)); have HK5 := Lib.hid ((HK4.out.alloc HK4.out.size (.cells #[.slice A4 n4 c4, .bool b4] 66)).trans (hb.mono (HK4.out.alloc HK4.out.size (.cells #[.slice A4 n4 c4, .bool b4] 66)).size)); have HI5 := Lib.hid hin; have hy5 := blk_alloc (blk_below HYB.out HK5.out) (.cells #[.slice A5 n5 c5, .bool b5] 66); have t0 := blk_cell hy5 0; have t1 := blk_cell hy5 1; have t2 := blk_frozen hy5 0; have t3 := blk_frozen hy5 1; (simp only [List.getElem?_toArray, List.getElem?_cons_zero, List.getElem?_cons_succ] at t0 t1); have HO5 : Hid (OutW w w2.heap.size G (setY (w5.alloc (.cells #[.slice A5 n5 c5, .bool b5] 66)) w2.heap.size A5 n5 c5 b5) rs ts) := Lib.hid (OutW.setY ((HO.out.move HK5.out).move (al_below w5 _))); have HY5 : Hid (AtY w w2.heap.size (setY (w5.alloc (.cells #[.slice A5 n5 c5, .bool b5] 66)) w2.heap.size A5 n5 c5 b5) oz) := Lib.hid (setY_at ((HY.out.below HK5.out).below (al_below w5 _)) hin); clear hy5; clear hb hin))
          | (go_at_call 38; (have hguard := HI3; clear hguard); go_loud ((with_reducible refine (D2.out _ _ (HB3.out.alloc HB3.out.size (.cells #[.slice A3 n3 c3, .bool b3] 66)) HI3.out).mono ?_); rintro e5 w4 ⟨A4, n4, c4, b4, rfl, hin, hb⟩; have HB4 := Lib.hid ((HB3.out.alloc HB3.out.size (.cells #[.slice A3 n3 c3, .bool b3] 66)).trans (hb.mono (HB3.out.alloc HB3.out.size (.cells #[.slice A3 n3 c3, .bool b3] 66)).size)); have HK4 := Lib.hid ((HK3.out.alloc HK3.out.size (.cells #[.slice A3 n3 c3, .bool b3] 66)).trans (hb.mono (HK3.out.alloc HK3.out.size (.cells #[.slice A3 n3 c3, .bool b3] 66)).size)); have HI4 := Lib.hid hin; clear hb hin))
          | (go_at_call 39; go_loud ((with_reducible refine (D1.out _ HO.out.below).mono ?_); rintro e5 w3 ⟨A3, n3, c3, b3, rfl, hin, hb⟩; have HB3 := Lib.hid (HO.out.below.trans (hb.mono HO.out.below.size)); have HK3 := Lib.hid hb; have HI3 := Lib.hid hin; clear hb hin))
          | ((with_reducible refine gate_dst (N := 62) rfl ?_); go_loud (refine Kd.R_lit k44 (setY (w5.alloc (.cells #[.slice A5 n5 c5, .bool b5] 66)) w2.heap.size A5 n5 c5 b5).heap.size 44 ?hg (N := 62) ?hd (xs := ([] : List S44)) (inner := []) (ok := fun _ => True) (okp := fun _ => True) ?hr ?hp (fun _ hk => hk) trivial (Below.refl (setY (w5.alloc (.cells #[.slice A5 n5 c5, .bool b5] 66)) w2.heap.size A5 n5 c5 b5).heap.size (setY (w5.alloc (.cells #[.slice A5 n5 c5, .bool b5] 66)) w2.heap.size A5 n5 c5 b5)) (Nat.le_refl _) (by simp) ?_; (case hd => rfl); (case hg => rfl); (case hr => first | (go_simp; done) | (go_simp; rfl)); (case hp => exact (Reps.none _ _)); intro v6 w6 hr6 hb6 _ _; (obtain ⟨A6, n6, c6, rfl⟩ : ∃ A n c, v6 = .slice A n c := by obtain ⟨A, c, e⟩ := Kd.R_slice hr6; exact ⟨A, _, c, e⟩); have HR6 := Lib.hid hr6; have HB6 := Lib.hid hb6; clear hr6 hb6)))
        obtain ⟨wI, hwI⟩ : ∃ wI, wI = (setY (w5.alloc (.cells #[.slice A5 n5 c5, .bool b5] 66)) w2.heap.size A5 n5 c5 b5) := ⟨_, rfl⟩
        rw [← hwI] at HO5 HY5 HR6 HB6
        have hByI : w2.heap.size < wI.heap.size := by have := HO5.out.size; omega
        have HJ0 : Hid (InnW w wI w2.heap.size w6 (.slice A6 n6 c6) []) := Lib.hid ⟨HO5.out.below.trans (HB6.out.mono HO5.out.below.size), ⟨HB6.out.size, fun i hi _ _ => HB6.out.block i hi⟩, HR6.out⟩
        have HYJ := Lib.hid (HY5.out.below HB6.out)
        have HPJ := Lib.hid (InnP.first kk HFZ.out)
        clear hwI HY5 HR6 HB6 HFZ D1 D2 D3 HB3 HB4 HB5 HK3 HK4 HK5 HI3 HI4 HI5 t0 t1 t2 t3
        go_loopw [16, 17] (fun s j wr => ∃ (jj : Nat) (Ad : Option Addr) (nd cd : Nat) (done : List S44) (o : Option (List Int)), s = .slice Ad nd cd ∧ j = .int .i64 (jj : Int) ∧ jj ≤ kk ∧ Hid (InnW w wI w2.heap.size wr (.slice Ad nd cd) done) ∧ Hid (AtY w w2.heap.size wr o) ∧ Hid (InnP m oz kk jj o done)) (fun _ j _ => kk - (iOf j).toNat)
        case atStart => exact ⟨0, A6, n6, c6, [], oz, rfl, rfl, by omega, HJ0, HYJ, HPJ⟩
        case round =>
          clear HJ0 HYJ HPJ
          obtain ⟨jj, Ad, nd, cd, done, oi, rfl, rfl, hjj, HJ, HYI, HPi⟩ := hrel
          obtain ⟨wi, rfl⟩ : ∃ wi : World, wi = wr := ⟨_, rfl⟩
          cases oi with
          | none =>
            have HPO := Lib.hid (HST.out _ _ _ HPi.out (.inl rfl) (by omega))
            have hyb := atY_none HYI.out
            have yi1 := blk_cell hyb 1
            simp only [List.getElem?_toArray, List.getElem?_cons_zero, List.getElem?_cons_succ] at yi1
            clear hyb
            by_cases hltj : jj < kk
            · have g3 : decide ((jj : Int) < (kk : Int)) = true := by simp; omega
              obtain ⟨A1', n1', c1', A2', n2', c2', q1, q2, q3⟩ := HO5.out.e
              have HOK1 := Lib.hid (own_small q2)
              have HOK2 := Lib.hid (own_small q3)
              have hq1 := HJ.out.keep.blk q1 (by omega) (by simp)
              have z1 := blk_cell hq1 1
              simp only [List.getElem?_toArray, List.getElem?_cons_zero, List.getElem?_cons_succ] at z1
              have z2 := blk_frozen hq1 1
              have HQ1 := Lib.hid hq1
              have HQ2 := Lib.hid (R_keepB q2 HJ.out.keep (by omega : w2.heap.size < w2.heap.size + 2))
              have HQ3 := Lib.hid (R_keepB q3 HJ.out.keep (by omega : w2.heap.size < w2.heap.size + 2))
              have HQ := Lib.hid (HO5.out.keep HJ.out.keep HJ.out.below)
              have HROW := Lib.hid (Kd.R_lower (Kd.R_mono (Kd.R_bound HJ.out.row) (fun k hk => hk.2.1)) HO5.out.size)
              have HQY := HYI
              have HLR : Hid ((rs.length + 1) * 24 ≤ 140737488355328) := Lib.hid (by rw [HP.out.lr]; omega)
              have HLT : Hid ((ts.length + 1) * 24 ≤ 140737488355328) := Lib.hid (by rw [HP.out.lt]; omega)
              clear q1 q2 q3 hq1
              go_wp2_with (first
                | ((with_reducible refine gate_builtin (b := .append) (xs := #[.tmp 91, .tmp 93]) rfl ?_); at_builtin; go_loud (refine Kd.R_append (Kd.slice 44 k44) (w0 := wx.setCell ⟨w2.heap.size + 1, 1, none⟩ (.slice Ax nx cx)) (w2.heap.size + 2) rfl (.tmp 91) (.tmp 93) 23 46 _ 24 rfl Try.underlying23 info46 rfl (by decide) (by omega) (.slice A2' n2' c2') (ts) done [.slice Ad nd cd] (fun _ => True) (fun k => wI.heap.size ≤ k) rfl (by first | rfl | ((try simp only [setY, World.size_setCell, al_size]); rfl)) ?aP HOK2.out ?aF ?aO ?aB ?aS ?aL ?_; (case aP => exact ⟨_, rfl, HXR.out⟩); (case aF => exact fun _ _ => trivial); (case aO => exact HX3.out); (case aB => exact Below.refl _ _); (case aS => exact HX.out.size); (case aL => exact HLT.out); intro vz wz hr hb hgr _; (obtain ⟨Az, nz, cz, rfl⟩ : ∃ A n c, vz = .slice A n c := by obtain ⟨A, c, e⟩ := Kd.R_slice hr; exact ⟨A, _, c, e⟩); have hz := (hb.block (w2.heap.size + 1) (by omega)).trans HX1.out; have p0 : wz.cell? ⟨w2.heap.size + 1, 2, none⟩ = some (.slice A2' n2' c2') := blk_cell hz 2; have p1 := blk_frozen hz 2; have HZ := Lib.hid (HX.out.trOne HX1.out HX2.out HX3.out hr hb hgr); have HZY := Lib.hid (HXY.out.set1 (j := 2) (u := .slice Az nz cz) hb); clear hz; clear hr hb hgr))
                | ((with_reducible refine gate_builtin (b := .append) (xs := #[.tmp 83, .tmp 87]) rfl ?_); at_builtin; go_loud (refine Kd.R_append k42 (w0 := wi) (w2.heap.size + 2) rfl (.tmp 83) (.tmp 87) 22 42 _ 24 rfl Try.underlying22 info42 rfl (by decide) (by omega) (.slice A1' n1' c1') (rs) ⟨nm, V⟩ [.string nm, .int .i64 V] (fun _ => True) (fun _ => False) rfl (by first | rfl | ((try simp only [setY, World.size_setCell, al_size]); rfl)) ?aP (fun _ hk => hk.elim) ?aF ?aO ?aB ?aS ?aL ?_; (case aP => exact k42_mkM _ _ _ ⟨nm, V⟩); (case aF => exact fun _ _ => trivial); (case aO => exact HQ2.out); (case aB => exact Below.refl _ _); (case aS => exact HQ.out.size); (case aL => exact HLR.out); intro vx wx hr hb hgr _; (obtain ⟨Ax, nx, cx, rfl⟩ : ∃ A n c, vx = .slice A n c := by obtain ⟨A, c, e⟩ := Kd.R_slice hr; exact ⟨A, _, c, e⟩); have hz := (hb.block (w2.heap.size + 1) (by omega)).trans HQ1.out; have x0 : wx.cell? ⟨w2.heap.size + 1, 1, none⟩ = some (.slice A1' n1' c1') := blk_cell hz 1; have x2 : wx.cell? ⟨w2.heap.size + 1, 2, none⟩ = some (.slice A2' n2' c2') := blk_cell hz 2; have x1 := blk_frozen hz 1; have x3 := blk_frozen hz 2; have HX := Lib.hid (HQ.out.resOne HQ1.out HQ2.out HQ3.out hr hb hgr); have HXY := Lib.hid (HQY.out.set1 (j := 1) (u := .slice Ax nx cx) hb); have HX1 := Lib.hid (blk_set hz 1 (.slice Ax nx cx)); have HX2 := Lib.hid (rfar (g := w2.heap.size + 1) (j := 1) (u := .slice Ax nx cx) hr (by omega)); have HX3 := Lib.hid (rfar (g := w2.heap.size + 1) (j := 1) (u := .slice Ax nx cx) (R_apart HQ2.out HQ3.out hgr (by decide)) (by omega)); have HXR := Lib.hid (Kd.R_far (p := ⟨w2.heap.size + 1, 1, none⟩) (Kd.R_grown HROW.out hgr (fun k hk => (HOK1.out k hk).2)) (fun k hk => by show k ≠ w2.heap.size + 1; have := HO5.out.size; omega) (.slice Ax nx cx)); clear hz; clear hr hb hgr)))
              go_roundw
              case rel => exact ⟨k + 1, _, _, _, rfl, by omega, HZ, HZY, HPO⟩
              case measure => simp [iOf]; omega
            · have g3 : decide ((jj : Int) < (kk : Int)) = false := by simp; omega
              obtain ⟨A1', n1', c1', A2', n2', c2', q1, q2, q3⟩ := HO5.out.e
              have HOK1 := Lib.hid (own_small q2)
              have HOK2 := Lib.hid (own_small q3)
              have hq1 := HJ.out.keep.blk q1 (by omega) (by simp)
              have z1 := blk_cell hq1 1
              simp only [List.getElem?_toArray, List.getElem?_cons_zero, List.getElem?_cons_succ] at z1
              have z2 := blk_frozen hq1 1
              have HQ1 := Lib.hid hq1
              have HQ2 := Lib.hid (R_keepB q2 HJ.out.keep (by omega : w2.heap.size < w2.heap.size + 2))
              have HQ3 := Lib.hid (R_keepB q3 HJ.out.keep (by omega : w2.heap.size < w2.heap.size + 2))
              have HQ := Lib.hid (HO5.out.keep HJ.out.keep HJ.out.below)
              have HROW := Lib.hid (Kd.R_lower (Kd.R_mono (Kd.R_bound HJ.out.row) (fun k hk => hk.2.1)) HO5.out.size)
              have HQY := HYI
              have HLR : Hid ((rs.length + 1) * 24 ≤ 140737488355328) := Lib.hid (by rw [HP.out.lr]; omega)
              have HLT : Hid ((ts.length + 1) * 24 ≤ 140737488355328) := Lib.hid (by rw [HP.out.lt]; omega)
              clear q1 q2 q3 hq1
              go_wp2_with (first
                | ((with_reducible refine gate_builtin (b := .append) (xs := #[.tmp 91, .tmp 93]) rfl ?_); at_builtin; go_loud (refine Kd.R_append (Kd.slice 44 k44) (w0 := wx.setCell ⟨w2.heap.size + 1, 1, none⟩ (.slice Ax nx cx)) (w2.heap.size + 2) rfl (.tmp 91) (.tmp 93) 23 46 _ 24 rfl Try.underlying23 info46 rfl (by decide) (by omega) (.slice A2' n2' c2') (ts) done [.slice Ad nd cd] (fun _ => True) (fun k => wI.heap.size ≤ k) rfl (by first | rfl | ((try simp only [setY, World.size_setCell, al_size]); rfl)) ?aP HOK2.out ?aF ?aO ?aB ?aS ?aL ?_; (case aP => exact ⟨_, rfl, HXR.out⟩); (case aF => exact fun _ _ => trivial); (case aO => exact HX3.out); (case aB => exact Below.refl _ _); (case aS => exact HX.out.size); (case aL => exact HLT.out); intro vz wz hr hb hgr _; (obtain ⟨Az, nz, cz, rfl⟩ : ∃ A n c, vz = .slice A n c := by obtain ⟨A, c, e⟩ := Kd.R_slice hr; exact ⟨A, _, c, e⟩); have hz := (hb.block (w2.heap.size + 1) (by omega)).trans HX1.out; have p0 : wz.cell? ⟨w2.heap.size + 1, 2, none⟩ = some (.slice A2' n2' c2') := blk_cell hz 2; have p1 := blk_frozen hz 2; have HZ := Lib.hid (HX.out.trOne HX1.out HX2.out HX3.out hr hb hgr); have HZY := Lib.hid (HXY.out.set1 (j := 2) (u := .slice Az nz cz) hb); clear hz; clear hr hb hgr))
                | ((with_reducible refine gate_builtin (b := .append) (xs := #[.tmp 83, .tmp 87]) rfl ?_); at_builtin; go_loud (refine Kd.R_append k42 (w0 := wi) (w2.heap.size + 2) rfl (.tmp 83) (.tmp 87) 22 42 _ 24 rfl Try.underlying22 info42 rfl (by decide) (by omega) (.slice A1' n1' c1') (rs) ⟨nm, V⟩ [.string nm, .int .i64 V] (fun _ => True) (fun _ => False) rfl (by first | rfl | ((try simp only [setY, World.size_setCell, al_size]); rfl)) ?aP (fun _ hk => hk.elim) ?aF ?aO ?aB ?aS ?aL ?_; (case aP => exact k42_mkM _ _ _ ⟨nm, V⟩); (case aF => exact fun _ _ => trivial); (case aO => exact HQ2.out); (case aB => exact Below.refl _ _); (case aS => exact HQ.out.size); (case aL => exact HLR.out); intro vx wx hr hb hgr _; (obtain ⟨Ax, nx, cx, rfl⟩ : ∃ A n c, vx = .slice A n c := by obtain ⟨A, c, e⟩ := Kd.R_slice hr; exact ⟨A, _, c, e⟩); have hz := (hb.block (w2.heap.size + 1) (by omega)).trans HQ1.out; have x0 : wx.cell? ⟨w2.heap.size + 1, 1, none⟩ = some (.slice A1' n1' c1') := blk_cell hz 1; have x2 : wx.cell? ⟨w2.heap.size + 1, 2, none⟩ = some (.slice A2' n2' c2') := blk_cell hz 2; have x1 := blk_frozen hz 1; have x3 := blk_frozen hz 2; have HX := Lib.hid (HQ.out.resOne HQ1.out HQ2.out HQ3.out hr hb hgr); have HXY := Lib.hid (HQY.out.set1 (j := 1) (u := .slice Ax nx cx) hb); have HX1 := Lib.hid (blk_set hz 1 (.slice Ax nx cx)); have HX2 := Lib.hid (rfar (g := w2.heap.size + 1) (j := 1) (u := .slice Ax nx cx) hr (by omega)); have HX3 := Lib.hid (rfar (g := w2.heap.size + 1) (j := 1) (u := .slice Ax nx cx) (R_apart HQ2.out HQ3.out hgr (by decide)) (by omega)); have HXR := Lib.hid (Kd.R_far (p := ⟨w2.heap.size + 1, 1, none⟩) (Kd.R_grown HROW.out hgr (fun k hk => (HOK1.out k hk).2)) (fun k hk => by show k ≠ w2.heap.size + 1; have := HO5.out.size; omega) (.slice Ax nx cx)); clear hz; clear hr hb hgr)))
              go_roundw
              case rel => exact ⟨k + 1, _, _, _, rfl, by omega, HZ, HZY, HPO⟩
              case measure => simp [iOf]; omega
          | some r =>
            obtain ⟨Ar, nr, cr, hybi, hri, hrn⟩ := atY_some HYI.out
            have yi0 := blk_cell hybi 0
            have yi1 := blk_cell hybi 1
            simp only [List.getElem?_toArray, List.getElem?_cons_zero, List.getElem?_cons_succ] at yi0 yi1
            clear hrn
            by_cases hltj : jj < kk
            · have g3 : decide ((jj : Int) < (kk : Int)) = true := by simp; omega
              have hyb2 := hybi
              have HYB2 := Lib.hid hybi
              obtain ⟨eK, eN, eS, eT, hev⟩ : ∃ eK eN eS eT, oE (some r) = ⟨eK, eN, eS, eT⟩ := ⟨_, _, _, _, rfl⟩
              obtain ⟨oe, hoe⟩ : ∃ oe, oEr (some r) = oe := ⟨_, rfl⟩
              have hstep := HPi.out.step hltj
              have E1 : Hid (∀ W, Below w.heap.size w W → Calls Try.prog 40 #[.agg #[.slice Ar nr cr, .bool true]] W fun e w' => EvP2 w W (.agg #[.int .i64 eK, .int .i64 eN, .string eS, .int .i64 eT]) oe e w') := Lib.hid (fun W hb => by
                have := (event_any w W hb _ (some r) hri (HPi.out.fit.fine (by omega))).mono fun _ _ h => h.two
                rw [hev, hoe] at this
                exact this)
              rw [hev, hoe] at hstep
              have HSTEP := Lib.hid hstep
              have HLE : Hid ((done.length + 1) * 40 ≤ 140737488355328) := Lib.hid (by rw [HPi.out.lj]; omega)
              clear hyb2 hybi hev hoe hstep hri
              go_wp2_with (first
                | (go_at_call 40; go_loud ((with_reducible refine (E1.out _ HJ.out.below).mono ?_); rintro e5 w7 ⟨A7, n7, c7, b7, rfl, hin, hb⟩; have HB7 := Lib.hid hb; have HI7 := Lib.hid hin; have hy7 := blk_alloc (blk_alloc (blk_below HYB2.out hb) (.cells #[.int .i64 eK, .int .i64 eN, .string eS, .int .i64 eT] 44)) (.cells #[.slice A7 n7 c7, .bool b7] 66); have u0 := blk_cell hy7 0; have u1 := blk_cell hy7 1; have u2 := blk_frozen hy7 0; have u3 := blk_frozen hy7 1; (simp only [List.getElem?_toArray, List.getElem?_cons_zero, List.getElem?_cons_succ] at u0 u1); have HY7 := Lib.hid (setY_at (A := A7) (n := n7) (c := c7) (b := b7) (AtY.below (AtY.below (AtY.below HYI.out hb) (al_below w7 (.cells #[.int .i64 eK, .int .i64 eN, .string eS, .int .i64 eT] 44))) (al_below _ (.cells #[.slice A7 n7 c7, .bool b7] 66))) hin); have HE7 := Lib.hid (HJ.out.rowB (A := A7) (n := n7) (c := c7) (b := b7) (o1 := .cells #[.int .i64 eK, .int .i64 eN, .string eS, .int .i64 eT] 44) (o2 := .cells #[.slice A7 n7 c7, .bool b7] 66) hb hByI); have hne7 : w7.heap.size ≠ w2.heap.size := (by have := hb.size; have := HJ.out.keep.1; omega); have he7 := blk_far (blk_far (blk_alloc (blk_new w7 (.cells #[.int .i64 eK, .int .i64 eN, .string eS, .int .i64 eT] 44)) (.cells #[.slice A7 n7 c7, .bool b7] 66)) ⟨w2.heap.size, 0, none⟩ hne7 (.slice A7 n7 c7)) ⟨w2.heap.size, 1, none⟩ hne7 (.bool b7); have l0 := blk_cell he7 0; have l1 := blk_cell he7 1; have l2 := blk_cell he7 2; have l3 := blk_cell he7 3; (simp only [List.getElem?_toArray, List.getElem?_cons_zero, List.getElem?_cons_succ] at l0 l1 l2 l3); clear hb hin hy7 hne7 he7))
                | ((with_reducible refine gate_builtin (b := .append) (xs := #[.tmp 78, .tmp 80]) rfl ?_); at_builtin; go_loud (refine Kd.R_append k44 (w0 := (setY ((w7.alloc (.cells #[.int .i64 eK, .int .i64 eN, .string eS, .int .i64 eT] 44)).alloc (.cells #[.slice A7 n7 c7, .bool b7] 66)) w2.heap.size A7 n7 c7 b7)) wI.heap.size rfl (.tmp 78) (.tmp 80) 46 44 _ 40 rfl Try.underlying46 info44 rfl (by decide) (by omega) (.slice Ad nd cd) (done) ⟨eK, eN, eS, eT⟩ [.int .i64 eK, .int .i64 eN, .string eS, .int .i64 eT] (fun _ => True) (fun _ => False) rfl (by first | rfl | ((try simp only [setY, World.size_setCell, al_size]); rfl)) ?aP (fun _ hk => hk.elim) ?aF ?aO ?aB ?aS ?aL ?_; (case aP => exact k44_mkM _ _ _ ⟨eK, eN, eS, eT⟩); (case aF => exact fun _ _ => trivial); (case aO => exact HE7.out); (case aB => exact Below.refl _ _); (case aS => exact setS HJ.out.keep.1 HB7.out); (case aL => exact HLE.out); intro v8 w8 hr hb hgr _; (obtain ⟨A8, n8, c8, rfl⟩ : ∃ A n c, v8 = .slice A n c := by obtain ⟨A, c, e⟩ := Kd.R_slice hr; exact ⟨A, _, c, e⟩); have HJ8 := Lib.hid (HJ.out.more HB7.out hByI (Nat.le_of_lt HO.out.lo) hr hb); have HY8 : Hid (AtY w w2.heap.size w8 _) := Lib.hid (AtY.moveB HY7.out hb hByI); clear hr hb hgr)))
              go_roundw
              case rel => exact ⟨jj + 1, A8, n8, c8, _, _, rfl, by first | rfl | go_num, by omega, HJ8, HY8, HSTEP⟩
              case measure => simp [iOf]; omega
            · have g3 : decide ((jj : Int) < (kk : Int)) = false := by simp; omega
              have HPO := Lib.hid (HST.out _ _ _ HPi.out (.inr (by omega)) (by omega))
              clear hybi hri
              obtain ⟨A1', n1', c1', A2', n2', c2', q1, q2, q3⟩ := HO5.out.e
              have HOK1 := Lib.hid (own_small q2)
              have HOK2 := Lib.hid (own_small q3)
              have hq1 := HJ.out.keep.blk q1 (by omega) (by simp)
              have z1 := blk_cell hq1 1
              simp only [List.getElem?_toArray, List.getElem?_cons_zero, List.getElem?_cons_succ] at z1
              have z2 := blk_frozen hq1 1
              have HQ1 := Lib.hid hq1
              have HQ2 := Lib.hid (R_keepB q2 HJ.out.keep (by omega : w2.heap.size < w2.heap.size + 2))
              have HQ3 := Lib.hid (R_keepB q3 HJ.out.keep (by omega : w2.heap.size < w2.heap.size + 2))
              have HQ := Lib.hid (HO5.out.keep HJ.out.keep HJ.out.below)
              have HROW := Lib.hid (Kd.R_lower (Kd.R_mono (Kd.R_bound HJ.out.row) (fun k hk => hk.2.1)) HO5.out.size)
              have HQY := HYI
              have HLR : Hid ((rs.length + 1) * 24 ≤ 140737488355328) := Lib.hid (by rw [HP.out.lr]; omega)
              have HLT : Hid ((ts.length + 1) * 24 ≤ 140737488355328) := Lib.hid (by rw [HP.out.lt]; omega)
              clear q1 q2 q3 hq1
              go_wp2_with (first
                | ((with_reducible refine gate_builtin (b := .append) (xs := #[.tmp 91, .tmp 93]) rfl ?_); at_builtin; go_loud (refine Kd.R_append (Kd.slice 44 k44) (w0 := wx.setCell ⟨w2.heap.size + 1, 1, none⟩ (.slice Ax nx cx)) (w2.heap.size + 2) rfl (.tmp 91) (.tmp 93) 23 46 _ 24 rfl Try.underlying23 info46 rfl (by decide) (by omega) (.slice A2' n2' c2') (ts) done [.slice Ad nd cd] (fun _ => True) (fun k => wI.heap.size ≤ k) rfl (by first | rfl | ((try simp only [setY, World.size_setCell, al_size]); rfl)) ?aP HOK2.out ?aF ?aO ?aB ?aS ?aL ?_; (case aP => exact ⟨_, rfl, HXR.out⟩); (case aF => exact fun _ _ => trivial); (case aO => exact HX3.out); (case aB => exact Below.refl _ _); (case aS => exact HX.out.size); (case aL => exact HLT.out); intro vz wz hr hb hgr _; (obtain ⟨Az, nz, cz, rfl⟩ : ∃ A n c, vz = .slice A n c := by obtain ⟨A, c, e⟩ := Kd.R_slice hr; exact ⟨A, _, c, e⟩); have hz := (hb.block (w2.heap.size + 1) (by omega)).trans HX1.out; have p0 : wz.cell? ⟨w2.heap.size + 1, 2, none⟩ = some (.slice A2' n2' c2') := blk_cell hz 2; have p1 := blk_frozen hz 2; have HZ := Lib.hid (HX.out.trOne HX1.out HX2.out HX3.out hr hb hgr); have HZY := Lib.hid (HXY.out.set1 (j := 2) (u := .slice Az nz cz) hb); clear hz; clear hr hb hgr))
                | ((with_reducible refine gate_builtin (b := .append) (xs := #[.tmp 83, .tmp 87]) rfl ?_); at_builtin; go_loud (refine Kd.R_append k42 (w0 := wi) (w2.heap.size + 2) rfl (.tmp 83) (.tmp 87) 22 42 _ 24 rfl Try.underlying22 info42 rfl (by decide) (by omega) (.slice A1' n1' c1') (rs) ⟨nm, V⟩ [.string nm, .int .i64 V] (fun _ => True) (fun _ => False) rfl (by first | rfl | ((try simp only [setY, World.size_setCell, al_size]); rfl)) ?aP (fun _ hk => hk.elim) ?aF ?aO ?aB ?aS ?aL ?_; (case aP => exact k42_mkM _ _ _ ⟨nm, V⟩); (case aF => exact fun _ _ => trivial); (case aO => exact HQ2.out); (case aB => exact Below.refl _ _); (case aS => exact HQ.out.size); (case aL => exact HLR.out); intro vx wx hr hb hgr _; (obtain ⟨Ax, nx, cx, rfl⟩ : ∃ A n c, vx = .slice A n c := by obtain ⟨A, c, e⟩ := Kd.R_slice hr; exact ⟨A, _, c, e⟩); have hz := (hb.block (w2.heap.size + 1) (by omega)).trans HQ1.out; have x0 : wx.cell? ⟨w2.heap.size + 1, 1, none⟩ = some (.slice A1' n1' c1') := blk_cell hz 1; have x2 : wx.cell? ⟨w2.heap.size + 1, 2, none⟩ = some (.slice A2' n2' c2') := blk_cell hz 2; have x1 := blk_frozen hz 1; have x3 := blk_frozen hz 2; have HX := Lib.hid (HQ.out.resOne HQ1.out HQ2.out HQ3.out hr hb hgr); have HXY := Lib.hid (HQY.out.set1 (j := 1) (u := .slice Ax nx cx) hb); have HX1 := Lib.hid (blk_set hz 1 (.slice Ax nx cx)); have HX2 := Lib.hid (rfar (g := w2.heap.size + 1) (j := 1) (u := .slice Ax nx cx) hr (by omega)); have HX3 := Lib.hid (rfar (g := w2.heap.size + 1) (j := 1) (u := .slice Ax nx cx) (R_apart HQ2.out HQ3.out hgr (by decide)) (by omega)); have HXR := Lib.hid (Kd.R_far (p := ⟨w2.heap.size + 1, 1, none⟩) (Kd.R_grown HROW.out hgr (fun k hk => (HOK1.out k hk).2)) (fun k hk => by show k ≠ w2.heap.size + 1; have := HO5.out.size; omega) (.slice Ax nx cx)); clear hz; clear hr hb hgr)))
              go_roundw
              case rel => exact ⟨k + 1, _, _, _, rfl, by omega, HZ, HZY, HPO⟩
              case measure => simp [iOf]; omega
      · have g1 : decide ((k : Int) < (nn : Int)) = false := by simp; omega
        have hkn : k = nn := by omega
        have HU := Lib.hid (HL1.out _ _ _ _ HP.out hkn)
        clear hkn
        by_cases hn : 0 < ny
        · have g2 : decide ((ny : Int) > 0) = true := by simp; omega
          have g2b : decide (0 < ny) = true := by simpa using hn
          have g2c : decide (ny = 0) = false := by simp; omega
          have HU : Hid (U = none) := Lib.hid (by rw [HU.out]; cases ys with | nil => simp at hyn; omega | cons a b => rfl)
          clear hyb hyi hyn hn
          have hres := HO.out.res
          have r0 := blk_cell hres 0
          have r1 := blk_cell hres 1
          have r2 := blk_cell hres 2
          simp only [zEnt, List.getElem?_toArray, List.getElem?_cons_zero, List.getElem?_cons_succ] at r0 r1 r2
          have r3 := blk_frozen hres 0
          have r4 := blk_frozen hres 1
          have r5 := blk_frozen hres 2
          have HRES := Lib.hid hres
          clear hres
          go_wp2_with fail
          have hg : (((wo.setCell ⟨w.heap.size, 0, none⟩ (.int .i64 0)).setCell ⟨w.heap.size, 1, none⟩ (.slice none 0 0)).setCell ⟨w.heap.size, 2, none⟩ (.slice none 0 0)).heap[w.heap.size]? = some (.cells #[.int .i64 0, .slice none 0 0, .slice none 0 0] 25 (0, 0)) := blk_set (blk_set (blk_set HRES.out 0 _) 1 _) 2 _
          refine bodyPost_ret (results_ct (p := 2) (u := 3) rfl _ _ w.heap.size 25 _ (0, 0) _ rfl hg Try.underlying25 rfl info25) rfl ?_
          rw [HU.out]
          exact ⟨((HO.out.below.setCell (p := ⟨w.heap.size, 0, none⟩) (Nat.le_refl _) _).setCell (p := ⟨w.heap.size, 1, none⟩) (Nat.le_refl _) _).setCell (p := ⟨w.heap.size, 2, none⟩) (Nat.le_refl _) _, rfl⟩
        · have g2 : decide ((ny : Int) > 0) = false := by simp; omega
          have g2b : decide (0 < ny) = false := by simpa using hn
          have g2c : decide (ny = 0) = true := by simp; omega
          have hys : ys.isEmpty = true := by cases ys with | nil => rfl | cons a b => simp at hyn; omega
          have HU : Hid (U = if rightE ⟨G, rs, ts⟩ then some ⟨G, rs, ts⟩ else none) := Lib.hid (by rw [HU.out, hys]; simp)
          obtain ⟨A1', n1', c1', A2', n2', c2', q1, q2, q3⟩ := HO.out.e
          obtain ⟨A1, c1, e1, hc1, hC1⟩ := Kd.R_reads q2
          obtain ⟨A2, c2, e2, hc2, hC2⟩ := Kd.R_reads q3
          cases e1
          cases e2
          have v0 := blk_cell q1 0
          have v1 := blk_cell q1 1
          have v2 := blk_cell q1 2
          simp only [List.getElem?_toArray, List.getElem?_cons_zero, List.getElem?_cons_succ] at v0 v1 v2
          have HRC := Lib.hid (refRight_any wo ⟨G, rs, ts⟩ A1' A2' c1' c2' hC1 hC2 hc1 hc2 (by show rs.length ≤ _; rw [HP.out.lr]; omega) (fun t ht => by have := HP.out.sm t ht; omega))
          have HQ1 := Lib.hid q1
          have HQ2 := Lib.hid q2
          have HQ3 := Lib.hid q3
          have HNZ := Lib.hid hn
          clear hyb hyi hyn hn hys q1 q2 q3 hc1 hc2 hC1 hC2
          cases hr : rightE ⟨G, rs, ts⟩ with
          | false =>
            rw [hr] at HRC
            have HU : Hid (U = none) := Lib.hid (by rw [HU.out, hr]; rfl)
            clear hr
            go_wp2_with (first
              | (go_at_call 8; go_loud (refine HRC.out.mono ?_; rintro e5 w4 ⟨rfl, hb4⟩; have hres := blk_below HO.out.res hb4; have r0 := blk_cell hres 0; have r1 := blk_cell hres 1; have r2 := blk_cell hres 2; (simp only [zEnt, List.getElem?_toArray, List.getElem?_cons_zero, List.getElem?_cons_succ] at r0 r1 r2); have r3 := blk_frozen hres 0; have r4 := blk_frozen hres 1; have r5 := blk_frozen hres 2; have HRES := Lib.hid hres; have HB4 := Lib.hid (HO.out.below.trans (hb4.mono HO.out.below.size)); clear hres hb4)))
            have hg : (((w4.setCell ⟨w.heap.size, 0, none⟩ (.int .i64 0)).setCell ⟨w.heap.size, 1, none⟩ (.slice none 0 0)).setCell ⟨w.heap.size, 2, none⟩ (.slice none 0 0)).heap[w.heap.size]? = some (.cells #[.int .i64 0, .slice none 0 0, .slice none 0 0] 25 (0, 0)) := blk_set (blk_set (blk_set HRES.out 0 _) 1 _) 2 _
            refine bodyPost_ret (results_ct (p := 2) (u := 3) rfl _ _ w.heap.size 25 _ (0, 0) _ rfl hg Try.underlying25 rfl info25) rfl ?_
            rw [HU.out]
            exact ⟨((HB4.out.setCell (p := ⟨w.heap.size, 0, none⟩) (Nat.le_refl _) _).setCell (p := ⟨w.heap.size, 1, none⟩) (Nat.le_refl _) _).setCell (p := ⟨w.heap.size, 2, none⟩) (Nat.le_refl _) _, rfl⟩
          | true =>
            rw [hr] at HRC
            have HU : Hid (U = some ⟨G, rs, ts⟩) := Lib.hid (by rw [HU.out, hr]; rfl)
            clear hr
            go_wp2_with (first
              | (go_at_call 8; go_loud (refine HRC.out.mono ?_; rintro e5 w4 ⟨rfl, hb4⟩; have hres := blk_below HO.out.res hb4; have r0 := blk_cell hres 0; have r1 := blk_cell hres 1; have r2 := blk_cell hres 2; (simp only [zEnt, List.getElem?_toArray, List.getElem?_cons_zero, List.getElem?_cons_succ] at r0 r1 r2); have r3 := blk_frozen hres 0; have r4 := blk_frozen hres 1; have r5 := blk_frozen hres 2; have hen := blk_below HQ1.out hb4; have s0 := blk_cell hen 0; have s1 := blk_cell hen 1; have s2 := blk_cell hen 2; (simp only [List.getElem?_toArray, List.getElem?_cons_zero, List.getElem?_cons_succ] at s0 s1 s2); have HRES := Lib.hid hres; have HB4 := Lib.hid (HO.out.below.trans (hb4.mono HO.out.below.size)); have HK4 := Lib.hid hb4; clear hres hb4 hen)))
            have hg : (((w4.setCell ⟨w.heap.size, 0, none⟩ (.int .i64 G)).setCell ⟨w.heap.size, 1, none⟩ (.slice A1' rs.length c1')).setCell ⟨w.heap.size, 2, none⟩ (.slice A2' ts.length c2')).heap[w.heap.size]? = some (.cells #[.int .i64 G, .slice A1' rs.length c1', .slice A2' ts.length c2'] 25 (0, 0)) := blk_set (blk_set (blk_set HRES.out 0 _) 1 _) 2 _
            refine bodyPost_ret (results_ct (p := 2) (u := 3) rfl _ _ w.heap.size 25 _ (0, 0) _ rfl hg Try.underlying25 rfl info25) rfl ?_
            rw [HU.out]
            have hlo := HO.out.lo
            refine ⟨((HB4.out.setCell (p := ⟨w.heap.size, 0, none⟩) (Nat.le_refl _) _).setCell (p := ⟨w.heap.size, 1, none⟩) (Nat.le_refl _) _).setCell (p := ⟨w.heap.size, 2, none⟩) (Nat.le_refl _) _, _, _, rfl, ?_, ?_⟩
            · exact Kd.R_lower (rfar (rfar (rfar (Kd.R_below HQ2.out HK4.out) (by omega)) (by omega)) (by omega)) (by omega)
            · exact Kd.R_lower (rfar (rfar (rfar (Kd.R_below HQ3.out HK4.out) (by omega)) (by omega)) (by omega)) (by omega)
end Go.Proofs.Ytnognmbapciegaa.Bk
