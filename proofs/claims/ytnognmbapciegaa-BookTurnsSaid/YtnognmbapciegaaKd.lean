/- The document's rule of a right entry. The document's Pack. The document's readers of a number and of a text out of what is read. The document's reader of an event. The document's reading of an entry, step by step, against the plain reading: no program in sight. The document's Unpack: what holds of the memory at its loops. -/
import Derived.Test.YtnognmbapciegaaRz
import Derived.Test.YtnognmbapciegaaKb
import Derived.Test.YtnognmbapciegaaKc
import Derived.Test.YtnognmbapciegaaKa
import Derived.RegionTactic
namespace Go.Proofs.Ytnognmbapciegaa.Bk
open Go.RowKit Go.Proofs.YtnognmbapciegaaW.PrintWords Go.Proofs.YtnognmbapciegaaW.PrintLast Go.Proofs.YtnognmbapciegaaW.PrintMore Go.Proofs.Ytnognmbapciegaa.PBk
set_option linter.unusedVariables false
set_option linter.unusedSimpArgs false

set_option maxHeartbeats 2000000 in
set_option maxRecDepth 100000 in
theorem refRight_any (w : World) (en : Ent) (A1 A2 : Option Addr) (c1 c2 : Nat) (hC1 : Kd.C k42 w A1 en.rs.length en.rs) (hC2 : Kd.C (Kd.slice 44 k44) w A2 en.ts.length en.ts) (hl1 : en.rs.length ≤ c1) (hl2 : en.ts.length ≤ c2) (hs1 : en.rs.length ≤ 140737488355328) (hs2 : ∀ t, t ∈ en.ts → t.length ≤ 140737488355328) :
    Calls Try.prog 8 #[.agg #[.int .i64 en.g, .slice A1 en.rs.length c1, .slice A2 en.ts.length c2]] w fun e w' => e = .returned (.bool (rightE en)) ∧ Below w.heap.size w w' := by
  obtain ⟨G, rs, ts⟩ := en
  simp only at hC1 hC2 hl1 hl2 hs1 hs2 ⊢
  have hdef : rightE ⟨G, rs, ts⟩ = (decide (0 ≤ G) && decide (G ≤ 1048576) && decide (rs.length = ts.length) && (rs.zip ts).all resR) := rfl
  have HD := Lib.hid hdef
  clear hdef
  cases o1 : decide (G < 0) with
  | true =>
    have h1 : decide (0 ≤ G) = false := by have := of_decide_eq_true o1; simp; omega
    rw [HD.out, h1]
    go_enter Try.func8, Try.ntmps8
    go_wp2_with fail
    go_ret
    exact ⟨rfl, al_below _ _⟩
  | false =>
    have h1 : decide (0 ≤ G) = true := by have := of_decide_eq_false o1; simp; omega
    cases o2 : decide (G > 1048576) with
    | true =>
      have h2 : decide (G ≤ 1048576) = false := by have := of_decide_eq_true o2; simp; omega
      rw [HD.out, h1, h2]
      go_enter Try.func8, Try.ntmps8
      go_wp2_with fail
      go_ret
      exact ⟨rfl, al_below _ _⟩
    | false =>
      have h2 : decide (G ≤ 1048576) = true := by have := of_decide_eq_false o2; simp; omega
      by_cases hn : rs.length = ts.length
      · have g3 : ((rs.length : Int) != (ts.length : Int)) = false := by simp [hn]
        have h3 : decide (rs.length = ts.length) = true := by simpa using hn
        have HD2 : Hid (rightE ⟨G, rs, ts⟩ = (rs.zip ts).all resR) := Lib.hid (by rw [HD.out, h1, h2, h3]; rfl)
        have HN := Lib.hid hn
        clear hn h1 h2 h3 HD
        have H2 := Lib.hid hs2
        clear hs2
        go_enter Try.func8, Try.ntmps8
        go_wp2_with fail
        go_loopw [3] (fun i wr => ∃ k : Nat, i = .int .i64 (k : Int) ∧ k ≤ rs.length ∧ Hid (Below (w.alloc (.cells (Cells25 G A1 A2 rs.length ts.length c1 c2) 25)).heap.size (w.alloc (.cells (Cells25 G A1 A2 rs.length ts.length c1 c2) 25)) wr) ∧ Hid (rightE ⟨G, rs, ts⟩ = ((rs.drop k).zip (ts.drop k)).all resR)) (fun i _ => rs.length - (iOf i).toNat)
        case atStart => exact ⟨0, rfl, by omega, Lib.hid (Below.refl _ _), Lib.hid HD2.out⟩
        case round =>
          obtain ⟨k, rfl, hk, HB, HE⟩ := hrel
          obtain ⟨wo, rfl⟩ : ∃ wo : World, wo = wr := ⟨_, rfl⟩
          have HBw := Lib.hid ((al_below w (.cells (Cells25 G A1 A2 rs.length ts.length c1 c2) 25)).trans (HB.out.mono (al_below w (.cells (Cells25 G A1 A2 rs.length ts.length c1 c2) 25)).size))
          have hbx := blk_below (blk_new w (.cells (Cells25 G A1 A2 rs.length ts.length c1 c2) 25)) HB.out
          have HBX := Lib.hid hbx
          have b1 : wo.cell? ⟨w.heap.size, 1, none⟩ = some (.slice A1 rs.length c1) := blk_cell hbx 1
          have b2 : wo.cell? ⟨w.heap.size, 2, none⟩ = some (.slice A2 ts.length c2) := blk_cell hbx 2
          clear hbx
          by_cases hlt : k < rs.length
          · have hlt2 : k < ts.length := by have := HN.out; omega
            have hd1 := rd42_drop rs k hlt
            have hd2 := rdL_drop ts k hlt2
            obtain ⟨ad, rfl, f0, f1⟩ := at_T42 (Kd.C_below hC1 HBw.out) (k : Int) (by omega) (by omega)
            obtain ⟨ad2, A0, c0, rfl, e0, hl0, hC0⟩ := at_L4 (Kd.C_below hC2 HBw.out) (k : Int) (by omega) (by omega)
            have hts : (rd_L4 ts (k : Int)).length ≤ 140737488355328 := H2.out _ (List.mem_of_mem_drop (i := k) (by rw [hd2]; simp))
            obtain ⟨x, hx⟩ : ∃ x, rd_T42 rs (k : Int) = x := ⟨_, rfl⟩
            obtain ⟨t, ht⟩ : ∃ t, rd_L4 ts (k : Int) = t := ⟨_, rfl⟩
            rw [hx] at f0 f1 hd1
            rw [ht] at e0 hl0 hC0 hd2 hts
            simp only [Int.toNat_natCast] at f0 f1 e0
            have HE2 := HE.out
            rw [hd1, hd2, List.zip_cons_cons, List.all_cons, resR_eq] at HE2
            have HF := Lib.hid HE2
            have H1 := fun w => refName_any x.f0 w
            have hC0' := Lib.hid hC0
            have HTS := Lib.hid hts
            have z2 : (wo.alloc (.cells #[.string x.f0, .int .i64 x.f1] 42)).cell? ⟨w.heap.size, 2, none⟩ = some (.slice (some ad2) ts.length c2) := pw_cell_below (al_below wo _) b2
            have ze : (wo.alloc (.cells #[.string x.f0, .int .i64 x.f1] 42)).cell? (ad2.add k) = some (.slice A0 t.length c0) := pw_cell_below (al_below wo _) e0
            clear HE2 hd1 hd2 hx ht HE hC0 hts
            cases o3 : (decide (0 < x.f0.size) && decide (x.f0.size ≤ 80)) with
            | false =>
              simp only [o3] at H1 HF
              go_wp2_with (first
                | (go_at_call 17; refine (H1 _).mono ?_; rintro e' w2 ⟨rfl, rfl⟩))
              go_ret
              exact ⟨by rw [HF.out]; simp, HBw.out.trans ((al_below wo _).mono HBw.out.size)⟩
            | true =>
              simp only [o3] at H1 HF
              cases o4 : decide (x.f1 < 1) with
              | true =>
                have HV : Hid (decide (1 ≤ x.f1) = false) := Lib.hid (by have := of_decide_eq_true o4; simp; omega)
                go_wp2_with (first
                  | (go_at_call 17; refine (H1 _).mono ?_; rintro e' w2 ⟨rfl, rfl⟩))
                go_ret
                exact ⟨by rw [HF.out, HV.out]; simp, HBw.out.trans ((al_below wo _).mono HBw.out.size)⟩
              | false =>
                have HV : Hid (decide (1 ≤ x.f1) = true) := Lib.hid (by have := of_decide_eq_false o4; simp; omega)
                cases o5 : decide (x.f1 > 7) with
                | true =>
                  have HV2 : Hid (decide (x.f1 ≤ 7) = false) := Lib.hid (by have := of_decide_eq_true o5; simp; omega)
                  go_wp2_with (first
                    | (go_at_call 17; refine (H1 _).mono ?_; rintro e' w2 ⟨rfl, rfl⟩))
                  go_ret
                  exact ⟨by rw [HF.out, HV2.out]; simp, HBw.out.trans ((al_below wo _).mono HBw.out.size)⟩
                | false =>
                  have HV2 : Hid (decide (x.f1 ≤ 7) = true) := Lib.hid (by have := of_decide_eq_false o5; simp; omega)
                  cases o6 : trR t with
                  | false =>
                    go_wp2_with (first
                      | (go_at_call 17; refine (H1 _).mono ?_; rintro e' w2 ⟨rfl, rfl⟩)
                      | (go_at_call 18; go_loud (refine (refTrRight_any _ A0 c0 t (Kd.C_below hC0'.out (al_below wo _)) HTS.out).mono ?_; (try simp only [o6]); rintro e' w4 ⟨rfl, hb4⟩; have HB4 := Lib.hid ((al_below wo (.cells #[.string x.f0, .int .i64 x.f1] 42)).trans (hb4.mono (al_below wo (.cells #[.string x.f0, .int .i64 x.f1] 42)).size)); clear hb4)))
                    go_ret
                    exact ⟨by rw [HF.out]; simp [o6], HBw.out.trans (HB4.out.mono HBw.out.size)⟩
                  | true =>
                    have HG : Hid (rightE ⟨G, rs, ts⟩ = (!(t.any greatR) && ((rs.drop (k + 1)).zip (ts.drop (k + 1))).all resR)) := Lib.hid (by rw [HF.out, HV.out, HV2.out, o6]; simp)
                    go_wp2_with (first
                      | (go_at_call 17; refine (H1 _).mono ?_; rintro e' w2 ⟨rfl, rfl⟩)
                      | (go_at_call 18; go_loud (refine (refTrRight_any _ A0 c0 t (Kd.C_below hC0'.out (al_below wo _)) HTS.out).mono ?_; (try simp only [o6]); rintro e' w4 ⟨rfl, hb4⟩; have HB4 := Lib.hid ((al_below wo (.cells #[.string x.f0, .int .i64 x.f1] 42)).trans (hb4.mono (al_below wo (.cells #[.string x.f0, .int .i64 x.f1] 42)).size)); clear hb4)))
                    clear HF H1
                    have htl := HTS.out
                    go_loopw [5] (fun jv wr => ∃ j : Nat, jv = .int .i64 (j : Int) ∧ j ≤ t.length ∧ Hid (Below wo.heap.size wo wr) ∧ Hid (t.any greatR = (t.drop j).any greatR)) (fun jv _ => t.length - (iOf jv).toNat)
                    case atStart => exact ⟨0, rfl, by omega, HB4, Lib.hid rfl⟩
                    case round =>
                      clear HB4
                      obtain ⟨j, rfl, hj, HBi, HEi⟩ := hrel
                      have hbx4 := blk_below HBX.out HBi.out
                      have y2 : wr.cell? ⟨w.heap.size, 2, none⟩ = some (.slice (some ad2) ts.length c2) := blk_cell hbx4 2
                      have ye : wr.cell? (ad2.add k) = some (.slice A0 t.length c0) := pw_cell_below HBi.out e0
                      clear hbx4
                      by_cases hltj : j < t.length
                      · have hdj := rd44_drop t j hltj
                        obtain ⟨ad3, rfl, f0', f1', f2', f3'⟩ := at_T44 (Kd.C_below hC0'.out HBi.out) (j : Int) (by omega) (by omega)
                        obtain ⟨e, he⟩ : ∃ e, rd_T44 t (j : Int) = e := ⟨_, rfl⟩
                        rw [he] at f0' f1' f2' f3' hdj
                        simp only [Int.toNat_natCast] at f0' f1' f2' f3'
                        have HEi2 := HEi.out
                        rw [hdj, List.any_cons] at HEi2
                        have HFi := Lib.hid HEi2
                        clear HEi2 hdj he HEi
                        cases p1 : decide (e.f1 > 1099511627776) with
                        | true =>
                          go_wp2_with fail
                          go_ret
                          exact ⟨by rw [HG.out, HFi.out]; simp only [greatR, p1]; rfl, HBw.out.trans ((HBi.out.trans ((al_below wr _).mono HBi.out.size)).mono HBw.out.size)⟩
                        | false =>
                          cases p2 : decide (e.f3 > 1125899906842624) with
                          | true =>
                            go_wp2_with fail
                            go_ret
                            exact ⟨by rw [HG.out, HFi.out]; simp only [greatR, p1, p2]; rfl, HBw.out.trans ((HBi.out.trans ((al_below wr _).mono HBi.out.size)).mono HBw.out.size)⟩
                          | false =>
                            cases p3 : decide ((e.f2.size : Int) > 1048576) with
                            | true =>
                              go_wp2_with fail
                              go_ret
                              exact ⟨by rw [HG.out, HFi.out]; simp only [greatR, p1, p2, p3]; rfl, HBw.out.trans ((HBi.out.trans ((al_below wr _).mono HBi.out.size)).mono HBw.out.size)⟩
                            | false =>
                              go_wp2_with fail
                              go_roundw
                              case rel => exact ⟨j + 1, by first | rfl | go_num, by omega, Lib.hid (HBi.out.trans ((al_below wr _).mono HBi.out.size)), Lib.hid (by rw [HFi.out]; simp only [greatR, p1, p2, p3]; rfl)⟩
                              case measure => simp [iOf]; omega
                      · have hjt : j = t.length := by omega
                        have HG2 : Hid (rightE ⟨G, rs, ts⟩ = ((rs.drop (k + 1)).zip (ts.drop (k + 1))).all resR) := Lib.hid (by rw [HG.out, HEi.out, hjt, List.drop_length]; simp)
                        have gj : decide ((j : Int) < (t.length : Int)) = false := by simp; omega
                        clear hjt
                        go_wp2_with fail
                        go_roundw
                        case rel => exact ⟨k + 1, by first | rfl | go_num, by omega, Lib.hid (HB.out.trans (HBi.out.mono HB.out.size)), HG2⟩
                        case measure => simp [iOf]; omega
          · obtain rfl : k = rs.length := by omega
            go_wp2_with fail
            go_ret
            exact ⟨by rw [HE.out, List.drop_length]; rfl, HBw.out⟩
      · have g3 : ((rs.length : Int) != (ts.length : Int)) = true := by simp; omega
        have h3 : decide (rs.length = ts.length) = false := by simpa using hn
        rw [HD.out, h1, h2, h3]
        clear hn
        go_enter Try.func8, Try.ntmps8
        go_wp2_with fail
        go_ret
        exact ⟨rfl, al_below _ _⟩
end Go.Proofs.Ytnognmbapciegaa.Bk
namespace Go.Proofs.Ytnognmbapciegaa.Bk
open Go.RowKit Go.Proofs.YtnognmbapciegaaW.PrintWords Go.Proofs.YtnognmbapciegaaW.PrintLast Go.Proofs.YtnognmbapciegaaW.PrintMore Go.Proofs.Ytnognmbapciegaa.PBk
set_option linter.unusedVariables false
set_option linter.unusedSimpArgs false

set_option maxHeartbeats 4000000 in
set_option maxRecDepth 100000 in
theorem refPack_ok (w : World) (en : Ent) (A1 A2 : Option Addr) (c1 c2 : Nat) (hC1 : Kd.C k42 w A1 en.rs.length en.rs) (hC2 : Kd.C (Kd.slice 44 k44) w A2 en.ts.length en.ts) (hl1 : en.rs.length ≤ c1) (hl2 : en.ts.length ≤ c2) (hs1 : en.rs.length ≤ 140737488355328) (hs2 : ∀ t, t ∈ en.ts → t.length ≤ 140737488355328) (hr : rightE en = true) (hout : (pack en).length ≤ 8796093022208) :
    Calls Try.prog 13 #[.agg #[.int .i64 en.g, .slice A1 en.rs.length c1, .slice A2 en.ts.length c2]] w fun e w' => Made w w' (pack en) e := by
  obtain ⟨G, rs, ts⟩ := en
  simp only at hC1 hC2 hl1 hl2 hs1 hs2 ⊢
  have hlen : rs.length = ts.length := by
    simp only [rightE, Bool.and_eq_true, decide_eq_true_eq] at hr
    exact hr.1.2
  have hevs : ∀ k, k < rs.length → k < ts.length → RsOk (rd_T42 rs (k : Int), rd_L4 ts (k : Int)) ∧ (∀ e, e ∈ rd_L4 ts (k : Int) → EvOk e) := by
    intro k h1 h2
    have hz : (rd_T42 rs (k : Int), rd_L4 ts (k : Int)) ∈ rs.zip ts := by
      have h3 : (rd_T42 rs (k : Int), rd_L4 ts (k : Int)) ∈ (rs.drop k).zip (ts.drop k) := by
        rw [rd42_drop rs k h1, rdL_drop ts k h2, List.zip_cons_cons]
        exact List.mem_cons_self
      rw [List.zip, ← List.drop_zipWith] at h3
      exact List.mem_of_mem_drop h3
    simp only [rightE, Bool.and_eq_true, decide_eq_true_eq, List.all_eq_true] at hr
    have h4 := rsOk_of (hr.2 _ hz) (by have := hs2 _ (List.of_mem_zip hz).2; simp only; omega)
    exact ⟨h4, h4.es⟩
  have HEV := Lib.hid hevs
  have HLN := Lib.hid hlen
  have HOL := Lib.hid hout
  have H2 := Lib.hid hs2
  obtain ⟨out, hout'⟩ : ∃ out, out = pack ⟨G, rs, ts⟩ := ⟨_, rfl⟩
  have HOUT := Lib.hid hout'
  rw [← hout'] at HOL ⊢
  clear hs2 hr hout hevs hlen hout'
  have HB2 : Hid (Below (w.alloc (.cells (Cells25 G A1 A2 rs.length ts.length c1 c2) 25)).heap.size (w.alloc (.cells (Cells25 G A1 A2 rs.length ts.length c1 c2) 25)) (w.alloc (.cells (Cells25 G A1 A2 rs.length ts.length c1 c2) 25))) := Lib.hid (Below.refl _ _)
  have hbx := blk_new w (.cells (Cells25 G A1 A2 rs.length ts.length c1 c2) 25)
  have b0 : (w.alloc (.cells (Cells25 G A1 A2 rs.length ts.length c1 c2) 25)).cell? ⟨w.heap.size, 0, none⟩ = some (.int .i64 G) := blk_cell hbx 0
  have b1 : (w.alloc (.cells (Cells25 G A1 A2 rs.length ts.length c1 c2) 25)).cell? ⟨w.heap.size, 1, none⟩ = some (.slice A1 rs.length c1) := blk_cell hbx 1
  clear hbx
  go_enter Try.func13, Try.ntmps13
  go_upto_region 1 with (fail)
  go_region_held3 (fun w' => w'.cell? ⟨w.heap.size, 0, none⟩ = some (.int .i64 G) ∧ w'.cell? ⟨w.heap.size, 1, none⟩ = some (.slice A1 rs.length c1)) (first | exact ⟨b0, b1⟩ | exact ⟨b04, b14⟩ | exact ⟨b05, b15⟩ | go_keep)
    (first
      | (go_at_call 33; (have hguard := HO4; clear hguard); go_loud (refine (rjoinnum_any _ A4 n4 c4 (num G) ((rs.length : Int)) HN4.out (by repeat (first | exact own_C HO4.out HN4.out | (with_reducible refine Kd.C_alloc ?_ _) | (with_reducible refine Kd.C_drew ?_))) (by have := (num_len G).2; omega)).mono ?_; rintro e5 w5 ⟨A5, n5, c5, rfl, hn5, ho, hb⟩; have HB5 : Hid (Below (w.alloc (.cells (Cells25 G A1 A2 rs.length ts.length c1 c2) 25)).heap.size (w.alloc (.cells (Cells25 G A1 A2 rs.length ts.length c1 c2) 25)) w5) := Lib.hid (by first | exact HB4.out.trans (hb.mono HB4.out.size) | exact HB4.out.drew.trans (hb.mono HB4.out.size) | exact (HB4.out.alloc HB4.out.size _).trans (hb.mono (HB4.out.alloc HB4.out.size _).size) | exact (HB4.out.alloc HB4.out.size _).drew.trans (hb.mono (HB4.out.alloc HB4.out.size _).size)); have HW5 : Hid (Below w.heap.size w w5) := Lib.hid ((al_below w _).trans (HB5.out.mono (al_below w _).size)); have HO5 : Hid (Own w5 w.heap.size (.slice A5 n5 c5) _) := Lib.hid (Kd.R_lower ho (Nat.le_trans (al_below w _).size (by first | exact HB4.out.size | exact (HB4.out.alloc HB4.out.size _).size))); have HN5 := Lib.hid hn5; have hbx := blk_below (blk_new w (.cells (Cells25 G A1 A2 rs.length ts.length c1 c2) 25)) HB5.out; have b05 : w5.cell? ⟨w.heap.size, 0, none⟩ = some (.int .i64 G) := blk_cell hbx 0; have b15 : w5.cell? ⟨w.heap.size, 1, none⟩ = some (.slice A1 rs.length c1) := blk_cell hbx 1; clear hb ho hbx hn5))
      | (go_at_call 34; (have hguard := HB2; clear hguard); go_loud (refine (rnum_any _ G).mono ?_; rintro e5 w4 ⟨A4, n4, c4, rfl, hn4, ho, hb⟩; have HB4 : Hid (Below (w.alloc (.cells (Cells25 G A1 A2 rs.length ts.length c1 c2) 25)).heap.size (w.alloc (.cells (Cells25 G A1 A2 rs.length ts.length c1 c2) 25)) w4) := Lib.hid (by first | exact HB2.out.trans (hb.mono HB2.out.size) | exact HB2.out.drew.trans (hb.mono HB2.out.size) | exact (HB2.out.alloc HB2.out.size _).trans (hb.mono (HB2.out.alloc HB2.out.size _).size) | exact (HB2.out.alloc HB2.out.size _).drew.trans (hb.mono (HB2.out.alloc HB2.out.size _).size)); have HW4 : Hid (Below w.heap.size w w4) := Lib.hid ((al_below w _).trans (HB4.out.mono (al_below w _).size)); have HO4 : Hid (Own w4 w.heap.size (.slice A4 n4 c4) _) := Lib.hid (Kd.R_lower ho (Nat.le_trans (al_below w _).size (by first | exact HB2.out.size | exact (HB2.out.alloc HB2.out.size _).size))); have HN4 := Lib.hid hn4; have hbx := blk_below (blk_new w (.cells (Cells25 G A1 A2 rs.length ts.length c1 c2) 25)) HB4.out; have b04 : w4.cell? ⟨w.heap.size, 0, none⟩ = some (.int .i64 G) := blk_cell hbx 0; have b14 : w4.cell? ⟨w.heap.size, 1, none⟩ = some (.slice A1 rs.length c1) := blk_cell hbx 1; clear hb ho hbx hn4)))
  all_goals go_wp2_with fail
  go_loopw [3, 4] (fun b i wr => ∃ (k : Nat) (A : Option Addr) (m c : Nat) (ys : List Int), b = .slice A m c ∧ i = .int .i64 (k : Int) ∧ k ≤ rs.length ∧ Hid (m = ys.length) ∧ Hid (Below (w.alloc (.cells (Cells25 G A1 A2 rs.length ts.length c1 c2) 25)).heap.size (w.alloc (.cells (Cells25 G A1 A2 rs.length ts.length c1 c2) 25)) wr) ∧ Hid (Own wr w.heap.size (.slice A m c) ys) ∧ Hid (ys ++ resesB ((rs.drop k).zip (ts.drop k)) = out)) (fun _ i _ => rs.length - (iOf i).toNat)
  case atStart => exact ⟨0, A5, n5, c5, _, rfl, rfl, by omega, HN5, HB5, HO5, Lib.hid (by rw [HOUT.out]; simp [pack])⟩
  case round =>
    clear HO5 HN5 HB5 b0 b1 HB2
    obtain ⟨k, A, m, c, ys, rfl, rfl, hk, HM, HB, HO, HE⟩ := hrel
    have HW := Lib.hid ((al_below w (.cells (Cells25 G A1 A2 rs.length ts.length c1 c2) 25)).trans (HB.out.mono (al_below w (.cells (Cells25 G A1 A2 rs.length ts.length c1 c2) 25)).size))
    have HYL : Hid (ys.length ≤ 8796093022208) := by
      have h1 := congrArg List.length HE.out
      rw [List.length_append] at h1
      have h2 := HOL.out
      exact Lib.hid (by omega)
    have hbx := blk_below (blk_new w (.cells (Cells25 G A1 A2 rs.length ts.length c1 c2) 25)) HB.out
    have b1 : wr.cell? ⟨w.heap.size, 1, none⟩ = some (.slice A1 rs.length c1) := blk_cell hbx 1
    by_cases hlt : k < rs.length
    · have hlt2 : k < ts.length := by have := HLN.out; omega
      have hd1 := rd42_drop rs k hlt
      have hd2 := rdL_drop ts k hlt2
      obtain ⟨ad, rfl, f0, f1⟩ := at_T42 hC1 (k : Int) (by omega) (by omega)
      obtain ⟨ad2, A0, c0, rfl, e0, hl0, hC0⟩ := at_L4 hC2 (k : Int) (by omega) (by omega)
      have hev := HEV.out k hlt hlt2
      have hts := H2.out _ (List.mem_of_mem_drop (i := k) (by rw [hd2]; simp : rd_L4 ts (k : Int) ∈ ts.drop k))
      obtain ⟨x, hx⟩ : ∃ x, rd_T42 rs (k : Int) = x := ⟨_, rfl⟩
      obtain ⟨t, ht⟩ : ∃ t, rd_L4 ts (k : Int) = t := ⟨_, rfl⟩
      rw [hx] at f0 f1 hd1 hev
      rw [ht] at e0 hl0 hC0 hd2 hev hts
      simp only [Int.toNat_natCast] at f0 f1 e0
      have hE2 := HE.out
      rw [hd1, hd2, List.zip_cons_cons] at hE2
      have HF := Lib.hid hE2
      have HX2 := Lib.hid hev.2
      have HXS : Hid (x.f0.size ≤ 80 ∧ t.length ≤ 140737488355328) := Lib.hid ⟨by have := hev.1.s1; simp only at this; omega, hts⟩
      have hq0 := pw_cell_below HW.out f0
      have HC0 := Lib.hid hC0
      clear hE2 hev hd1 hd2 hx ht hC0 hbx hts
      go_upto_region 6 with (first
        | (go_at_call 35; (have hguard := HO6; clear hguard); go_loud (refine (join_any _ A m c ys A6 n6 c6 (txt x.f0) HM.out O6.out HN6.out (own_C HO6.out HN6.out) (by have t1 := HYL.out; have t2 := HXS.out.1; have t3 := (num_len (x.f0.size : Int)).2; have t4 := (num_len x.f1).2; (try simp only [List.length_append, txt, bytesOf_length]); omega)).mono ?_; rintro e5 w7 ⟨A7, n7, c7, rfl, hn7, ho, hb⟩; have HB7 : Hid (Below (w.alloc (.cells (Cells25 G (some ad) (some ad2) rs.length ts.length c1 c2) 25)).heap.size (w.alloc (.cells (Cells25 G (some ad) (some ad2) rs.length ts.length c1 c2) 25)) w7) := Lib.hid (by first | exact HB6.out.trans (hb.mono HB6.out.size) | exact HB6.out.drew.trans (hb.mono HB6.out.size) | exact (HB6.out.alloc HB6.out.size _).trans (hb.mono (HB6.out.alloc HB6.out.size _).size) | exact (HB6.out.alloc HB6.out.size _).drew.trans (hb.mono (HB6.out.alloc HB6.out.size _).size)); have HW7 : Hid (Below w.heap.size w w7) := Lib.hid ((al_below w _).trans (HB7.out.mono (al_below w _).size)); have HO7 : Hid (Own w7 w.heap.size (.slice A7 n7 c7) _) := Lib.hid (Kd.R_lower ho (Nat.le_trans (al_below w _).size (by first | exact HB6.out.size | exact (HB6.out.alloc HB6.out.size _).size))); have HN7 := Lib.hid hn7; have hbx := blk_below (blk_new w (.cells (Cells25 G (some ad) (some ad2) rs.length ts.length c1 c2) 25)) HB7.out; have b71 : w7.cell? ⟨w.heap.size, 1, none⟩ = some (.slice (some ad) rs.length c1) := blk_cell hbx 1; have b72 : w7.cell? ⟨w.heap.size, 2, none⟩ = some (.slice (some ad2) ts.length c2) := blk_cell hbx 2; have q7 := pw_cell_below HW7.out f1; have r7 := pw_cell_below HW7.out e0; clear hb ho hbx hn7))
        | (go_at_call 36; (have hguard := HB; clear hguard); go_loud (refine (rtext_any _ x.f0 (by have t2 := HXS.out.1; omega)).mono ?_; rintro e5 w6 ⟨A6, n6, c6, rfl, hn6, ho, hb⟩; have HB6 : Hid (Below (w.alloc (.cells (Cells25 G (some ad) (some ad2) rs.length ts.length c1 c2) 25)).heap.size (w.alloc (.cells (Cells25 G (some ad) (some ad2) rs.length ts.length c1 c2) 25)) w6) := Lib.hid (by first | exact HB.out.trans (hb.mono HB.out.size) | exact HB.out.drew.trans (hb.mono HB.out.size) | exact (HB.out.alloc HB.out.size _).trans (hb.mono (HB.out.alloc HB.out.size _).size) | exact (HB.out.alloc HB.out.size _).drew.trans (hb.mono (HB.out.alloc HB.out.size _).size)); have HW6 : Hid (Below w.heap.size w w6) := Lib.hid ((al_below w _).trans (HB6.out.mono (al_below w _).size)); have HO6 : Hid (Own w6 w.heap.size (.slice A6 n6 c6) _) := Lib.hid (Kd.R_lower ho (Nat.le_trans (al_below w _).size (by first | exact HB.out.size | exact (HB.out.alloc HB.out.size _).size))); have HN6 := Lib.hid hn6; have hbx := blk_below (blk_new w (.cells (Cells25 G (some ad) (some ad2) rs.length ts.length c1 c2) 25)) HB6.out; have O6 := Lib.hid (Kd.C_below (own_C HO.out HM.out) hb); have b61 : w6.cell? ⟨w.heap.size, 1, none⟩ = some (.slice (some ad) rs.length c1) := blk_cell hbx 1; have b62 : w6.cell? ⟨w.heap.size, 2, none⟩ = some (.slice (some ad2) ts.length c2) := blk_cell hbx 2; have q6 := pw_cell_below HW6.out f1; have r6 := pw_cell_below HW6.out e0; clear hb ho hbx hn6)))
      go_region_held3 (fun w' => w'.cell? ⟨w.heap.size, 1, none⟩ = some (.slice (some ad) rs.length c1) ∧ w'.cell? ⟨(ad.add (k * 2)).block, (ad.add (k * 2)).off + 1, none⟩ = some (.int .i64 x.f1) ∧ w'.cell? ⟨w.heap.size, 2, none⟩ = some (.slice (some ad2) ts.length c2) ∧ w'.cell? (ad2.add k) = some (.slice A0 t.length c0)) (first | exact ⟨b91, q9, b92, r9⟩ | exact ⟨b81, q8, b82, r8⟩ | exact ⟨b71, q7, b72, r7⟩ | go_keep)
        (first
          | (go_at_call 33; (have hguard := HO8; clear hguard); go_loud (refine (rjoinnum_any _ A8 n8 c8 (ys ++ txt x.f0 ++ num x.f1) ((t.length : Int)) HN8.out (by repeat (first | exact own_C HO8.out HN8.out | (with_reducible refine Kd.C_alloc ?_ _) | (with_reducible refine Kd.C_drew ?_))) (by have t1 := HYL.out; have t2 := HXS.out.1; have t3 := (num_len (x.f0.size : Int)).2; have t4 := (num_len x.f1).2; (try simp only [List.length_append, txt, bytesOf_length]); omega)).mono ?_; rintro e5 w9 ⟨A9, n9, c9, rfl, hn9, ho, hb⟩; have HB9 : Hid (Below (w.alloc (.cells (Cells25 G (some ad) (some ad2) rs.length ts.length c1 c2) 25)).heap.size (w.alloc (.cells (Cells25 G (some ad) (some ad2) rs.length ts.length c1 c2) 25)) w9) := Lib.hid (by first | exact HB8.out.trans (hb.mono HB8.out.size) | exact HB8.out.drew.trans (hb.mono HB8.out.size) | exact (HB8.out.alloc HB8.out.size _).trans (hb.mono (HB8.out.alloc HB8.out.size _).size) | exact (HB8.out.alloc HB8.out.size _).drew.trans (hb.mono (HB8.out.alloc HB8.out.size _).size)); have HW9 : Hid (Below w.heap.size w w9) := Lib.hid ((al_below w _).trans (HB9.out.mono (al_below w _).size)); have HO9 : Hid (Own w9 w.heap.size (.slice A9 n9 c9) _) := Lib.hid (Kd.R_lower ho (Nat.le_trans (al_below w _).size (by first | exact HB8.out.size | exact (HB8.out.alloc HB8.out.size _).size))); have HN9 := Lib.hid hn9; have hbx := blk_below (blk_new w (.cells (Cells25 G (some ad) (some ad2) rs.length ts.length c1 c2) 25)) HB9.out; have b91 : w9.cell? ⟨w.heap.size, 1, none⟩ = some (.slice (some ad) rs.length c1) := blk_cell hbx 1; have b92 : w9.cell? ⟨w.heap.size, 2, none⟩ = some (.slice (some ad2) ts.length c2) := blk_cell hbx 2; have q9 := pw_cell_below HW9.out f1; have r9 := pw_cell_below HW9.out e0; clear hb ho hbx hn9))
          | (go_at_call 33; (have hguard := HO7; clear hguard); go_loud (refine (rjoinnum_any _ A7 n7 c7 (ys ++ txt x.f0) (x.f1) HN7.out (by repeat (first | exact own_C HO7.out HN7.out | (with_reducible refine Kd.C_alloc ?_ _) | (with_reducible refine Kd.C_drew ?_))) (by have t1 := HYL.out; have t2 := HXS.out.1; have t3 := (num_len (x.f0.size : Int)).2; have t4 := (num_len x.f1).2; (try simp only [List.length_append, txt, bytesOf_length]); omega)).mono ?_; rintro e5 w8 ⟨A8, n8, c8, rfl, hn8, ho, hb⟩; have HB8 : Hid (Below (w.alloc (.cells (Cells25 G (some ad) (some ad2) rs.length ts.length c1 c2) 25)).heap.size (w.alloc (.cells (Cells25 G (some ad) (some ad2) rs.length ts.length c1 c2) 25)) w8) := Lib.hid (by first | exact HB7.out.trans (hb.mono HB7.out.size) | exact HB7.out.drew.trans (hb.mono HB7.out.size) | exact (HB7.out.alloc HB7.out.size _).trans (hb.mono (HB7.out.alloc HB7.out.size _).size) | exact (HB7.out.alloc HB7.out.size _).drew.trans (hb.mono (HB7.out.alloc HB7.out.size _).size)); have HW8 : Hid (Below w.heap.size w w8) := Lib.hid ((al_below w _).trans (HB8.out.mono (al_below w _).size)); have HO8 : Hid (Own w8 w.heap.size (.slice A8 n8 c8) _) := Lib.hid (Kd.R_lower ho (Nat.le_trans (al_below w _).size (by first | exact HB7.out.size | exact (HB7.out.alloc HB7.out.size _).size))); have HN8 := Lib.hid hn8; have hbx := blk_below (blk_new w (.cells (Cells25 G (some ad) (some ad2) rs.length ts.length c1 c2) 25)) HB8.out; have b81 : w8.cell? ⟨w.heap.size, 1, none⟩ = some (.slice (some ad) rs.length c1) := blk_cell hbx 1; have b82 : w8.cell? ⟨w.heap.size, 2, none⟩ = some (.slice (some ad2) ts.length c2) := blk_cell hbx 2; have q8 := pw_cell_below HW8.out f1; have r8 := pw_cell_below HW8.out e0; clear hb ho hbx hn8)))
      all_goals go_wp2_with fail
      have htl := HXS.out.2
      go_loopw [3, 5] (fun b i wi => ∃ (j : Nat) (Ai : Option Addr) (mi ci : Nat) (zs : List Int), b = .slice Ai mi ci ∧ i = .int .i64 (j : Int) ∧ j ≤ t.length ∧ Hid (mi = zs.length) ∧ Hid (Below (w.alloc (.cells (Cells25 G (some ad) (some ad2) rs.length ts.length c1 c2) 25)).heap.size (w.alloc (.cells (Cells25 G (some ad) (some ad2) rs.length ts.length c1 c2) 25)) wi) ∧ Hid (Own wi w.heap.size (.slice Ai mi ci) zs) ∧ Hid (zs ++ (evsB (t.drop j) ++ resesB ((rs.drop (k + 1)).zip (ts.drop (k + 1)))) = out)) (fun _ i _ => t.length - (iOf i).toNat)
      case atStart => exact ⟨0, A9, n9, c9, _, rfl, rfl, by omega, HN9, HB9, HO9, Lib.hid (by rw [← HF.out]; simp [resesB, resB, List.append_assoc])⟩
      case round =>
        clear HO9 HN9 HB9
        obtain ⟨j, Ai, mi, ci, zs, rfl, rfl, hj, HMi, HBi, HOi, HEi⟩ := hrel
        obtain ⟨wi, hwi⟩ : ∃ wi, wi = wr := ⟨_, rfl⟩
        subst hwi
        have HWi := Lib.hid ((al_below w (.cells (Cells25 G (some ad) (some ad2) rs.length ts.length c1 c2) 25)).trans (HBi.out.mono (al_below w (.cells (Cells25 G (some ad) (some ad2) rs.length ts.length c1 c2) 25)).size))
        have HZL : Hid (zs.length ≤ 8796093022208) := by
          have h1 := congrArg List.length HEi.out
          rw [List.length_append] at h1
          have h2 := HOL.out
          exact Lib.hid (by omega)
        have hbx := blk_below (blk_new w (.cells (Cells25 G (some ad) (some ad2) rs.length ts.length c1 c2) 25)) HBi.out
        have bi2 : wi.cell? ⟨w.heap.size, 2, none⟩ = some (.slice (some ad2) ts.length c2) := blk_cell hbx 2
        have ri := pw_cell_below HWi.out e0
        clear hbx
        by_cases hlj : j < t.length
        · have hd := rd44_drop t j hlj
          obtain ⟨ad3, rfl, g0, g1, g2, g3⟩ := at_T44 HC0.out (j : Int) (by omega) (by omega)
          obtain ⟨e, he⟩ : ∃ e, rd_T44 t (j : Int) = e := ⟨_, rfl⟩
          rw [he] at g0 g1 g2 g3 hd
          simp only [Int.toNat_natCast] at g0 g1 g2 g3
          have hok := HX2.out e (List.mem_of_mem_drop (i := j) (by rw [hd]; simp))
          have hE3 := HEi.out
          rw [hd] at hE3
          have HG := Lib.hid hE3
          have HES : Hid (e.f2.size ≤ 1048576) := Lib.hid (by have := hok.s1; omega)
          have hw1 : IntKind.i64.wrap (e.f1 + 1) = e.f1 + 1 := by
            have t1 := hok.n0
            have t2 := hok.n1
            rw [IntKind.wrap_i64]
            omega
          have hw2 : wrap64 (e.f1 + 1) = e.f1 + 1 := by
            have t1 := hok.n0
            have t2 := hok.n1
            unfold wrap64
            omega
          have g0' := pw_cell_below HWi.out g0
          have g1' := pw_cell_below HWi.out g1
          have g2' := pw_cell_below HWi.out g2
          have g3' := pw_cell_below HWi.out g3
          clear hE3 hok hd he
          go_upto_region 11 with (fail)
          go_region_held3 (fun w' => w'.cell? ⟨wi.heap.size, 0, none⟩ = some (.int .i64 e.f0) ∧ w'.cell? ⟨wi.heap.size, 1, none⟩ = some (.int .i64 e.f1) ∧ w'.cell? ⟨wi.heap.size, 3, none⟩ = some (.int .i64 e.f3)) (first | exact ⟨y0c, y1c, y3c⟩ | exact ⟨y0b, y1b, y3b⟩ | exact ⟨y0a, y1a, y3a⟩ | go_keep)
            (first
              | (go_at_call 33; (have hguard := HOb; clear hguard); go_loud (refine (rjoinnum_any _ Ab nb cb (zs ++ num e.f0 ++ num (e.f1 + 1)) (e.f3) HNb.out (by repeat (first | exact own_C HOb.out HNb.out | (with_reducible refine Kd.C_alloc ?_ _) | (with_reducible refine Kd.C_drew ?_))) (by have t1 := HZL.out; have t2 := HES.out; have t3 := (num_len e.f0).2; have t4 := (num_len (e.f1 + 1)).2; have t5 := (num_len e.f3).2; have t6 := (num_len (e.f2.size : Int)).2; (try simp only [List.length_append, txt, bytesOf_length]); omega)).mono ?_; rintro e5 wc ⟨Ac, nc, cc, rfl, hnc, ho, hb⟩; have HBc : Hid (Below (w.alloc (.cells (Cells25 G (some ad) (some ad2) rs.length ts.length c1 c2) 25)).heap.size (w.alloc (.cells (Cells25 G (some ad) (some ad2) rs.length ts.length c1 c2) 25)) wc) := Lib.hid (by first | exact HBb.out.trans (hb.mono HBb.out.size) | exact HBb.out.drew.trans (hb.mono HBb.out.size) | exact (HBb.out.alloc HBb.out.size _).trans (hb.mono (HBb.out.alloc HBb.out.size _).size) | exact (HBb.out.alloc HBb.out.size _).drew.trans (hb.mono (HBb.out.alloc HBb.out.size _).size)); have HWc : Hid (Below w.heap.size w wc) := Lib.hid ((al_below w _).trans (HBc.out.mono (al_below w _).size)); have HOc : Hid (Own wc w.heap.size (.slice Ac nc cc) _) := Lib.hid (Kd.R_lower ho (Nat.le_trans (al_below w _).size (by first | exact HBb.out.size | exact (HBb.out.alloc HBb.out.size _).size))); have HNc := Lib.hid hnc; have hbx := blk_below (blk_new w (.cells (Cells25 G (some ad) (some ad2) rs.length ts.length c1 c2) 25)) HBc.out; have ybc : wc.heap[wi.heap.size]? = some (.cells #[.int .i64 e.f0, .int .i64 e.f1, .string e.f2, .int .i64 e.f3] 44 (0, 0)) := (by first | exact blk_below Hybb.out hb | exact blk_below (blk_drew Hybb.out) hb); have Hybc := Lib.hid ybc; have y0c : wc.cell? ⟨wi.heap.size, 0, none⟩ = some (.int .i64 e.f0) := blk_cell ybc 0; have y1c : wc.cell? ⟨wi.heap.size, 1, none⟩ = some (.int .i64 e.f1) := blk_cell ybc 1; have y2c : wc.cell? ⟨wi.heap.size, 2, none⟩ = some (.string e.f2) := blk_cell ybc 2; have y3c : wc.cell? ⟨wi.heap.size, 3, none⟩ = some (.int .i64 e.f3) := blk_cell ybc 3; clear ybc; clear hb ho hbx hnc))
              | (go_at_call 33; (have hguard := HOa; clear hguard); go_loud (refine (rjoinnum_any _ Aa na ca (zs ++ num e.f0) (e.f1 + 1) HNa.out (by repeat (first | exact own_C HOa.out HNa.out | (with_reducible refine Kd.C_alloc ?_ _) | (with_reducible refine Kd.C_drew ?_))) (by have t1 := HZL.out; have t2 := HES.out; have t3 := (num_len e.f0).2; have t4 := (num_len (e.f1 + 1)).2; have t5 := (num_len e.f3).2; have t6 := (num_len (e.f2.size : Int)).2; (try simp only [List.length_append, txt, bytesOf_length]); omega)).mono ?_; rintro e5 wb ⟨Ab, nb, cb, rfl, hnb, ho, hb⟩; have HBb : Hid (Below (w.alloc (.cells (Cells25 G (some ad) (some ad2) rs.length ts.length c1 c2) 25)).heap.size (w.alloc (.cells (Cells25 G (some ad) (some ad2) rs.length ts.length c1 c2) 25)) wb) := Lib.hid (by first | exact HBa.out.trans (hb.mono HBa.out.size) | exact HBa.out.drew.trans (hb.mono HBa.out.size) | exact (HBa.out.alloc HBa.out.size _).trans (hb.mono (HBa.out.alloc HBa.out.size _).size) | exact (HBa.out.alloc HBa.out.size _).drew.trans (hb.mono (HBa.out.alloc HBa.out.size _).size)); have HWb : Hid (Below w.heap.size w wb) := Lib.hid ((al_below w _).trans (HBb.out.mono (al_below w _).size)); have HOb : Hid (Own wb w.heap.size (.slice Ab nb cb) _) := Lib.hid (Kd.R_lower ho (Nat.le_trans (al_below w _).size (by first | exact HBa.out.size | exact (HBa.out.alloc HBa.out.size _).size))); have HNb := Lib.hid hnb; have hbx := blk_below (blk_new w (.cells (Cells25 G (some ad) (some ad2) rs.length ts.length c1 c2) 25)) HBb.out; have ybb : wb.heap[wi.heap.size]? = some (.cells #[.int .i64 e.f0, .int .i64 e.f1, .string e.f2, .int .i64 e.f3] 44 (0, 0)) := (by first | exact blk_below Hyba.out hb | exact blk_below (blk_drew Hyba.out) hb); have Hybb := Lib.hid ybb; have y0b : wb.cell? ⟨wi.heap.size, 0, none⟩ = some (.int .i64 e.f0) := blk_cell ybb 0; have y1b : wb.cell? ⟨wi.heap.size, 1, none⟩ = some (.int .i64 e.f1) := blk_cell ybb 1; have y2b : wb.cell? ⟨wi.heap.size, 2, none⟩ = some (.string e.f2) := blk_cell ybb 2; have y3b : wb.cell? ⟨wi.heap.size, 3, none⟩ = some (.int .i64 e.f3) := blk_cell ybb 3; clear ybb; clear hb ho hbx hnb))
              | (go_at_call 33; (have hguard := HOi; clear hguard); go_loud (refine (rjoinnum_any _ Ai mi ci (zs) (e.f0) HMi.out (by repeat (first | exact own_C HOi.out HMi.out | (with_reducible refine Kd.C_alloc ?_ _) | (with_reducible refine Kd.C_drew ?_))) (by have t1 := HZL.out; have t2 := HES.out; have t3 := (num_len e.f0).2; have t4 := (num_len (e.f1 + 1)).2; have t5 := (num_len e.f3).2; have t6 := (num_len (e.f2.size : Int)).2; (try simp only [List.length_append, txt, bytesOf_length]); omega)).mono ?_; rintro e5 wa ⟨Aa, na, ca, rfl, hna, ho, hb⟩; have HBa : Hid (Below (w.alloc (.cells (Cells25 G (some ad) (some ad2) rs.length ts.length c1 c2) 25)).heap.size (w.alloc (.cells (Cells25 G (some ad) (some ad2) rs.length ts.length c1 c2) 25)) wa) := Lib.hid (by first | exact HBi.out.trans (hb.mono HBi.out.size) | exact HBi.out.drew.trans (hb.mono HBi.out.size) | exact (HBi.out.alloc HBi.out.size _).trans (hb.mono (HBi.out.alloc HBi.out.size _).size) | exact (HBi.out.alloc HBi.out.size _).drew.trans (hb.mono (HBi.out.alloc HBi.out.size _).size)); have HWa : Hid (Below w.heap.size w wa) := Lib.hid ((al_below w _).trans (HBa.out.mono (al_below w _).size)); have HOa : Hid (Own wa w.heap.size (.slice Aa na ca) _) := Lib.hid (Kd.R_lower ho (Nat.le_trans (al_below w _).size (by first | exact HBi.out.size | exact (HBi.out.alloc HBi.out.size _).size))); have HNa := Lib.hid hna; have hbx := blk_below (blk_new w (.cells (Cells25 G (some ad) (some ad2) rs.length ts.length c1 c2) 25)) HBa.out; have yba : wa.heap[wi.heap.size]? = some (.cells #[.int .i64 e.f0, .int .i64 e.f1, .string e.f2, .int .i64 e.f3] 44 (0, 0)) := (by first | exact blk_below (blk_new wi (.cells #[.int .i64 e.f0, .int .i64 e.f1, .string e.f2, .int .i64 e.f3] 44)) hb | exact blk_below (blk_drew (blk_new wi (.cells #[.int .i64 e.f0, .int .i64 e.f1, .string e.f2, .int .i64 e.f3] 44))) hb); have Hyba := Lib.hid yba; have y0a : wa.cell? ⟨wi.heap.size, 0, none⟩ = some (.int .i64 e.f0) := blk_cell yba 0; have y1a : wa.cell? ⟨wi.heap.size, 1, none⟩ = some (.int .i64 e.f1) := blk_cell yba 1; have y2a : wa.cell? ⟨wi.heap.size, 2, none⟩ = some (.string e.f2) := blk_cell yba 2; have y3a : wa.cell? ⟨wi.heap.size, 3, none⟩ = some (.int .i64 e.f3) := blk_cell yba 3; clear yba; clear hb ho hbx hna)))
          all_goals
            go_wp2_with (first
              | (go_at_call 35; (have hguard := HOd; clear hguard); go_loud (refine (join_any _ Ac nc cc (zs ++ num e.f0 ++ num (e.f1 + 1) ++ num e.f3) Ad nd cd (txt e.f2) HNc.out Od.out HNd.out (own_C HOd.out HNd.out) (by have t1 := HZL.out; have t2 := HES.out; have t3 := (num_len e.f0).2; have t4 := (num_len (e.f1 + 1)).2; have t5 := (num_len e.f3).2; have t6 := (num_len (e.f2.size : Int)).2; (try simp only [List.length_append, txt, bytesOf_length]); omega)).mono ?_; rintro e5 wf ⟨Af, nf, cf, rfl, hnf, ho, hb⟩; have HBf : Hid (Below (w.alloc (.cells (Cells25 G (some ad) (some ad2) rs.length ts.length c1 c2) 25)).heap.size (w.alloc (.cells (Cells25 G (some ad) (some ad2) rs.length ts.length c1 c2) 25)) wf) := Lib.hid (by first | exact HBd.out.trans (hb.mono HBd.out.size) | exact HBd.out.drew.trans (hb.mono HBd.out.size) | exact (HBd.out.alloc HBd.out.size _).trans (hb.mono (HBd.out.alloc HBd.out.size _).size) | exact (HBd.out.alloc HBd.out.size _).drew.trans (hb.mono (HBd.out.alloc HBd.out.size _).size)); have HWf : Hid (Below w.heap.size w wf) := Lib.hid ((al_below w _).trans (HBf.out.mono (al_below w _).size)); have HOf : Hid (Own wf w.heap.size (.slice Af nf cf) _) := Lib.hid (Kd.R_lower ho (Nat.le_trans (al_below w _).size (by first | exact HBd.out.size | exact (HBd.out.alloc HBd.out.size _).size))); have HNf := Lib.hid hnf; have hbx := blk_below (blk_new w (.cells (Cells25 G (some ad) (some ad2) rs.length ts.length c1 c2) 25)) HBf.out; clear hb ho hbx hnf))
              | (go_at_call 36; (have hguard := HOc; clear hguard); go_loud (refine (rtext_any _ e.f2 (by have t2 := HES.out; omega)).mono ?_; rintro e5 wd ⟨Ad, nd, cd, rfl, hnd, ho, hb⟩; have HBd : Hid (Below (w.alloc (.cells (Cells25 G (some ad) (some ad2) rs.length ts.length c1 c2) 25)).heap.size (w.alloc (.cells (Cells25 G (some ad) (some ad2) rs.length ts.length c1 c2) 25)) wd) := Lib.hid (by first | exact HBc.out.trans (hb.mono HBc.out.size) | exact HBc.out.drew.trans (hb.mono HBc.out.size) | exact (HBc.out.alloc HBc.out.size _).trans (hb.mono (HBc.out.alloc HBc.out.size _).size) | exact (HBc.out.alloc HBc.out.size _).drew.trans (hb.mono (HBc.out.alloc HBc.out.size _).size)); have HWd : Hid (Below w.heap.size w wd) := Lib.hid ((al_below w _).trans (HBd.out.mono (al_below w _).size)); have HOd : Hid (Own wd w.heap.size (.slice Ad nd cd) _) := Lib.hid (Kd.R_lower ho (Nat.le_trans (al_below w _).size (by first | exact HBc.out.size | exact (HBc.out.alloc HBc.out.size _).size))); have HNd := Lib.hid hnd; have hbx := blk_below (blk_new w (.cells (Cells25 G (some ad) (some ad2) rs.length ts.length c1 c2) 25)) HBd.out; have Od := Lib.hid (Kd.C_below (own_C HOc.out HNc.out) hb); clear hb ho hbx hnd)))
            go_roundw
          case rel => exact ⟨j + 1, Af, nf, cf, _, rfl, by first | rfl | go_num, by omega, HNf, HBf, HOf, Lib.hid (by rw [← HG.out]; simp [evsB, evB, List.append_assoc])⟩
          case measure => simp [iOf]; omega
        · obtain rfl : j = t.length := by omega
          go_wp2_with fail
          go_roundw
          case rel => exact ⟨k + 1, Ai, mi, ci, zs, rfl, by first | rfl | go_num, by omega, HMi, HBi, HOi, Lib.hid (by rw [← HEi.out, List.drop_length]; simp [evsB])⟩
          case measure => simp [iOf]; omega
    · obtain rfl : k = rs.length := by omega
      have hys : ys = out := by
        have := HE.out
        rw [List.drop_length, List.zip_nil_left] at this
        simpa [resesB] using this
      go_wp2_with fail
      go_ret
      exact ⟨A, m, c, rfl, by rw [HM.out, hys], by rw [← hys]; exact HO.out, HW.out⟩
end Go.Proofs.Ytnognmbapciegaa.Bk
namespace Go.Proofs.Ytnognmbapciegaa.Bk
open Go.RowKit Go.Proofs.YtnognmbapciegaaW.PrintWords Go.Proofs.YtnognmbapciegaaW.PrintLast Go.Proofs.YtnognmbapciegaaW.PrintMore Go.Proofs.Ytnognmbapciegaa.PBk
set_option linter.unusedVariables false
set_option linter.unusedSimpArgs false

/-- What is read, or nothing more. -/
def InV (w : World) (v : Value) : Option (List Int) → Prop
  | none => v = .agg #[.slice none 0 0, .bool false]
  | some xs => ∃ (A : Option Addr) (n c : Nat), v = .agg #[.slice A n c, .bool true] ∧ n = xs.length ∧ n ≤ c ∧ Kd.C (Kd.int .u8) w A n xs
/-- What is got out of it, and what is left. -/
def GetV (w0 w w' : World) (e : Ending) (u : Value) (o : Option (List Int)) : Prop := ∃ v, e = .returned (.tuple #[u, v]) ∧ InV w0 v o ∧ Below w.heap.size w w'
theorem InV.below {w w' : World} {v : Value} {o : Option (List Int)} (h : InV w v o) (hb : Below w.heap.size w w') : InV w' v o := by
  cases o with
  | none => exact h
  | some xs =>
    obtain ⟨A, n, c, h1, h2, h3, h4⟩ := h
    exact ⟨A, n, c, h1, h2, h3, Kd.C_below h4 hb⟩
theorem info66 : (Try.prog.info? 66).map (·.size) = some 2 := by kernel_rfl
theorem drop_of {xs r : List Int} {a : List Int} (h : xs = a ++ r) {K : Int} (hK : K = (xs.length : Int) - (r.length : Int)) : xs.drop K.toNat = r := by
  have : K.toNat = a.length := by rw [hK, h, List.length_append]; omega
  rw [this, h, List.drop_left]
def zV : Value := .agg #[.slice none 0 0, .bool false]
set_option maxHeartbeats 1000000 in
theorem get0_any (w0 w : World) (most : Int) : Calls Try.prog 38 #[.agg #[.slice none 0 0, .bool false], .int .i64 most] w fun e w' => GetV w0 w w' e (.int .i64 0) none := by
  have hbb : Below w.heap.size w (w.alloc (.cells #[.slice none 0 0, .bool false] 66)) := al_below w _
  have HN := Lib.hid (fun w => getnum_any w none 0 [] (Kd.C_nil _ _) By.nil (by simp))
  rw [show gn [] = (0, 0) from rfl] at HN
  go_enter Try.func38, Try.ntmps38
  go_wp2_with (first | (go_at_call 49; refine (HN.out _).mono ?_; rintro e w2 ⟨rfl, rfl⟩))
  exact bodyPost_ret (v := .tuple #[.int .i64 0, .agg #[.slice none 0 0, .bool false]]) (by simp [results, Try.results38, go_sem]) rfl ⟨_, rfl, rfl, by first | exact hbb | exact ((Below.refl _ _).alloc (Nat.le_refl _) _).alloc (by simp) _⟩
set_option maxHeartbeats 1000000 in
theorem getN_any (w0 w : World) (hbw : Below w0.heap.size w0 w) (most : Int) (A : Option Addr) (m c : Nat) (xs : List Int) (hm : m = xs.length) (hmc : m ≤ c) (hC : Kd.C (Kd.int .u8) w0 A m xs) (hy : By xs) (hl : xs.length ≤ 140737488355328) (hg : getI most xs = none) : Calls Try.prog 38 #[.agg #[.slice A m c, .bool true], .int .i64 most] w fun e w' => GetV w0 w w' e (.int .i64 0) none := by
  have hbb : Below w.heap.size w (w.alloc (.cells #[.slice A m c, .bool true] 66)) := al_below w _
  have HC : Hid (∀ w', Below w.heap.size w w' → Calls Try.prog 49 #[.slice A m c] w' fun e w2 => e = .returned (.tuple #[.int .i64 (gn xs).1, .int .i64 (gn xs).2]) ∧ w2 = w') := Lib.hid (fun w' hb => by subst hm; exact getnum_any w' A c xs (Kd.C_below hC (hbw.trans (hb.mono hbw.size))) hy hl)
  have hb2 : Below w.heap.size w ((w.alloc (.cells #[.slice A m c, .bool true] 66)).alloc (.cells #[.slice none 0 0, .bool false] 66)) := hbb.alloc (by simp) _
  cases hx : get xs with
  | none =>
    rw [gn_none hx] at HC
    clear hC hg hx hm
    go_enter Try.func38, Try.ntmps38
    go_wp2_with (first | (go_at_call 49; refine (HC.out _ hb2).mono ?_; rintro e w2 ⟨rfl, rfl⟩))
    exact bodyPost_ret (v := .tuple #[.int .i64 0, .agg #[.slice none 0 0, .bool false]]) (by simp [results, Try.results38, go_sem]) rfl ⟨_, rfl, rfl, by first | exact hb2 | exact ((Below.refl _ _).alloc (Nat.le_refl _) _).alloc (by simp) _⟩
  | some q =>
    obtain ⟨n, r⟩ := q
    have hgl := get_len hy hx
    rw [getI_eq most hx] at hg
    have hn : ¬ n ≤ most := fun h => by rw [if_pos h] at hg; cases hg
    have g1 : decide (n > most) = true := by simp; omega
    have hgn : gn xs = (n, (xs.length : Int) - (r.length : Int)) := by unfold gn; rw [hx]
    rw [hgn] at HC
    obtain ⟨K, hK⟩ : ∃ K, K = (xs.length : Int) - (r.length : Int) := ⟨_, rfl⟩
    rw [← hK] at HC
    have k0 : (K == 0) = false := by simp; omega
    clear hC hg hx hm hgn hK hn hgl
    go_enter Try.func38, Try.ntmps38
    go_wp2_with (first | (go_at_call 49; refine (HC.out _ hb2).mono ?_; rintro e w2 ⟨rfl, rfl⟩))
    exact bodyPost_ret (v := .tuple #[.int .i64 0, .agg #[.slice none 0 0, .bool false]]) (by simp [results, Try.results38, go_sem]) rfl ⟨_, rfl, rfl, by first | exact hb2 | exact ((Below.refl _ _).alloc (Nat.le_refl _) _).alloc (by simp) _⟩
set_option maxHeartbeats 1000000 in
theorem getS_any (w0 w : World) (hbw : Below w0.heap.size w0 w) (most : Int) (A : Option Addr) (m c : Nat) (xs : List Int) (hm : m = xs.length) (hmc : m ≤ c) (hC : Kd.C (Kd.int .u8) w0 A m xs) (hy : By xs) (hl : xs.length ≤ 140737488355328) {n : Int} {r : List Int} (hg : getI most xs = some (n, r)) : Calls Try.prog 38 #[.agg #[.slice A m c, .bool true], .int .i64 most] w fun e w' => GetV w0 w w' e (.int .i64 n) (some r) := by
  have hbb : Below w.heap.size w (w.alloc (.cells #[.slice A m c, .bool true] 66)) := al_below w _
  have HC : Hid (∀ w', Below w.heap.size w w' → Calls Try.prog 49 #[.slice A m c] w' fun e w2 => e = .returned (.tuple #[.int .i64 (gn xs).1, .int .i64 (gn xs).2]) ∧ w2 = w') := Lib.hid (fun w' hb => by subst hm; exact getnum_any w' A c xs (Kd.C_below hC (hbw.trans (hb.mono hbw.size))) hy hl)
  have hb2 : Below w.heap.size w ((w.alloc (.cells #[.slice A m c, .bool true] 66)).alloc (.cells #[.slice none 0 0, .bool false] 66)) := hbb.alloc (by simp) _
  have hb2x : ∀ v : Value, Below w.heap.size w ((w.alloc (.cells #[.slice A m c, .bool true] 66)).alloc (.cells #[v, .bool true] 66)) := fun v => hbb.alloc (by simp) _
  obtain ⟨hx, hn⟩ : get xs = some (n, r) ∧ n ≤ most := by
    unfold getI at hg
    obtain ⟨⟨m, r'⟩, hm, hq⟩ := Option.bind_eq_some_iff.mp hg
    by_cases h2 : m ≤ most
    · simp only [h2, if_true, Option.some.injEq, Prod.mk.injEq] at hq
      obtain ⟨rfl, rfl⟩ := hq
      exact ⟨hm, h2⟩
    · simp [h2] at hq
  have hgl := get_len hy hx
  have hgi := get_inv _ _ _ hy hx
  have g1 : decide (n > most) = false := by simp; omega
  have hgn : gn xs = (n, (xs.length : Int) - (r.length : Int)) := by unfold gn; rw [hx]
  rw [hgn] at HC
  obtain ⟨K, hK⟩ : ∃ K, K = (xs.length : Int) - (r.length : Int) := ⟨_, rfl⟩
  rw [← hK] at HC
  have k0 : (K == 0) = false := by simp; omega
  obtain ⟨i05, hi05, _, hsz5, _⟩ := info_parts info5
  obtain ⟨A', hrun, hreads, hlen⟩ := print_drop_of (P := Try.prog) (Value.int .u8) (0 : Int) 28 5 .i64 Try.underlying28 hi05 hsz5 A c xs K (by omega) (by omega) (by omega)
  rw [drop_of hgi.1 hK] at hrun hreads hlen
  obtain ⟨L, hL⟩ : ∃ L, L = r.length := ⟨_, rfl⟩
  rw [← hL] at hrun hlen
  rw [← hm] at hrun
  have HL := Lib.hid hL
  have HR : Hid (Kd.C (Kd.int .u8) w0 A' L r) := Lib.hid (by subst hL; exact Kd.C_of_reads (enc := Value.int .u8) (d := (0 : Int)) (h1 := fun _ => rfl) (hreads w0 (by subst hm; exact Kd.reads_of_C (enc := Value.int .u8) (d := (0 : Int)) (h1 := fun _ => rfl) hC)))
  have HLE := Lib.hid hlen
  clear hC hg hx hm hgn hK hn hgl hgi hreads hlen hL
  go_enter Try.func38, Try.ntmps38
  go_upto_region 4 with (first | (go_at_call 49; refine (HC.out _ hb2).mono ?_; rintro e w2 ⟨rfl, rfl⟩))
  go_region
  all_goals go_wp2
  all_goals refine bodyPost_ret (v := .tuple #[.int .i64 n, .agg #[.slice A' L (c - K.toNat), .bool true]]) (by simp [results, Try.results38, go_sem]) rfl ?_
  all_goals
    have hb3 := hb2x (.slice A' L (c - K.toNat))
    exact ⟨_, rfl, ⟨A', L, _, rfl, HL.out, HLE.out, HR.out⟩, hb3.drew⟩
set_option maxHeartbeats 1000000 in
theorem txt0_any (w0 w : World) (most : Int) : Calls Try.prog 39 #[.agg #[.slice none 0 0, .bool false], .int .i64 most] w fun e w' => GetV w0 w w' e (.string ⟨#[]⟩) none := by
  have hbb : Below w.heap.size w (w.alloc (.cells #[.slice none 0 0, .bool false] 66)) := al_below w _
  have HN := Lib.hid (fun w => gettext_any w none 0 [] most (Kd.C_nil _ _) (by simp) By.nil (by simp))
  rw [show gt most [] = (⟨#[]⟩, 0) from rfl] at HN
  go_enter Try.func39, Try.ntmps39
  go_wp2_with (first | (go_at_call 50; refine (HN.out _).mono ?_; rintro e w2 ⟨rfl, rfl⟩))
  exact bodyPost_ret (v := .tuple #[.string ⟨#[]⟩, .agg #[.slice none 0 0, .bool false]]) (by simp [results, Try.results39, go_sem]) rfl ⟨_, rfl, rfl, by first | exact hbb | exact ((Below.refl _ _).alloc (Nat.le_refl _) _).alloc (by simp) _⟩
set_option maxHeartbeats 1000000 in
theorem txtN_any (w0 w : World) (hbw : Below w0.heap.size w0 w) (most : Int) (A : Option Addr) (m c : Nat) (xs : List Int) (hm : m = xs.length) (hmc : m ≤ c) (hC : Kd.C (Kd.int .u8) w0 A m xs) (hy : By xs) (hl : xs.length ≤ 140737488355328) (hg : getT most xs = none) : Calls Try.prog 39 #[.agg #[.slice A m c, .bool true], .int .i64 most] w fun e w' => GetV w0 w w' e (.string ⟨#[]⟩) none := by
  have hbb : Below w.heap.size w (w.alloc (.cells #[.slice A m c, .bool true] 66)) := al_below w _
  have HC : Hid (∀ w', Below w.heap.size w w' → Calls Try.prog 50 #[.slice A m c, .int .i64 most] w' fun e w2 => e = .returned (.tuple #[.string (gt most xs).1, .int .i64 (gt most xs).2]) ∧ w2 = w') := Lib.hid (fun w' hb => by subst hm; exact gettext_any w' A c xs most (Kd.C_below hC (hbw.trans (hb.mono hbw.size))) hmc hy hl)
  have hb2 : Below w.heap.size w ((w.alloc (.cells #[.slice A m c, .bool true] 66)).alloc (.cells #[.slice none 0 0, .bool false] 66)) := hbb.alloc (by simp) _
  rw [gt_none hg] at HC
  clear hC hg hm
  go_enter Try.func39, Try.ntmps39
  go_wp2_with (first | (go_at_call 50; refine (HC.out _ hb2).mono ?_; rintro e w2 ⟨rfl, rfl⟩))
  exact bodyPost_ret (v := .tuple #[.string ⟨#[]⟩, .agg #[.slice none 0 0, .bool false]]) (by simp [results, Try.results39, go_sem]) rfl ⟨_, rfl, rfl, by first | exact hb2 | exact ((Below.refl _ _).alloc (Nat.le_refl _) _).alloc (by simp) _⟩
theorem getT_split {most : Int} {xs : List Int} {s : ByteArray} {r : List Int} (hy : By xs) (hg : getT most xs = some (s, r)) : ∃ K : Int, gt most xs = (s, K) ∧ K = (xs.length : Int) - (r.length : Int) ∧ 0 < K ∧ K ≤ (xs.length : Int) ∧ xs.drop K.toNat = r := by
  have h1 := getT_inv hy hg
  have h2 := getT_len hy hg
  refine ⟨_, by unfold gt; rw [hg], rfl, by omega, by omega, drop_of h1.1 rfl⟩
set_option maxHeartbeats 1000000 in
theorem txtS_any (w0 w : World) (hbw : Below w0.heap.size w0 w) (most : Int) (A : Option Addr) (m c : Nat) (xs : List Int) (hm : m = xs.length) (hmc : m ≤ c) (hC : Kd.C (Kd.int .u8) w0 A m xs) (hy : By xs) (hl : xs.length ≤ 140737488355328) {s : ByteArray} {r : List Int} (hg : getT most xs = some (s, r)) : Calls Try.prog 39 #[.agg #[.slice A m c, .bool true], .int .i64 most] w fun e w' => GetV w0 w w' e (.string s) (some r) := by
  have hbb : Below w.heap.size w (w.alloc (.cells #[.slice A m c, .bool true] 66)) := al_below w _
  have HC : Hid (∀ w', Below w.heap.size w w' → Calls Try.prog 50 #[.slice A m c, .int .i64 most] w' fun e w2 => e = .returned (.tuple #[.string (gt most xs).1, .int .i64 (gt most xs).2]) ∧ w2 = w') := Lib.hid (fun w' hb => by subst hm; exact gettext_any w' A c xs most (Kd.C_below hC (hbw.trans (hb.mono hbw.size))) hmc hy hl)
  have hb2 : Below w.heap.size w ((w.alloc (.cells #[.slice A m c, .bool true] 66)).alloc (.cells #[.slice none 0 0, .bool false] 66)) := hbb.alloc (by simp) _
  have hb2x : ∀ v : Value, Below w.heap.size w ((w.alloc (.cells #[.slice A m c, .bool true] 66)).alloc (.cells #[v, .bool true] 66)) := fun v => hbb.alloc (by simp) _
  obtain ⟨K, hgt, hK, hK0, hKl, hdr⟩ := getT_split hy hg
  rw [hgt] at HC
  have k0 : (K == 0) = false := by simp; omega
  obtain ⟨i05, hi05, _, hsz5, _⟩ := info_parts info5
  obtain ⟨A', hrun, hreads, hlen⟩ := print_drop_of (P := Try.prog) (Value.int .u8) (0 : Int) 28 5 .i64 Try.underlying28 hi05 hsz5 A c xs K (by omega) (by omega) (by omega)
  rw [hdr] at hrun hreads hlen
  obtain ⟨L, hL⟩ : ∃ L, L = r.length := ⟨_, rfl⟩
  rw [← hL] at hrun hlen
  rw [← hm] at hrun
  have HL := Lib.hid hL
  have HR : Hid (Kd.C (Kd.int .u8) w0 A' L r) := Lib.hid (by subst hL; exact Kd.C_of_reads (enc := Value.int .u8) (d := (0 : Int)) (h1 := fun _ => rfl) (hreads w0 (by subst hm; exact Kd.reads_of_C (enc := Value.int .u8) (d := (0 : Int)) (h1 := fun _ => rfl) hC)))
  have HLE := Lib.hid hlen
  clear hC hg hm hgt hK hK0 hKl hdr hreads hlen hL
  go_enter Try.func39, Try.ntmps39
  go_upto_region 4 with (first | (go_at_call 50; refine (HC.out _ hb2).mono ?_; rintro e w2 ⟨rfl, rfl⟩))
  go_region
  all_goals go_wp2
  all_goals refine bodyPost_ret (v := .tuple #[.string s, .agg #[.slice A' L (c - K.toNat), .bool true]]) (by simp [results, Try.results39, go_sem]) rfl ?_
  all_goals
    have hb3 := hb2x (.slice A' L (c - K.toNat))
    exact ⟨_, rfl, ⟨A', L, _, rfl, HL.out, HLE.out, HR.out⟩, hb3.drew⟩

/-! ### one contract for each -/
theorem get_any (w0 w : World) (hbw : Below w0.heap.size w0 w) (most : Int) (v : Value) (o : Option (List Int)) (h : InV w0 v o) (hy : ∀ xs, o = some xs → By xs ∧ xs.length ≤ 140737488355328) : Calls Try.prog 38 #[v, .int .i64 most] w fun e w' => GetV w0 w w' e (.int .i64 ((o.bind (getI most)).elim 0 (·.1))) ((o.bind (getI most)).map (·.2)) := by
  cases o with
  | none =>
    obtain rfl : v = _ := h
    exact get0_any w0 w most
  | some xs =>
    obtain ⟨A, n, c, rfl, h2, h3, h4⟩ := h
    obtain ⟨hb, hl⟩ := hy xs rfl
    cases hg : getI most xs with
    | none =>
      rw [Option.bind_some, hg]
      exact getN_any w0 w hbw most A n c xs h2 h3 h4 hb hl hg
    | some q =>
      obtain ⟨N, r⟩ := q
      rw [Option.bind_some, hg]
      exact getS_any w0 w hbw most A n c xs h2 h3 h4 hb hl hg
theorem txt_any (w0 w : World) (hbw : Below w0.heap.size w0 w) (most : Int) (v : Value) (o : Option (List Int)) (h : InV w0 v o) (hy : ∀ xs, o = some xs → By xs ∧ xs.length ≤ 140737488355328) : Calls Try.prog 39 #[v, .int .i64 most] w fun e w' => GetV w0 w w' e (.string ((o.bind (getT most)).elim ⟨#[]⟩ (·.1))) ((o.bind (getT most)).map (·.2)) := by
  cases o with
  | none =>
    obtain rfl : v = _ := h
    exact txt0_any w0 w most
  | some xs =>
    obtain ⟨A, n, c, rfl, h2, h3, h4⟩ := h
    obtain ⟨hb, hl⟩ := hy xs rfl
    cases hg : getT most xs with
    | none =>
      rw [Option.bind_some, hg]
      exact txtN_any w0 w hbw most A n c xs h2 h3 h4 hb hl hg
    | some q =>
      obtain ⟨N, r⟩ := q
      rw [Option.bind_some, hg]
      exact txtS_any w0 w hbw most A n c xs h2 h3 h4 hb hl hg
end Go.Proofs.Ytnognmbapciegaa.Bk
namespace Go.Proofs.Ytnognmbapciegaa.Bk
open Go.RowKit Go.Proofs.YtnognmbapciegaaW.PrintWords Go.Proofs.YtnognmbapciegaaW.PrintLast Go.Proofs.YtnognmbapciegaaW.PrintMore Go.Proofs.Ytnognmbapciegaa.PBk
set_option linter.unusedVariables false
set_option linter.unusedSimpArgs false

theorem InV.form {w : World} {v : Value} {o : Option (List Int)} (h : InV w v o) : ∃ (A : Option Addr) (n c : Nat) (b : Bool), v = .agg #[.slice A n c, .bool b] := by
  cases o with
  | none => exact ⟨none, 0, 0, false, h⟩
  | some xs =>
    obtain ⟨A, n, c, h1, _⟩ := h
    exact ⟨A, n, c, true, h1⟩
/-- Bytes, and not too many. -/
def Fine (o : Option (List Int)) : Prop := ∀ xs, o = some xs → By xs ∧ xs.length ≤ 140737488355328
theorem fine_getI {o : Option (List Int)} (h : Fine o) (m : Int) : Fine ((o.bind (getI m)).map (·.2)) := by
  intro r hr
  cases o with
  | none => cases hr
  | some xs =>
    obtain ⟨hb, hl⟩ := h xs rfl
    rw [Option.bind_some] at hr
    cases hg : getI m xs with
    | none => rw [hg] at hr; cases hr
    | some q =>
      rw [hg] at hr
      obtain rfl : q.2 = r := Option.some.inj hr
      have := getI_len hb (n := q.1) (r := q.2) hg
      exact ⟨getI_by hb (n := q.1) (r := q.2) hg, by omega⟩
theorem fine_getT {o : Option (List Int)} (h : Fine o) (m : Int) : Fine ((o.bind (getT m)).map (·.2)) := by
  intro r hr
  cases o with
  | none => cases hr
  | some xs =>
    obtain ⟨hb, hl⟩ := h xs rfl
    rw [Option.bind_some] at hr
    cases hg : Bk.getT m xs with
    | none => rw [hg] at hr; cases hr
    | some q =>
      rw [hg] at hr
      obtain rfl : q.2 = r := Option.some.inj hr
      have := getT_len hb (s := q.1) (r := q.2) hg
      exact ⟨getT_by hb (s := q.1) (r := q.2) hg, by omega⟩
def oN (o : Option (List Int)) (m : Int) : Int := (o.bind (getI m)).elim 0 (·.1)
def oNr (o : Option (List Int)) (m : Int) : Option (List Int) := (o.bind (getI m)).map (·.2)
def oT (o : Option (List Int)) (m : Int) : ByteArray := (o.bind (getT m)).elim ⟨#[]⟩ (·.1)
def oTr (o : Option (List Int)) (m : Int) : Option (List Int) := (o.bind (getT m)).map (·.2)
def oE (o : Option (List Int)) : S44 :=
  ⟨oN o 14, wrap64 (oN (oNr o 14) 4611686018427387904 - 1), oT (oNr (oNr (oNr o 14) 4611686018427387904) 4611686018427387904) 1048576, oN (oNr (oNr o 14) 4611686018427387904) 4611686018427387904⟩
def oEr (o : Option (List Int)) : Option (List Int) := oTr (oNr (oNr (oNr o 14) 4611686018427387904) 4611686018427387904) 1048576
theorem info44s : (Try.prog.info? 44).map (·.size) = some 4 := by kernel_rfl
/-- A block of two cells for what is read. -/
def In2 (A : Option Addr) (n c : Nat) (b : Bool) : Obj := .cells #[.slice A n c, .bool b] 66
theorem blk_far {w : World} {g : Nat} {o : Obj} (h : w.heap[g]? = some o) (p : Addr) (hne : g ≠ p.block) (u : Value) : (w.setCell p u).heap[g]? = some o := (Below.heap_setCell w p u g hne).trans h
def GetV2 (w0 w w' : World) (e : Ending) (u : Value) (o : Option (List Int)) : Prop := ∃ (A : Option Addr) (n c : Nat) (b : Bool), e = .returned (.tuple #[u, .agg #[.slice A n c, .bool b]]) ∧ InV w0 (.agg #[.slice A n c, .bool b]) o ∧ Below w.heap.size w w'
theorem GetV.two {w0 w w' : World} {e : Ending} {u : Value} {o : Option (List Int)} (h : GetV w0 w w' e u o) : GetV2 w0 w w' e u o := by
  obtain ⟨v, h1, h2, h3⟩ := h
  obtain ⟨A, n, c, b, rfl⟩ := h2.form
  exact ⟨A, n, c, b, h1, h2, h3⟩
theorem get_any2 (w0 w : World) (hbw : Below w0.heap.size w0 w) (most : Int) (v : Value) (o : Option (List Int)) (h : InV w0 v o) (hy : Fine o) : Calls Try.prog 38 #[v, .int .i64 most] w fun e w' => GetV2 w0 w w' e (.int .i64 (oN o most)) (oNr o most) := (get_any w0 w hbw most v o h hy).mono fun _ _ h => h.two
theorem txt_any2 (w0 w : World) (hbw : Below w0.heap.size w0 w) (most : Int) (v : Value) (o : Option (List Int)) (h : InV w0 v o) (hy : Fine o) : Calls Try.prog 39 #[v, .int .i64 most] w fun e w' => GetV2 w0 w w' e (.string (oT o most)) (oTr o most) := (txt_any w0 w hbw most v o h hy).mono fun _ _ h => h.two
def EvP (w0 w : World) (o : Option (List Int)) (e : Ending) (w' : World) : Prop := ∃ v', e = .returned (.tuple #[evV (oE o), v']) ∧ InV w0 v' (oEr o) ∧ Below w.heap.size w w'
set_option maxHeartbeats 400000 in
set_option maxRecDepth 100000 in
theorem event_any (w0 w : World) (hbw : Below w0.heap.size w0 w) (v : Value) (o : Option (List Int)) (h : InV w0 v o) (hy : Fine o) : Calls Try.prog 40 #[v] w fun e w' => EvP w0 w o e w' := by
  obtain ⟨A, n, c, b, rfl⟩ := h.form
  have hy1 : Fine (oNr o 14) := fine_getI hy 14
  have hy2 : Fine (oNr (oNr o 14) 4611686018427387904) := fine_getI hy1 4611686018427387904
  have hy3 : Fine (oNr (oNr (oNr o 14) 4611686018427387904) 4611686018427387904) := fine_getI hy2 4611686018427387904
  have hb0 : Below w.heap.size w (((w.alloc (.cells #[.slice A n c, .bool b] 66)).alloc (.cells #[.int .i64 0, .int .i64 0, .string ⟨#[]⟩, .int .i64 0] 44)).alloc (.cells #[.slice none 0 0, .bool false] 66)) := (((Below.refl _ _).alloc (Nat.le_refl _) _).alloc (by simp) _).alloc (by simp; omega) _
  have hk0 : (((w.alloc (.cells #[.slice A n c, .bool b] 66)).alloc (.cells #[.int .i64 0, .int .i64 0, .string ⟨#[]⟩, .int .i64 0] 44)).alloc (.cells #[.slice none 0 0, .bool false] 66)).heap[w.heap.size + 1]? = some (.cells #[.int .i64 0, .int .i64 0, .string ⟨#[]⟩, .int .i64 0] 44 (0, 0)) ∧ (((w.alloc (.cells #[.slice A n c, .bool b] 66)).alloc (.cells #[.int .i64 0, .int .i64 0, .string ⟨#[]⟩, .int .i64 0] 44)).alloc (.cells #[.slice none 0 0, .bool false] 66)).heap[w.heap.size + 1 + 1]? = some (.cells #[.slice none 0 0, .bool false] 66 (0, 0)) := by
    have e1 := blk_new (w.alloc (.cells #[.slice A n c, .bool b] 66)) (.cells #[.int .i64 0, .int .i64 0, .string ⟨#[]⟩, .int .i64 0] 44)
    have e2 := blk_new ((w.alloc (.cells #[.slice A n c, .bool b] 66)).alloc (.cells #[.int .i64 0, .int .i64 0, .string ⟨#[]⟩, .int .i64 0] 44)) (.cells #[.slice none 0 0, .bool false] 66)
    rw [al_size] at e1
    rw [al_size, al_size] at e2
    exact ⟨blk_alloc e1 _, e2⟩
  have H0 := Lib.hid hk0
  clear hk0
  go_enter Try.func40, Try.ntmps40
  go_upto_region 5 with (first
    | (go_at_call 39; (have hguard := HI3; clear hguard); go_loud ((with_reducible refine (txt_any2 w0 _ (hbw.trans ((HB3.out.alloc HB3.out.size (.cells #[.slice A3 n3 c3, .bool b3] 66)).mono hbw.size)) 1048576 _ (oNr (oNr (oNr o 14) 4611686018427387904) 4611686018427387904) HI3.out hy3).mono ?_); rintro e5 w4 ⟨A4, n4, c4, b4, rfl, hin, hb⟩; have HI4 := Lib.hid hin; have HB4 : Hid (Below w.heap.size w w4) := Lib.hid ((HB3.out.alloc HB3.out.size (.cells #[.slice A3 n3 c3, .bool b3] 66)).trans (hb.mono (HB3.out.alloc HB3.out.size (.cells #[.slice A3 n3 c3, .bool b3] 66)).size)); have HK4 : Hid (w4.heap[w.heap.size + 1]? = some (.cells #[.int .i64 0, .int .i64 0, .string ⟨#[]⟩, .int .i64 0] 44 (0, 0)) ∧ w4.heap[w.heap.size + 1 + 1]? = some (.cells #[.slice none 0 0, .bool false] 66 (0, 0))) := Lib.hid ⟨blk_below (And.intro (blk_alloc HK3.out.1 (.cells #[.slice A3 n3 c3, .bool b3] 66)) (blk_alloc HK3.out.2 (.cells #[.slice A3 n3 c3, .bool b3] 66))).1 hb, blk_below (And.intro (blk_alloc HK3.out.1 (.cells #[.slice A3 n3 c3, .bool b3] 66)) (blk_alloc HK3.out.2 (.cells #[.slice A3 n3 c3, .bool b3] 66))).2 hb⟩; clear hb hin))
    | (go_at_call 38; (have hguard := HI2; clear hguard); go_loud ((with_reducible refine (get_any2 w0 _ (hbw.trans ((HB2.out.alloc HB2.out.size (.cells #[.slice A2 n2 c2, .bool b2] 66)).mono hbw.size)) 4611686018427387904 _ (oNr (oNr o 14) 4611686018427387904) HI2.out hy2).mono ?_); rintro e5 w3 ⟨A3, n3, c3, b3, rfl, hin, hb⟩; have HI3 := Lib.hid hin; have HB3 : Hid (Below w.heap.size w w3) := Lib.hid ((HB2.out.alloc HB2.out.size (.cells #[.slice A2 n2 c2, .bool b2] 66)).trans (hb.mono (HB2.out.alloc HB2.out.size (.cells #[.slice A2 n2 c2, .bool b2] 66)).size)); have HK3 : Hid (w3.heap[w.heap.size + 1]? = some (.cells #[.int .i64 0, .int .i64 0, .string ⟨#[]⟩, .int .i64 0] 44 (0, 0)) ∧ w3.heap[w.heap.size + 1 + 1]? = some (.cells #[.slice none 0 0, .bool false] 66 (0, 0))) := Lib.hid ⟨blk_below (And.intro (blk_alloc HK2.out.1 (.cells #[.slice A2 n2 c2, .bool b2] 66)) (blk_alloc HK2.out.2 (.cells #[.slice A2 n2 c2, .bool b2] 66))).1 hb, blk_below (And.intro (blk_alloc HK2.out.1 (.cells #[.slice A2 n2 c2, .bool b2] 66)) (blk_alloc HK2.out.2 (.cells #[.slice A2 n2 c2, .bool b2] 66))).2 hb⟩; clear hb hin))
    | (go_at_call 38; (have hguard := HI1; clear hguard); go_loud ((with_reducible refine (get_any2 w0 _ (hbw.trans ((HB1.out.alloc HB1.out.size (.cells #[.slice A1 n1 c1, .bool b1] 66)).mono hbw.size)) 4611686018427387904 _ (oNr o 14) HI1.out hy1).mono ?_); rintro e5 w2 ⟨A2, n2, c2, b2, rfl, hin, hb⟩; have HI2 := Lib.hid hin; have HB2 : Hid (Below w.heap.size w w2) := Lib.hid ((HB1.out.alloc HB1.out.size (.cells #[.slice A1 n1 c1, .bool b1] 66)).trans (hb.mono (HB1.out.alloc HB1.out.size (.cells #[.slice A1 n1 c1, .bool b1] 66)).size)); have HK2 : Hid (w2.heap[w.heap.size + 1]? = some (.cells #[.int .i64 0, .int .i64 0, .string ⟨#[]⟩, .int .i64 0] 44 (0, 0)) ∧ w2.heap[w.heap.size + 1 + 1]? = some (.cells #[.slice none 0 0, .bool false] 66 (0, 0))) := Lib.hid ⟨blk_below (And.intro (blk_alloc HK1.out.1 (.cells #[.slice A1 n1 c1, .bool b1] 66)) (blk_alloc HK1.out.2 (.cells #[.slice A1 n1 c1, .bool b1] 66))).1 hb, blk_below (And.intro (blk_alloc HK1.out.1 (.cells #[.slice A1 n1 c1, .bool b1] 66)) (blk_alloc HK1.out.2 (.cells #[.slice A1 n1 c1, .bool b1] 66))).2 hb⟩; clear hb hin))
    | (go_at_call 38; go_loud ((with_reducible refine (get_any2 w0 _ (hbw.trans (hb0.mono hbw.size)) 14 _ o h hy).mono ?_); rintro e5 w1 ⟨A1, n1, c1, b1, rfl, hin, hb⟩; have HI1 := Lib.hid hin; have HB1 : Hid (Below w.heap.size w w1) := Lib.hid (hb0.trans (hb.mono hb0.size)); have HK1 : Hid (w1.heap[w.heap.size + 1]? = some (.cells #[.int .i64 0, .int .i64 0, .string ⟨#[]⟩, .int .i64 0] 44 (0, 0)) ∧ w1.heap[w.heap.size + 1 + 1]? = some (.cells #[.slice none 0 0, .bool false] 66 (0, 0))) := Lib.hid ⟨blk_below H0.out.1 hb, blk_below H0.out.2 hb⟩; clear hb hin)))
  have hk5 := And.intro (blk_alloc HK4.out.1 (.cells #[.slice A4 n4 c4, .bool b4] 66)) (blk_alloc HK4.out.2 (.cells #[.slice A4 n4 c4, .bool b4] 66))
  have hb5 := HB4.out.alloc HB4.out.size (.cells #[.slice A4 n4 c4, .bool b4] 66)
  have hk6 := blk_new w4 (.cells #[.slice A4 n4 c4, .bool b4] 66)
  obtain ⟨wa, hwa⟩ : ∃ wa, wa = w4.alloc (.cells #[.slice A4 n4 c4, .bool b4] 66) := ⟨_, rfl⟩
  rw [← hwa] at hk5 hb5 hk6 ⊢
  have f0 : wa.cell? ⟨w4.heap.size, 0, none⟩ = some (.slice A4 n4 c4) := blk_cell hk6 0
  have f1 : wa.cell? ⟨w4.heap.size, 1, none⟩ = some (.bool b4) := blk_cell hk6 1
  have g0 : wa.cell? ⟨w.heap.size + 1, 0, none⟩ = some (.int .i64 0) := blk_cell hk5.1 0
  have g1 : wa.cell? ⟨w.heap.size + 1, 1, none⟩ = some (.int .i64 0) := blk_cell hk5.1 1
  have g2 : wa.cell? ⟨w.heap.size + 1, 2, none⟩ = some (.string ⟨#[]⟩) := blk_cell hk5.1 2
  have g3 : wa.cell? ⟨w.heap.size + 1, 3, none⟩ = some (.int .i64 0) := blk_cell hk5.1 3
  have z0 := blk_frozen hk5.1 0
  have z1 := blk_frozen hk5.1 1
  have z2 := blk_frozen hk5.1 2
  have z3 := blk_frozen hk5.1 3
  have j0 : wa.cell? ⟨w.heap.size + 1 + 1, 0, none⟩ = some (.slice none 0 0) := blk_cell hk5.2 0
  have j1 : wa.cell? ⟨w.heap.size + 1 + 1, 1, none⟩ = some (.bool false) := blk_cell hk5.2 1
  have y0 := blk_frozen hk5.2 0
  have y1 := blk_frozen hk5.2 1
  have HK5 := Lib.hid hk5
  have HB5 := Lib.hid hb5
  have hne : w.heap.size + 1 < w4.heap.size := by
    have := blk_lt HK4.out.2
    omega
  clear hk5 hb5 hk6 hwa HI1 HI2 HI3 HK1 HK2 HK3 HB1 HB2 HB3
  go_region
  all_goals go_wp2
  have hn1 : w.heap.size + 1 ≠ w.heap.size + 1 + 1 := by omega
  have hn2 : w.heap.size + 1 + 1 ≠ w.heap.size + 1 := by omega
  refine bodyPost_ret (results_cc (p := 2) (p' := 3) rfl _ _ (w.heap.size + 1) (w.heap.size + 1 + 1) 44 66 #[.int .i64 (oN o 14), .int .i64 (wrap64 (oN (oNr o 14) 4611686018427387904 - 1)), .string (oT (oNr (oNr (oNr o 14) 4611686018427387904) 4611686018427387904) 1048576), .int .i64 (oN (oNr (oNr o 14) 4611686018427387904) 4611686018427387904)] #[.slice A4 n4 c4, .bool b4] (0, 0) (0, 0) _ _ rfl ?_ Try.underlying44 rfl info44s rfl ?_ Try.underlying66 rfl info66) rfl ?_
  · exact blk_drew (blk_far (blk_far (blk_set (blk_set (blk_set (blk_set HK5.out.1 0 _) 1 _) 2 _) 3 _) ⟨w.heap.size + 1 + 1, 0, none⟩ hn1 _) ⟨w.heap.size + 1 + 1, 1, none⟩ hn1 _)
  · exact blk_drew (blk_set (blk_set (blk_far (blk_far (blk_far (blk_far HK5.out.2 ⟨w.heap.size + 1, 0, none⟩ hn2 _) ⟨w.heap.size + 1, 1, none⟩ hn2 _) ⟨w.heap.size + 1, 2, none⟩ hn2 _) ⟨w.heap.size + 1, 3, none⟩ hn2 _) 0 _) 1 _)
  · have hbf := ((((((HB5.out.setCell (p := ⟨w.heap.size + 1, 0, none⟩) (Nat.le_add_right _ _) (.int .i64 (oN o 14))).setCell (p := ⟨w.heap.size + 1, 1, none⟩) (Nat.le_add_right _ _) (.int .i64 (wrap64 (oN (oNr o 14) 4611686018427387904 - 1)))).setCell (p := ⟨w.heap.size + 1, 2, none⟩) (Nat.le_add_right _ _) (.string (oT (oNr (oNr (oNr o 14) 4611686018427387904) 4611686018427387904) 1048576))).setCell (p := ⟨w.heap.size + 1, 3, none⟩) (Nat.le_add_right _ _) (.int .i64 (oN (oNr (oNr o 14) 4611686018427387904) 4611686018427387904))).setCell (p := ⟨w.heap.size + 1 + 1, 0, none⟩) (by show w.heap.size ≤ w.heap.size + 1 + 1; omega) (.slice A4 n4 c4)).setCell (p := ⟨w.heap.size + 1 + 1, 1, none⟩) (by show w.heap.size ≤ w.heap.size + 1 + 1; omega) (.bool b4)).drew
    exact ⟨_, rfl, HI4.out, hbf⟩
end Go.Proofs.Ytnognmbapciegaa.Bk
namespace Go.Proofs.Ytnognmbapciegaa.Bk
open Go.RowKit Go.Proofs.YtnognmbapciegaaW.PrintWords Go.Proofs.YtnognmbapciegaaW.PrintLast Go.Proofs.YtnognmbapciegaaW.PrintMore Go.Proofs.Ytnognmbapciegaa.PBk
set_option linter.unusedVariables false
set_option linter.unusedSimpArgs false

theorem oN_some {xs r : List Int} {m n : Int} (h : getI m xs = some (n, r)) : oN (some xs) m = n ∧ oNr (some xs) m = some r := by
  unfold oN oNr
  rw [Option.bind_some, h]
  exact ⟨rfl, rfl⟩
theorem oN_none {xs : List Int} {m : Int} (h : getI m xs = none) : oN (some xs) m = 0 ∧ oNr (some xs) m = none := by
  unfold oN oNr
  rw [Option.bind_some, h]
  exact ⟨rfl, rfl⟩
theorem oN_no (m : Int) : oN none m = 0 ∧ oNr none m = none := ⟨rfl, rfl⟩
theorem oT_some {xs r : List Int} {m : Int} {s : ByteArray} (h : getT m xs = some (s, r)) : oT (some xs) m = s ∧ oTr (some xs) m = some r := by
  unfold oT oTr
  rw [Option.bind_some, h]
  exact ⟨rfl, rfl⟩
theorem oT_none {xs : List Int} {m : Int} (h : getT m xs = none) : oT (some xs) m = ⟨#[]⟩ ∧ oTr (some xs) m = none := by
  unfold oT oTr
  rw [Option.bind_some, h]
  exact ⟨rfl, rfl⟩
theorem oT_no (m : Int) : oT none m = ⟨#[]⟩ ∧ oTr none m = none := ⟨rfl, rfl⟩
theorem getI_all {xs : List Int} (hb : By xs) : getI 4611686018427387904 xs = get xs := by
  cases hg : get xs with
  | none => exact getI_none _ hg
  | some q =>
    have := get_inv _ _ _ hb hg
    rw [getI_eq _ hg, if_pos this.2.2]
theorem oE_char {r : List Int} (hb : By r) : (getE r = none ∧ oEr (some r) = none) ∨ (∃ e r', getE r = some (e, r') ∧ oE (some r) = e ∧ oEr (some r) = some r') := by
  unfold getE oE oEr
  cases m1 : getI 14 r with
  | none =>
    have h1 := oN_none m1
    rw [h1.2]
    exact .inl ⟨rfl, rfl⟩
  | some q1 =>
    obtain ⟨K, z1⟩ := q1
    have h1 := oN_some m1
    have b1 := getI_by hb m1
    rw [h1.1, h1.2]
    simp only [Option.bind_some]
    cases m2 : get z1 with
    | none =>
      have h2 := oN_none (by rw [getI_all b1]; exact m2 : getI 4611686018427387904 z1 = none)
      rw [h2.2]
      exact .inl ⟨rfl, rfl⟩
    | some q2 =>
      obtain ⟨N, z2⟩ := q2
      have h2 := oN_some (by rw [getI_all b1]; exact m2 : getI 4611686018427387904 z1 = some (N, z2))
      have b2 := get_by b1 m2
      have i2 := get_inv _ _ _ b1 m2
      rw [h2.1, h2.2]
      simp only [Option.bind_some]
      cases m3 : get z2 with
      | none =>
        have h3 := oN_none (by rw [getI_all b2]; exact m3 : getI 4611686018427387904 z2 = none)
        rw [h3.2]
        exact .inl ⟨rfl, rfl⟩
      | some q3 =>
        obtain ⟨T, z3⟩ := q3
        have h3 := oN_some (by rw [getI_all b2]; exact m3 : getI 4611686018427387904 z2 = some (T, z3))
        rw [h3.1, h3.2]
        simp only [Option.bind_some]
        cases m4 : getT 1048576 z3 with
        | none =>
          have h4 := oT_none m4
          rw [h4.2]
          exact .inl ⟨rfl, rfl⟩
        | some q4 =>
          obtain ⟨s, z4⟩ := q4
          have h4 := oT_some m4
          rw [h4.1, h4.2]
          refine .inr ⟨_, _, rfl, ?_, rfl⟩
          have hw : wrap64 (N - 1) = N - 1 := by unfold wrap64; omega
          rw [hw]
theorem oN_bd {o : Option (List Int)} (h : Fine o) (m : Int) (hm : 0 ≤ m) : 0 ≤ oN o m ∧ oN o m ≤ m := by
  cases o with
  | none => exact ⟨Int.le_refl _, hm⟩
  | some xs =>
    cases hg : getI m xs with
    | none => rw [(oN_none hg).1]; exact ⟨Int.le_refl _, hm⟩
    | some q =>
      obtain ⟨n, r⟩ := q
      rw [(oN_some hg).1]
      have := getI_inv (h xs rfl).1 hg
      exact ⟨this.2.1, this.2.2.2⟩

/-- Bytes, no more than so many. -/
def Fit (L : Nat) (o : Option (List Int)) : Prop := ∀ xs, o = some xs → By xs ∧ xs.length ≤ L
theorem Fit.fine {L : Nat} {o : Option (List Int)} (h : Fit L o) (hL : L ≤ 140737488355328) : Fine o := fun xs hx => ⟨(h xs hx).1, Nat.le_trans (h xs hx).2 hL⟩
theorem fit_N {L : Nat} {o : Option (List Int)} (h : Fit L o) (m : Int) : Fit L (oNr o m) := by
  intro r hr
  cases o with
  | none => cases hr
  | some xs =>
    obtain ⟨hb, hl⟩ := h xs rfl
    cases hg : getI m xs with
    | none => rw [(oN_none hg).2] at hr; cases hr
    | some q =>
      obtain ⟨n, r'⟩ := q
      rw [(oN_some hg).2] at hr
      obtain rfl := Option.some.inj hr
      have := getI_len hb hg
      exact ⟨getI_by hb hg, by omega⟩
theorem fit_T {L : Nat} {o : Option (List Int)} (h : Fit L o) (m : Int) : Fit L (oTr o m) := by
  intro r hr
  cases o with
  | none => cases hr
  | some xs =>
    obtain ⟨hb, hl⟩ := h xs rfl
    cases hg : getT m xs with
    | none => rw [(oT_none hg).2] at hr; cases hr
    | some q =>
      obtain ⟨n, r'⟩ := q
      rw [(oT_some hg).2] at hr
      obtain rfl := Option.some.inj hr
      have := getT_len hb hg
      exact ⟨getT_by hb hg, by omega⟩
/-- The events so far. -/
structure InnP (L : Nat) (z : Option (List Int)) (k j : Nat) (o : Option (List Int)) (done : List S44) : Prop where
  h : (o = none ∧ z.bind (getEs k) = none) ∨ (∃ r, o = some r ∧ By r ∧ r.length + done.length ≤ L ∧ z.bind (getEs k) = (getEs (k - j) r).bind fun q => some (done ++ q.1, q.2))
  lj : done.length = j
theorem InnP.fit {L : Nat} {z : Option (List Int)} {k j : Nat} {o : Option (List Int)} {done : List S44} (h : InnP L z k j o done) : Fit L o := by
  intro xs hx
  rcases h.h with ⟨h1, _⟩ | ⟨r, h1, h2, h3, _⟩
  · rw [h1] at hx; cases hx
  · rw [h1] at hx
    obtain rfl := Option.some.inj hx
    exact ⟨h2, by omega⟩
theorem InnP.first {L : Nat} {z : Option (List Int)} (k : Nat) (h : Fit L z) : InnP L z k 0 z [] := by
  refine ⟨?_, rfl⟩
  cases z with
  | none => exact .inl ⟨rfl, rfl⟩
  | some r =>
    refine .inr ⟨r, rfl, (h r rfl).1, by have := (h r rfl).2; simpa using this, ?_⟩
    rw [Option.bind_some, Nat.sub_zero]
    cases getEs k r <;> rfl
theorem InnP.step {L : Nat} {z : Option (List Int)} {k j : Nat} {r : List Int} {done : List S44} (h : InnP L z k j (some r) done) (hj : j < k) : InnP L z k (j + 1) (oEr (some r)) (done ++ [oE (some r)]) := by
  have hb := (h.fit r rfl).1
  refine ⟨?_, by rw [List.length_append, h.lj]; rfl⟩
  rcases h.h with ⟨h1, _⟩ | ⟨r', h1, h2, h3, h4⟩
  · cases h1
  · obtain rfl := Option.some.inj h1
    obtain ⟨i, hi⟩ : ∃ i, k - j = i + 1 := ⟨k - j - 1, by omega⟩
    have hi' : k - (j + 1) = i := by omega
    rw [hi, getEs] at h4
    rcases oE_char hb with ⟨e1, e2⟩ | ⟨e, r2, e1, e2, e3⟩
    · rw [e1] at h4
      exact .inl ⟨e2, h4⟩
    · rw [e1] at h4
      have hl := getE_len hb e1
      have hi2 := getE_inv hb e1
      refine .inr ⟨r2, e3, by rw [hi2.1] at hb; exact hb.right, by rw [List.length_append, List.length_singleton]; omega, ?_⟩
      rw [h4, hi', e2]
      simp only [Option.bind_some]
      cases getEs i r2 with
      | none => rfl
      | some p => simp
theorem InnP.last {L : Nat} {z : Option (List Int)} {k j : Nat} {o : Option (List Int)} {done : List S44} (h : InnP L z k j o done) (he : o = none ∨ j = k) : (o = none ∧ z.bind (getEs k) = none) ∨ (∃ r, o = some r ∧ By r ∧ r.length + done.length ≤ L ∧ z.bind (getEs k) = some (done, r)) := by
  rcases h.h with h1 | ⟨r, h1, h2, h3, h4⟩
  · exact .inl h1
  · rcases he with he | he
    · rw [he] at h1; cases h1
    · refine .inr ⟨r, h1, h2, h3, ?_⟩
      rw [h4, he, Nat.sub_self]
      simp [getEs]
def rName (ys : List Int) : ByteArray := oT (some ys) 80
def rA (ys : List Int) : Option (List Int) := oTr (some ys) 80
def rV (ys : List Int) : Int := oN (rA ys) 7
def rC (ys : List Int) : Option (List Int) := oNr (rA ys) 7
def rK (L : Nat) (ys : List Int) : Int := oN (rC ys) (L : Int)
def rZ (L : Nat) (ys : List Int) : Option (List Int) := oNr (rC ys) (L : Int)
theorem getR_via {ys : List Int} {L : Nat} (hb : By ys) (hl : ys.length ≤ L) : getR ys = ((rZ L ys).bind (getEs (rK L ys).toNat)).bind fun q => some ((⟨rName ys, rV ys⟩, q.1), q.2) := by
  unfold getR rZ rK rC rV rA rName
  cases m1 : getT 80 ys with
  | none =>
    rw [(oT_none m1).2]
    rfl
  | some q1 =>
    obtain ⟨s, z1⟩ := q1
    have b1 := getT_by hb m1
    have l1 := getT_len hb m1
    rw [(oT_some m1).1, (oT_some m1).2]
    simp only [Option.bind_some]
    cases m2 : getI 7 z1 with
    | none =>
      rw [(oN_none m2).2]
      rfl
    | some q2 =>
      obtain ⟨v, z2⟩ := q2
      have b2 := getI_by b1 m2
      have l2 := getI_len b1 m2
      rw [(oN_some m2).1, (oN_some m2).2]
      simp only [Option.bind_some]
      cases m3 : get z2 with
      | none =>
        rw [(oN_none (getI_none _ m3)).2]
        rfl
      | some q3 =>
        obtain ⟨k, z3⟩ := q3
        have b3 := get_by b2 m3
        have l3 := get_len b2 m3
        have i3 := get_inv _ _ _ b2 m3
        by_cases hk : k ≤ (L : Int)
        · have m4 : getI (L : Int) z2 = some (k, z3) := by rw [getI_eq _ m3, if_pos hk]
          rw [(oN_some m4).1, (oN_some m4).2]
          simp only [Option.bind_some]
        · have m4 : getI (L : Int) z2 = none := by rw [getI_eq _ m3, if_neg hk]
          rw [(oN_none m4).1, (oN_none m4).2]
          simp only [Option.bind_some, Option.bind_none]
          cases m5 : getEs k.toNat z3 with
          | none => rfl
          | some q => have := getEs_len _ b3 m5; omega
/-- The results so far. -/
structure OutP (L : Nat) (o2 : Option (List Int)) (n i : Nat) (o : Option (List Int)) (rs : List S42) (ts : List (List S44)) : Prop where
  h : (o = none ∧ o2.bind (getRs n) = none) ∨ (∃ r l, o = some r ∧ rs = l.map (·.1) ∧ ts = l.map (·.2) ∧ By r ∧ r.length + l.length ≤ L ∧ o2.bind (getRs n) = (getRs (n - i) r).bind fun q => some (l ++ q.1, q.2))
  lr : rs.length = i
  lt : ts.length = i
  sm : ∀ t, t ∈ ts → t.length ≤ L
theorem OutP.fit {L : Nat} {o2 : Option (List Int)} {n i : Nat} {o : Option (List Int)} {rs : List S42} {ts : List (List S44)} (h : OutP L o2 n i o rs ts) : Fit L o := by
  intro xs hx
  rcases h.h with ⟨h1, _⟩ | ⟨r, l, h1, _, _, h2, h3, _⟩
  · rw [h1] at hx; cases hx
  · rw [h1] at hx
    obtain rfl := Option.some.inj hx
    exact ⟨h2, by omega⟩
theorem OutP.first {L : Nat} {o2 : Option (List Int)} (n : Nat) (h : Fit L o2) : OutP L o2 n 0 o2 [] [] := by
  refine ⟨?_, rfl, rfl, fun t ht => by cases ht⟩
  cases o2 with
  | none => exact .inl ⟨rfl, rfl⟩
  | some r =>
    refine .inr ⟨r, [], rfl, rfl, rfl, (h r rfl).1, by have := (h r rfl).2; simpa using this, ?_⟩
    rw [Option.bind_some, Nat.sub_zero]
    cases getRs n r <;> rfl
theorem OutP.step {L : Nat} {o2 : Option (List Int)} {n i : Nat} {ys : List Int} {rs : List S42} {ts : List (List S44)} (h : OutP L o2 n i (some ys) rs ts) (hi : i < n) {o : Option (List Int)} {done : List S44} {j : Nat} (hd : InnP L (rZ L ys) (rK L ys).toNat j o done) (he : o = none ∨ j = (rK L ys).toNat) (hjL : j ≤ L) : OutP L o2 n (i + 1) o (rs ++ [⟨rName ys, rV ys⟩]) (ts ++ [done]) := by
  obtain ⟨hb, hl⟩ := h.fit ys rfl
  refine ⟨?_, by rw [List.length_append, h.lr]; rfl, by rw [List.length_append, h.lt]; rfl, ?_⟩
  · rcases h.h with ⟨h1, _⟩ | ⟨r', l, h1, h2, h3, h4, h5, h6⟩
    · cases h1
    · obtain rfl := Option.some.inj h1
      obtain ⟨m, hm⟩ : ∃ m, n - i = m + 1 := ⟨n - i - 1, by omega⟩
      have hm' : n - (i + 1) = m := by omega
      rw [hm, getRs, getR_via hb hl] at h6
      rcases hd.last he with ⟨e1, e2⟩ | ⟨r, e1, e2, e3, e4⟩
      · rw [e2] at h6
        exact .inl ⟨e1, h6⟩
      · rw [e4] at h6
        have hR : getR ys = some ((⟨rName ys, rV ys⟩, done), r) := by rw [getR_via hb hl, e4]; rfl
        have hll := getR_len hb hR
        refine .inr ⟨r, l ++ [(⟨rName ys, rV ys⟩, done)], e1, by rw [h2]; simp, by rw [h3]; simp, e2, by rw [List.length_append, List.length_singleton]; omega, ?_⟩
        rw [h6, hm']
        simp only [Option.bind_some]
        cases getRs m r with
        | none => rfl
        | some p => simp
  · intro t ht
    rcases List.mem_append.mp ht with ht | ht
    · exact h.sm t ht
    · obtain rfl := List.mem_singleton.mp ht
      have := hd.lj
      omega
def uG (xs : List Int) : Int := oN (some xs) 1048576
def uO1 (xs : List Int) : Option (List Int) := oNr (some xs) 1048576
def uN (xs : List Int) : Int := oN (uO1 xs) (xs.length : Int)
def uO2 (xs : List Int) : Option (List Int) := oNr (uO1 xs) (xs.length : Int)
theorem getAll_via {xs : List Int} (hb : By xs) : getAll xs = ((uO2 xs).bind (getRs (uN xs).toNat)).bind fun q => some (⟨uG xs, q.1.map (·.1), q.1.map (·.2)⟩, q.2) := by
  unfold getAll uO2 uN uO1 uG
  cases m1 : getI 1048576 xs with
  | none =>
    rw [(oN_none m1).2]
    rfl
  | some q1 =>
    obtain ⟨G, z1⟩ := q1
    have b1 := getI_by hb m1
    have l1 := getI_len hb m1
    rw [(oN_some m1).1, (oN_some m1).2]
    simp only [Option.bind_some]
    cases m3 : get z1 with
    | none =>
      rw [(oN_none (getI_none _ m3)).2]
      rfl
    | some q3 =>
      obtain ⟨k, z3⟩ := q3
      have b3 := get_by b1 m3
      have l3 := get_len b1 m3
      have i3 := get_inv _ _ _ b1 m3
      by_cases hk : k ≤ (xs.length : Int)
      · have m4 : getI (xs.length : Int) z1 = some (k, z3) := by rw [getI_eq _ m3, if_pos hk]
        rw [(oN_some m4).1, (oN_some m4).2]
        simp only [Option.bind_some]
      · have m4 : getI (xs.length : Int) z1 = none := by rw [getI_eq _ m3, if_neg hk]
        rw [(oN_none m4).1, (oN_none m4).2]
        simp only [Option.bind_some, Option.bind_none]
        cases m5 : getRs k.toNat z3 with
        | none => rfl
        | some q => have := getRs_len _ b3 m5; omega
theorem OutP.last_none {xs : List Int} {i : Nat} {rs : List S42} {ts : List (List S44)} (hb : By xs) (h : OutP xs.length (uO2 xs) (uN xs).toNat i none rs ts) : unpack xs = none := by
  rcases h.h with ⟨_, h2⟩ | ⟨r, l, h1, _⟩
  · unfold unpack
    rw [getAll_via hb, h2]
    rfl
  · cases h1
theorem OutP.last_some {xs r : List Int} {i : Nat} {rs : List S42} {ts : List (List S44)} (hb : By xs) (h : OutP xs.length (uO2 xs) (uN xs).toNat i (some r) rs ts) (hi : i = (uN xs).toNat) : unpack xs = if r.isEmpty && rightE ⟨uG xs, rs, ts⟩ then some ⟨uG xs, rs, ts⟩ else none := by
  rcases h.h with ⟨h1, _⟩ | ⟨r', l, h1, h2, h3, h4, h5, h6⟩
  · cases h1
  · obtain rfl := Option.some.inj h1
    unfold unpack
    rw [getAll_via hb, h6, hi, Nat.sub_self, h2, h3]
    simp [getRs]
end Go.Proofs.Ytnognmbapciegaa.Bk
namespace Go.Proofs.Ytnognmbapciegaa.Bk
open Go.RowKit Go.Proofs.YtnognmbapciegaaW.PrintWords Go.Proofs.YtnognmbapciegaaW.PrintLast Go.Proofs.YtnognmbapciegaaW.PrintMore Go.Proofs.Ytnognmbapciegaa.PBk
set_option linter.unusedVariables false
set_option linter.unusedSimpArgs false

/-- What is left to read, in its block. -/
def AtY (w : World) (By : Nat) (wr : World) (o : Option (List Int)) : Prop := ∃ (A : Option Addr) (n c : Nat) (b : Bool), wr.heap[By]? = some (.cells #[.slice A n c, .bool b] 66 (0, 0)) ∧ InV w (.agg #[.slice A n c, .bool b]) o
theorem AtY.below {w wr w1 : World} {By : Nat} {o : Option (List Int)} (h : AtY w By wr o) (hb : Below wr.heap.size wr w1) : AtY w By w1 o := by
  obtain ⟨A, n, c, b, h1, h2⟩ := h
  exact ⟨A, n, c, b, blk_below h1 hb, h2⟩
/-- The entry under way. -/
structure OutW (w : World) (By : Nat) (G : Int) (wr : World) (rs : List S42) (ts : List (List S44)) : Prop where
  below : Below w.heap.size w wr
  lo : w.heap.size < By
  size : By + 2 ≤ wr.heap.size
  res : wr.heap[w.heap.size]? = some (.cells zEnt 25 (0, 0))
  e : ∃ (A1 : Option Addr) (n1 c1 : Nat) (A2 : Option Addr) (n2 c2 : Nat), wr.heap[By + 1]? = some (.cells #[.int .i64 G, .slice A1 n1 c1, .slice A2 n2 c2] 25 (0, 0)) ∧ Kd.R k42 42 wr (By + 2) (fun _ => True) (.slice A1 n1 c1) rs ∧ Kd.R (Kd.slice 44 k44) 46 wr (By + 2) (fun _ => True) (.slice A2 n2 c2) ts
theorem OutW.move {w wr w1 : World} {By : Nat} {G : Int} {rs : List S42} {ts : List (List S44)} (h : OutW w By G wr rs ts) (hb : Below wr.heap.size wr w1) : OutW w By G w1 rs ts := by
  obtain ⟨A1, n1, c1, A2, n2, c2, h1, h2, h3⟩ := h.e
  exact ⟨h.below.trans (hb.mono h.below.size), h.lo, Nat.le_trans h.size hb.size, blk_below h.res hb, A1, n1, c1, A2, n2, c2, blk_below h1 hb, Kd.R_below h2 hb, Kd.R_below h3 hb⟩
/-- What is left is written. -/
def setY (wr : World) (By : Nat) (A : Option Addr) (n c : Nat) (b : Bool) : World := (wr.setCell ⟨By, 0, none⟩ (.slice A n c)).setCell ⟨By, 1, none⟩ (.bool b)
theorem setY_at {w wr : World} {By : Nat} {o o' : Option (List Int)} {A : Option Addr} {n c : Nat} {b : Bool} (h : AtY w By wr o) (hi : InV w (.agg #[.slice A n c, .bool b]) o') : AtY w By (setY wr By A n c b) o' := by
  obtain ⟨A0, n0, c0, b0, h1, _⟩ := h
  exact ⟨A, n, c, b, blk_set (blk_set h1 0 (.slice A n c)) 1 (.bool b), hi⟩
theorem setY_keep (wr : World) (By : Nat) (A : Option Addr) (n c : Nat) (b : Bool) : KeepBut wr (setY wr By A n c b) By none := ((KeepBut.refl wr By none).set_ 0 _).set_ 1 _
theorem setY_size (wr : World) (By : Nat) (A : Option Addr) (n c : Nat) (b : Bool) : (setY wr By A n c b).heap.size = wr.heap.size := by unfold setY; rw [World.size_setCell, World.size_setCell]
theorem setY_below {w wr : World} {By B : Nat} {A : Option Addr} {n c : Nat} {b : Bool} (h : Below B w wr) (hB : B ≤ By) : Below B w (setY wr By A n c b) := (h.setCell (p := ⟨By, 0, none⟩) hB _).setCell (p := ⟨By, 1, none⟩) hB _
theorem OutW.keep {w wr w1 : World} {By : Nat} {G : Int} {rs : List S42} {ts : List (List S44)} (h : OutW w By G wr rs ts) (hk : KeepBut wr w1 By none) (hb : Below w.heap.size w w1) : OutW w By G w1 rs ts := by
  obtain ⟨A1, n1, c1, A2, n2, c2, h1, h2, h3⟩ := h.e
  exact ⟨hb, h.lo, Nat.le_trans h.size hk.1, hk.blk h.res (Nat.ne_of_lt h.lo) (by simp), A1, n1, c1, A2, n2, c2, hk.blk h1 (by omega) (by simp), R_keepB h2 hk (by omega), R_keepB h3 hk (by omega)⟩
theorem OutW.setY {w wr : World} {By : Nat} {G : Int} {rs : List S42} {ts : List (List S44)} {A : Option Addr} {n c : Nat} {b : Bool} (h : OutW w By G wr rs ts) : OutW w By G (Bk.setY wr By A n c b) rs ts :=
  h.keep (setY_keep wr By A n c b) (setY_below h.below (Nat.le_of_lt h.lo))
/-- One result more. -/
theorem OutW.resOne {w wm w6 : World} {By : Nat} {G : Int} {rs : List S42} {ts : List (List S44)} {A1 A2 A3 : Option Addr} {n1 c1 n2 c2 n3 c3 : Nat} {p : S42} (h : OutW w By G wm rs ts)
    (h1 : wm.heap[By + 1]? = some (.cells #[.int .i64 G, .slice A1 n1 c1, .slice A2 n2 c2] 25 (0, 0))) (h2 : Kd.R k42 42 wm (By + 2) (fun _ => True) (.slice A1 n1 c1) rs) (h3 : Kd.R (Kd.slice 44 k44) 46 wm (By + 2) (fun _ => True) (.slice A2 n2 c2) ts)
    (hr : Kd.R k42 42 w6 (By + 2) (fun _ => True) (.slice A3 n3 c3) (rs ++ [p])) (hb : Below (By + 2) wm w6) (hgr : wm.grownBy w6 (Value.slice A1 n1 c1).ownBlock) :
    OutW w By G (w6.setCell ⟨By + 1, 1, none⟩ (.slice A3 n3 c3)) (rs ++ [p]) ts := by
  have hlo := h.lo
  refine ⟨((h.below.trans (hb.mono (by omega))).setCell (p := ⟨By + 1, 1, none⟩) (by show w.heap.size ≤ By + 1; omega) _), hlo, ?_, ?_, A3, n3, c3, A2, n2, c2, ?_, rfar hr (by omega), rfar (R_apart h2 h3 hgr (by decide)) (by omega)⟩
  · rw [World.size_setCell]; exact Nat.le_trans h.size hb.size
  · exact blk_far ((hb.block w.heap.size (by omega)).trans h.res) _ (by show w.heap.size ≠ By + 1; omega) _
  · exact blk_set ((hb.block (By + 1) (by omega)).trans h1) 1 _
/-- One trace more. -/
theorem OutW.trOne {w wm w6 : World} {By : Nat} {G : Int} {rs : List S42} {ts : List (List S44)} {A1 A2 A3 : Option Addr} {n1 c1 n2 c2 n3 c3 : Nat} {t : List S44} (h : OutW w By G wm rs ts)
    (h1 : wm.heap[By + 1]? = some (.cells #[.int .i64 G, .slice A1 n1 c1, .slice A2 n2 c2] 25 (0, 0))) (h2 : Kd.R k42 42 wm (By + 2) (fun _ => True) (.slice A1 n1 c1) rs) (h3 : Kd.R (Kd.slice 44 k44) 46 wm (By + 2) (fun _ => True) (.slice A2 n2 c2) ts)
    (hr : Kd.R (Kd.slice 44 k44) 46 w6 (By + 2) (fun _ => True) (.slice A3 n3 c3) (ts ++ [t])) (hb : Below (By + 2) wm w6) (hgr : wm.grownBy w6 (Value.slice A2 n2 c2).ownBlock) :
    OutW w By G (w6.setCell ⟨By + 1, 2, none⟩ (.slice A3 n3 c3)) rs (ts ++ [t]) := by
  have hlo := h.lo
  refine ⟨((h.below.trans (hb.mono (by omega))).setCell (p := ⟨By + 1, 2, none⟩) (by show w.heap.size ≤ By + 1; omega) _), hlo, ?_, ?_, A1, n1, c1, A3, n3, c3, ?_, rfar (R_apart h3 h2 hgr (by decide)) (by omega), rfar hr (by omega)⟩
  · rw [World.size_setCell]; exact Nat.le_trans h.size hb.size
  · exact blk_far ((hb.block w.heap.size (by omega)).trans h.res) _ (by show w.heap.size ≠ By + 1; omega) _
  · exact blk_set ((hb.block (By + 1) (by omega)).trans h1) 2 _
theorem AtY.set1 {w wr w1 : World} {By j : Nat} {u : Value} {o : Option (List Int)} (h : AtY w By wr o) (hb : Below (By + 2) wr w1) : AtY w By (w1.setCell ⟨By + 1, j, none⟩ u) o := by
  obtain ⟨A, n, c, b, h1, h2⟩ := h
  exact ⟨A, n, c, b, blk_far ((hb.block By (by omega)).trans h1) _ (by show By ≠ By + 1; omega) _, h2⟩
/-- The events under way: wI is the world in which their row begins. -/
structure InnW (w wI : World) (By : Nat) (wi : World) (v : Value) (done : List S44) : Prop where
  below : Below w.heap.size w wi
  keep : KeepBut wI wi By none
  row : Kd.R k44 44 wi wI.heap.size (fun _ => True) v done
/-- One event more: the call, its two blocks, what is left, the append. -/
theorem InnW.more {w wI wi w7 w10 : World} {By : Nat} {v v' : Value} {done : List S44} {e : S44} {A : Option Addr} {n c : Nat} {b : Bool} {o1 o2 : Obj} (h : InnW w wI By wi v done) (hb7 : Below wi.heap.size wi w7) (hBy : By < wI.heap.size) (hlo : w.heap.size ≤ By)
    (hr : Kd.R k44 44 w10 wI.heap.size (fun _ => True) v' (done ++ [e])) (hb : Below wI.heap.size (setY ((w7.alloc o1).alloc o2) By A n c b) w10) : InnW w wI By w10 v' (done ++ [e]) := by
  have h8 : Below wi.heap.size wi ((w7.alloc o1).alloc o2) := (hb7.alloc hb7.size o1).alloc (hb7.alloc hb7.size o1).size o2
  have hk8 : KeepBut wi ((w7.alloc o1).alloc o2) By none := ⟨h8.size, fun i hi _ _ => h8.block i hi⟩
  have hk9 := (h.keep.trans hk8 (.inl rfl)).trans (setY_keep ((w7.alloc o1).alloc o2) By A n c b) (.inl rfl)
  have hw : w.heap.size ≤ wI.heap.size := by omega
  refine ⟨(setY_below (h.below.trans (h8.mono h.below.size)) hlo).trans (hb.mono hw), ⟨Nat.le_trans hk9.1 hb.size, fun i hi h1 h2 => (hb.block i hi).trans (hk9.2 i hi h1 h2)⟩, hr⟩
theorem InnW.rowB {w wI wi w7 : World} {By : Nat} {v : Value} {done : List S44} {A : Option Addr} {n c : Nat} {b : Bool} {o1 o2 : Obj} (h : InnW w wI By wi v done) (hb7 : Below wi.heap.size wi w7) (hBy : By < wI.heap.size) : Kd.R k44 44 (setY ((w7.alloc o1).alloc o2) By A n c b) wI.heap.size (fun _ => True) v done := by
  have h8 : Below wi.heap.size wi ((w7.alloc o1).alloc o2) := (hb7.alloc hb7.size o1).alloc (hb7.alloc hb7.size o1).size o2
  exact R_keepB (Kd.R_below h.row h8) (setY_keep _ By A n c b) hBy
theorem atY_some {w wr : World} {By : Nat} {r : List Int} (h : AtY w By wr (some r)) : ∃ (A : Option Addr) (n c : Nat), wr.heap[By]? = some (.cells #[.slice A n c, .bool true] 66 (0, 0)) ∧ InV w (.agg #[.slice A n c, .bool true]) (some r) ∧ n = r.length := by
  obtain ⟨A, n, c, b, h1, h2⟩ := h
  obtain ⟨A', n', c', h3, h4, h5, h6⟩ := h2
  cases h3
  exact ⟨A, n, c, h1, ⟨A, n, c, rfl, h4, h5, h6⟩, h4⟩
theorem atY_none {w wr : World} {By : Nat} (h : AtY w By wr none) : wr.heap[By]? = some (.cells #[.slice none 0 0, .bool false] 66 (0, 0)) := by
  obtain ⟨A, n, c, b, h1, h2⟩ := h
  have h3 : Value.agg #[.slice A n c, .bool b] = .agg #[.slice none 0 0, .bool false] := h2
  cases h3
  exact h1
end Go.Proofs.Ytnognmbapciegaa.Bk
