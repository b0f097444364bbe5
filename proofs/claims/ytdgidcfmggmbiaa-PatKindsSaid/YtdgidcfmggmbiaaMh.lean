/- rex's reader: an alternation. rex.Parse: what a reader panics with is caught and told. rex.Parse. -/
import Derived.Test.YtdgidcfmggmbiaaMg
import Derived.Deep.RegionLaw
import Derived.Recover
import Derived.RegionTactic
import Derived.ChangeAlike
namespace Go.Proofs.Ytdgidcfmggmbiaa.Rx
open Go.RowKit Go.Proofs.YtdgidcfmggmbiaaW.PrintWords Go.Proofs.YtdgidcfmggmbiaaW.PrintLast Go.Proofs.YtdgidcfmggmbiaaW.PrintMore Go.Proofs.Ytdgidcfmggmbiaa.PRx
set_option linter.unusedVariables false
set_option linter.unusedSimpArgs false

set_option maxHeartbeats 8000000 in
set_option maxRecDepth 100000 in
theorem alt_step {n : Nat} (H : AltH n) {w : World} {g : Nat} {s : ByteArray} {r0 : List Int} (hlen : r0.length ≤ n) (h : At w g s r0) : Calls Try.prog 22 #[.pointer (some ⟨g, 0, none⟩)] w (TRes w g s (altR r0)) := by
  have HO0 : Hid (OInv w g s [] r0 none 0 0 (w.alloc (.cells #[.int .i64 0, .slice none 0 0, .slice none 0 0] 30))) := Lib.hid ⟨Kd.R_nil _ _ _ _ _, h.moved, KeepBut.refl _ _ _, h.lt⟩
  have hsm : r0.length ≤ 256 := by obtain ⟨i, _, _, _, h1, h2, h3⟩ := h.facts; omega
  have HSM := Lib.hid hsm
  have HLEN := Lib.hid hlen
  obtain ⟨res, hres⟩ : ∃ q, q = altR r0 := ⟨_, rfl⟩
  rw [← hres]
  have HRES : Hid (res = (partsR [] [] r0).bind fun ps r => .ok (mkAlt ps) r) := Lib.hid hres
  clear hres hsm hlen h
  go_enter Try.func22, Try.ntmps22
  go_wp2_with fail
  go_loopg [3] (r0.length + 1) (fun kq v3 wr => ∃ P r A3 n3 c3, v3 = .slice A3 n3 c3 ∧ Hid (OInv w g s P r A3 n3 c3 wr) ∧ Hid (r.length < kq ∧ P.length + r.length ≤ r0.length ∧ r.length ≤ r0.length ∧ res = (partsR P [] r).bind fun ps r => .ok (mkAlt ps) r))
  case atStart => exact ⟨[], r0, none, 0, 0, rfl, HO0, Lib.hid ⟨Nat.lt_succ_self _, by simp, Nat.le_refl _, HRES.out⟩⟩
  case round =>
    clear HO0 HRES
    obtain ⟨P, r, A3, n3, c3, rfl, HO, HF⟩ := hrel
    have HA := Lib.hid HO.out.start
    clear HO
    go_wp2_with fail
    obtain ⟨wo, rfl⟩ : ∃ wo : World, wo = wr := ⟨_, rfl⟩
    obtain ⟨ko, rfl⟩ : ∃ ko : Nat, ko = gk := ⟨_, rfl⟩
    go_loopg [6] (r.length + 1) (fun kq v6 wr => ∃ K r2 AK nK cK, Hid (AInv w g s wo.heap.size P K r2 A3 n3 c3 AK nK cK wr) ∧ Hid (r2.length < kq ∧ K.length + r2.length ≤ r.length ∧ res = (partsR P K r2).bind fun ps r => .ok (mkAlt ps) r))
    case atStart => exact ⟨[], r, none, 0, 0, HA, Lib.hid ⟨Nat.lt_succ_self _, by simp, HF.out.2.2.2⟩⟩
    case round =>
      clear HA
      obtain ⟨K, r2, AK, nK, cK, HA, HG⟩ := hrel
      go_upto_region 3 with fail
      go_cut [32] from 6 to 39 (fun s32 wc => ∃ tb : Bool, s32 = .bool tb ∧ Hid (tb = more r2) ∧ ∃ n, wc = wr.drewN n)
      case first =>
        as_aux_lemma =>
          cases r2 with
          | nil =>
            obtain ⟨i, f0, f1, f2, h1, h2, h3⟩ := HA.out.at_.facts
            go_quiet (first | (go_at_call 23; refine Calls.quiet_of (over_nil (HA.out.at_.drewN _))))
            go_wp2
            go_meet
            exact ⟨_, rfl, Lib.hid rfl, _, rfl⟩
          | cons c r2 =>
            obtain ⟨i, f0, f1, f2, h1, h2, h3, f4, h5, h6, h7⟩ := HA.out.at_.char
            clear h5
            by_cases hc : c = 124
            · subst hc
              go_quiet (first | (go_at_call 23; refine Calls.quiet_of (over_cons (HA.out.at_.drewN _))))
              go_wp2
              go_meet
              exact ⟨_, rfl, Lib.hid rfl, _, rfl⟩
            · have g1 : (c == 124) = false := by simpa using hc
              have g2 : (c != 124) = true := by simpa using hc
              clear hc
              go_quiet (first | (go_at_call 23; refine Calls.quiet_of (over_cons (HA.out.at_.drewN _))))
              go_wp2
              go_meet
              exact ⟨_, rfl, Lib.hid (by show _ = (!(c == 124) && !(c == 41)); rw [g1]; rfl), _, rfl⟩
      case rest =>
        obtain ⟨tb, rfl, HTB, n2, rfl⟩ := hcut
        have HA2 := Lib.hid (HA.out.on (keep_drewN (KeepBut.refl _ _ _) n2) (HA.out.at_.drewN n2))
        cases tb with
        | false =>
          have y1 := HA2.out.cell; have f0 := blk_cell y1 0; have f1 := blk_cell y1 1; have f2 := blk_cell y1 2; have f3 := blk_frozen y1 0; have f4 := blk_frozen y1 1; have f5 := blk_frozen y1 2; (simp only [List.getElem?_toArray, List.getElem?_cons_zero, List.getElem?_cons_succ] at f0 f1 f2); clear y1
          have HLN : Hid ((P.length + 1) * 56 ≤ 140737488355328) := Lib.hid (by have := HF.out.2.1; have := HSM.out; omega)
          have HOK : Hid (∀ k, wo.heap.size + 1 ≤ k → True ∧ some k ≠ (Value.slice A3 n3 c3).ownBlock) := Lib.hid (fun k hk => ⟨trivial, fun he => by have := HA2.out.rp.1 k he.symm; omega⟩)
          have HS0 : Hid (w.heap.size + 1 ≤ (wr.drewN n2).heap.size) := Lib.hid (by have := HA2.out.keep.1; rw [al_size] at this; exact this)
          go_upto_region 6 with (first
            | ((with_reducible refine gate_builtin (b := .append) (xs := #[.tmp 40, .tmp 42]) rfl ?_); at_builtin; go_loud (refine Kd.R_append k30 (w0 := wr.drewN n2) (w.heap.size + 1) rfl (.tmp 40) (.tmp 42) 28 30 _ 56 rfl Try.underlying28 info30 rfl (by decide) (by omega) (.slice A3 n3 c3) P (catN K) [.int .i64 2, .slice none 0 0, .slice AK nK cK] (fun _ => True) (fun k => wo.heap.size + 1 ≤ k) rfl rfl ?aP HOK.out ?aF ?aO ?aB ?aS ?aL ?_; (case aP => exact kid_M (t := catN K) (Kd.R_nil _ _ _ _ _) HA2.out.rk (Nat.succ_le_succ (Nat.le_of_lt HA2.out.lt))); (case aF => exact fun _ _ => trivial); (case aO => exact Kd.R_mono HA2.out.rp (fun _ _ => trivial)); (case aB => exact Below.refl _ _); (case aS => exact HS0.out); (case aL => exact HLN.out); intro v9 w9 hr9 hb9 _ _; (obtain ⟨A9, n9, c9, rfl⟩ : ∃ A n c, v9 = .slice A n c := by obtain ⟨A, c, e⟩ := Kd.R_slice hr9; exact ⟨A, _, c, e⟩); have HO9 := Lib.hid (HA2.out.part hb9 hr9); clear hr9 hb9)))
          clear f0 f1 f2 f3 f4 f5 HS0 HOK HLN
          cases r2 with
          | nil =>
            have IS : Hid (∀ W : World, At W g s [] → Calls Try.prog 50 #[.pointer (some ⟨g, 0, none⟩), .int .u8 124] W (Got W g s (.bool false) [])) := Lib.hid (fun W hW => by have := is_any hW 124; exact this)
            have HEQ : Hid (res = .ok (mkAlt (P ++ [catN K])) []) := Lib.hid (by rw [HG.out.2.2]; rfl)
            cases P with
            | nil =>
              go_wp2_with (first | (go_at_call 50; (have hguard := HO9; clear hguard); refine (IS.out _ HO9.out.at_).mono ?_; rintro e wx ⟨rfl, hk, ha⟩; have HOX := Lib.hid (HO9.out.on hk ha); clear hk ha; obtain ⟨bx, B1, m1, d1, B2, m2, d2, rfl, rfl, k0, k1, k2, g1, g2⟩ := first_of HOX.out.rp; have G1 := Lib.hid g1; have G2 := Lib.hid g2; clear g1 g2; have y2 := HOX.out.box; have f6 := blk_cell y2 0; have f7 := blk_cell y2 1; have f8 := blk_cell y2 2; have f9 := blk_frozen y2 0; have f10 := blk_frozen y2 1; have f11 := blk_frozen y2 2; (simp only [List.getElem?_toArray, List.getElem?_cons_zero, List.getElem?_cons_succ] at f6 f7 f8); clear y2))
              have hg := store3 HOX.out.box (.int .i64 (catN K).f0) (.slice B1 m1 d1) (.slice B2 m2 d2)
              rw [HEQ.out, List.nil_append, mkAlt_one]
              refine bodyPost_ret (results_cell_row (p := 2) rfl _ _ w.heap.size 30 _ (0, 0) _ rfl hg Try.underlying30 rfl size30) rfl ?_
              exact tree_done HOX.out.gl HOX.out.keep G1.out G2.out HOX.out.at_
            | cons x P =>
              have hn9 := (Kd.R_reads' HO9.out.rp).1
              have g7 : ((n9 : Int) == 1) = false := by simp only [List.length_append, List.length_cons, List.length_nil] at hn9; simp; omega
              clear hn9
              go_wp2_with (first | (go_at_call 50; (have hguard := HO9; clear hguard); refine (IS.out _ HO9.out.at_).mono ?_; rintro e wx ⟨rfl, hk, ha⟩; have HOX := Lib.hid (HO9.out.on hk ha); clear hk ha; have y2 := HOX.out.box; have f6 := blk_cell y2 0; have f7 := blk_cell y2 1; have f8 := blk_cell y2 2; have f9 := blk_frozen y2 0; have f10 := blk_frozen y2 1; have f11 := blk_frozen y2 2; (simp only [List.getElem?_toArray, List.getElem?_cons_zero, List.getElem?_cons_succ] at f6 f7 f8); clear y2))
              have hg := store3 HOX.out.box (.int .i64 3) (.slice none 0 0) (.slice A9 n9 c9)
              rw [HEQ.out, mkAlt_more]
              refine bodyPost_ret (results_cell_row (p := 2) rfl _ _ w.heap.size 30 _ (0, 0) _ rfl hg Try.underlying30 rfl size30) rfl ?_
              exact tree_done (t := ⟨3, [], x :: P ++ [catN K]⟩) HOX.out.gl HOX.out.keep (Kd.R_nil _ _ _ _ _) HOX.out.rp HOX.out.at_
          | cons c r2 =>
            by_cases h124 : c = 124
            · subst h124
              have IS : Hid (∀ W : World, At W g s (124 :: r2) → Calls Try.prog 50 #[.pointer (some ⟨g, 0, none⟩), .int .u8 124] W (Got W g s (.bool true) r2)) := Lib.hid (fun W hW => by have := is_any hW 124; rwa [show isB 124 (124 :: r2) = true from by simp [isB], show isT 124 (124 :: r2) = r2 from by simp [isT]] at this)
              go_wp2_with (first | (go_at_call 50; (have hguard := HO9; clear hguard); refine (IS.out _ HO9.out.at_).mono ?_; rintro e wx ⟨rfl, hk, ha⟩; have HOX := Lib.hid (HO9.out.on hk ha); clear hk ha; skip))
              go_roundg (ko - 1)
              case measure => have := HF.out.1; omega
              case rel => exact ⟨P ++ [catN K], r2, A9, n9, c9, rfl, HOX, Lib.hid ⟨by have := HF.out.1; have := HG.out.2.1; simp only [List.length_cons] at this; omega, by have := HF.out.2.1; have := HG.out.2.1; simp only [List.length_cons] at this; simp only [List.length_append, List.length_cons, List.length_nil]; omega, by have := HF.out.2.2.1; have := HG.out.2.1; simp only [List.length_cons] at this; omega, by rw [HG.out.2.2, parts_bar]⟩⟩
            · have h41 : c = 41 := by
                have h := HTB.out
                have h0 : (c == 124) = false := by simpa using h124
                have h1 : more (c :: r2) = (!(c == 124) && !(c == 41)) := rfl
                rw [h1, h0] at h
                by_cases h2 : c = 41
                · exact h2
                · simp [h2] at h
              subst h41
              have IS : Hid (∀ W : World, At W g s (41 :: r2) → Calls Try.prog 50 #[.pointer (some ⟨g, 0, none⟩), .int .u8 124] W (Got W g s (.bool false) (41 :: r2))) := Lib.hid (fun W hW => by have := is_any hW 124; rwa [show isB 124 (41 :: r2) = false from by simp [isB], show isT 124 (41 :: r2) = 41 :: r2 from by simp [isT]] at this)
              have HEQ : Hid (res = .ok (mkAlt (P ++ [catN K])) (41 :: r2)) := Lib.hid (by rw [HG.out.2.2]; rfl)
              clear h124
              cases P with
              | nil =>
                go_wp2_with (first | (go_at_call 50; (have hguard := HO9; clear hguard); refine (IS.out _ HO9.out.at_).mono ?_; rintro e wx ⟨rfl, hk, ha⟩; have HOX := Lib.hid (HO9.out.on hk ha); clear hk ha; obtain ⟨bx, B1, m1, d1, B2, m2, d2, rfl, rfl, k0, k1, k2, g1, g2⟩ := first_of HOX.out.rp; have G1 := Lib.hid g1; have G2 := Lib.hid g2; clear g1 g2; have y2 := HOX.out.box; have f6 := blk_cell y2 0; have f7 := blk_cell y2 1; have f8 := blk_cell y2 2; have f9 := blk_frozen y2 0; have f10 := blk_frozen y2 1; have f11 := blk_frozen y2 2; (simp only [List.getElem?_toArray, List.getElem?_cons_zero, List.getElem?_cons_succ] at f6 f7 f8); clear y2))
                have hg := store3 HOX.out.box (.int .i64 (catN K).f0) (.slice B1 m1 d1) (.slice B2 m2 d2)
                rw [HEQ.out, List.nil_append, mkAlt_one]
                refine bodyPost_ret (results_cell_row (p := 2) rfl _ _ w.heap.size 30 _ (0, 0) _ rfl hg Try.underlying30 rfl size30) rfl ?_
                exact tree_done HOX.out.gl HOX.out.keep G1.out G2.out HOX.out.at_
              | cons x P =>
                have hn9 := (Kd.R_reads' HO9.out.rp).1
                have g7 : ((n9 : Int) == 1) = false := by simp only [List.length_append, List.length_cons, List.length_nil] at hn9; simp; omega
                clear hn9
                go_wp2_with (first | (go_at_call 50; (have hguard := HO9; clear hguard); refine (IS.out _ HO9.out.at_).mono ?_; rintro e wx ⟨rfl, hk, ha⟩; have HOX := Lib.hid (HO9.out.on hk ha); clear hk ha; have y2 := HOX.out.box; have f6 := blk_cell y2 0; have f7 := blk_cell y2 1; have f8 := blk_cell y2 2; have f9 := blk_frozen y2 0; have f10 := blk_frozen y2 1; have f11 := blk_frozen y2 2; (simp only [List.getElem?_toArray, List.getElem?_cons_zero, List.getElem?_cons_succ] at f6 f7 f8); clear y2))
                have hg := store3 HOX.out.box (.int .i64 3) (.slice none 0 0) (.slice A9 n9 c9)
                rw [HEQ.out, mkAlt_more]
                refine bodyPost_ret (results_cell_row (p := 2) rfl _ _ w.heap.size 30 _ (0, 0) _ rfl hg Try.underlying30 rfl size30) rfl ?_
                exact tree_done (t := ⟨3, [], x :: P ++ [catN K]⟩) HOX.out.gl HOX.out.keep (Kd.R_nil _ _ _ _ _) HOX.out.rp HOX.out.at_
        | true =>
          clear HA
          generalize wr.drewN n2 = wi at HA2 ⊢
          have y1 := HA2.out.cell; have f0 := blk_cell y1 0; have f1 := blk_cell y1 1; have f2 := blk_cell y1 2; have f3 := blk_frozen y1 0; have f4 := blk_frozen y1 1; have f5 := blk_frozen y1 2; (simp only [List.getElem?_toArray, List.getElem?_cons_zero, List.getElem?_cons_succ] at f0 f1 f2); clear y1
          have HPC : Hid (∀ W : World, At W g s r2 → Calls Try.prog 49 #[.pointer (some ⟨g, 0, none⟩)] W (TRes W g s (pieceR r2))) := Lib.hid (fun W hW => piece_any H (by have := HLEN.out; have := HF.out.2.2.1; have := HG.out.2.1; omega) hW)
          have HEQ : Hid (res = ((pieceR r2).bind fun t r1 => partsR P (K ++ [t]) r1).bind fun ps r => .ok (mkAlt ps) r) := by
            refine Lib.hid ?_
            rw [HG.out.2.2]
            cases r2 with
            | nil => have := HTB.out; cases this
            | cons c r2 =>
              have h1 : more (c :: r2) = (!(c == 124) && !(c == 41)) := rfl
              have h := HTB.out
              rw [h1] at h
              rw [parts_piece P K c r2 (by intro e; subst e; simp at h) (by intro e; subst e; simp at h)]
          cases hq : pieceR r2 with
          | err ce ke =>
            have HEQ2 : Hid (res = .err ce ke) := Lib.hid (by rw [HEQ.out, hq]; rfl)
            rw [hq] at HPC
            clear hq HEQ
            go_wp2_with fail
            refine wp_region_any (by kernel_rfl) ?_
            change wpAny _ _ _ _ _ _ _ (World.drew _)
            refine wpAny_take (i := 0) (v := ?_) rfl (by kernel_rfl) (by kernel_rfl) (by kernel_rfl) (fun _ _ _ h => h) (Or.inl ⟨by rfl, ?_⟩) ?_
            rotate_left
            · intro w; go_simp; with_reducible rfl
            refine wpAny_take (i := 2) (v := ?_) rfl (by kernel_rfl) (by kernel_rfl) (by kernel_rfl) (fun _ _ _ h => h) (Or.inl ⟨by rfl, ?_⟩) ?_
            rotate_left
            · intro w; go_simp; with_reducible rfl
            refine wpAny_ready (rs := [1, 3]) (by kernel_rfl) (by simp) ?_
            refine AllReady.cons rfl (fun K hK => ?_) ?_
            · go_simp
              refine hK _ _ ?_
              clear hK K
              refine wpAny_ready (rs := [3]) (by kernel_rfl) (by simp) ?_
              refine AllReady.cons rfl (fun K hK => ?_) ?_
              · go_simp
                go_at_call 49
                refine (HPC.out wi.drew ⟨HA2.out.at_.cell, HA2.out.at_.small⟩).mono ?_
                rintro e w5 ⟨rfl, hk⟩
                have HK5 := Lib.hid ((keep_drew (KeepBut.refl wi g none)).trans hk (.inl rfl))
                clear hk
                rw [HEQ2.out]
                exact ⟨rfl, rfl, sub_keep (HA2.out.keep.trans HK5.out (.inl rfl)) HA2.out.gl⟩
              · exact AllReady.nil
            · refine AllReady.cons rfl (fun K hK => ?_) ?_
              · go_simp
                go_at_call 49
                refine (HPC.out wi.drew ⟨HA2.out.at_.cell, HA2.out.at_.small⟩).mono ?_
                rintro e w5 ⟨rfl, hk⟩
                have HK5 := Lib.hid ((keep_drew (KeepBut.refl wi g none)).trans hk (.inl rfl))
                clear hk
                rw [HEQ2.out]
                exact ⟨rfl, rfl, sub_keep (HA2.out.keep.trans HK5.out (.inl rfl)) HA2.out.gl⟩
              · exact AllReady.nil
          | ok t r1 =>
            have HSH := Lib.hid (piece_shrinks hq)
            have HEQ2 : Hid (res = (partsR P (K ++ [t]) r1).bind fun ps r => .ok (mkAlt ps) r) := Lib.hid (by rw [HEQ.out, hq]; rfl)
            rw [hq] at HPC
            clear hq HEQ
            have HLN : Hid ((K.length + 1) * 56 ≤ 140737488355328) := Lib.hid (by have := HF.out.2.2.1; have := HSM.out; have := HG.out.2.1; omega)
            have HQ0 : Hid (wo.heap.size + 1 ≤ wi.heap.size) := Lib.hid (blk_lt HA2.out.cell)
            go_wp2_with fail
            go_region_law (first
              | (refine Kd.R_append_step k30 (w0 := w5) (wo.heap.size + 1) rfl (.tmp 34) (.tmp 37) 28 30 _ 56 rfl Try.underlying28 info30 rfl (by decide) (by omega) (.slice AK nK cK) K t [.int .i64 t.f0, .slice A1 n1 c1, .slice A5 n5 c5] (fun _ => True) (fun k => wi.heap.size ≤ k) rfl rfl (kid_M HR1.out HR2.out HQ0.out) (own_small (w := wi) HA2.out.rk) (fun _ _ => trivial) HA5.out.rk (Below.refl _ _) (Nat.le_trans HQ0.out HK5.out) HLN.out ?_; intro v9 w9 hr9 hb9 _ _; (obtain ⟨A9, n9, c9, rfl⟩ : ∃ A n c, v9 = .slice A n c := by obtain ⟨A, c, e⟩ := Kd.R_slice hr9; exact ⟨A, _, c, e⟩); (have HA9 := Lib.hid (HA5.out.kid hb9 hr9)); (have y9 := (hb9.block wo.heap.size (Nat.lt_succ_self _)).trans HA5.out.cell); (have k133 := blk_cell y9 2); (have k134 := blk_frozen y9 2); (simp only [List.getElem?_toArray, List.getElem?_cons_zero, List.getElem?_cons_succ] at k133); clear y9 hr9 hb9)
              | (go_simp; go_at_call 49; refine (HPC.out wi.drew ⟨HA2.out.at_.cell, HA2.out.at_.small⟩).mono ?_; rintro e w5 ⟨v, rfl, ⟨A1, n1, c1, A5, n5, c5, rfl, hr1, hr2⟩, hk, ha⟩; (have hk5 := (keep_drew (KeepBut.refl wi g none)).trans hk (.inl rfl)); (have HA5 := Lib.hid (HA2.out.on hk5 ha)); (have HR1 := Lib.hid hr1); (have HR2 := Lib.hid hr2); (have HK5 := Lib.hid hk5.1); (have y1 := HA5.out.cell); (have k2 := blk_cell y1 2); (have k5 := blk_frozen y1 2); (have k6 := blk_cell (blk_alloc y1 (.cells #[.int .i64 t.f0, .slice A1 n1 c1, .slice A5 n5 c5] 30)) 2); (simp only [List.getElem?_toArray, List.getElem?_cons_zero, List.getElem?_cons_succ] at k2 k6); clear y1 hk hk5 ha hr1 hr2; go_wp2))
            all_goals
              go_wp2_with fail
              go_roundg (gk - 1)
              case measure => have := HG.out.1; omega
              case rel => exact ⟨K ++ [t], r1, A9, n9, c9, HA9, Lib.hid ⟨by have := HG.out.1; have := HSH.out; omega, by have := HG.out.2.1; have := HSH.out; simp only [List.length_append, List.length_cons, List.length_nil]; omega, HEQ2.out⟩⟩
theorem alt_all : ∀ n, AltH n
  | 0 => fun w g s r h _ => by omega
  | n + 1 => fun w g s r h ha => alt_step (alt_all n) (by omega) ha
theorem alt_any {w : World} {g : Nat} {s : ByteArray} {r : List Int} (h : At w g s r) : Calls Try.prog 22 #[.pointer (some ⟨g, 0, none⟩)] w (TRes w g s (altR r)) := alt_all (r.length + 1) w g s r (Nat.lt_succ_self _) h
end Go.Proofs.Ytdgidcfmggmbiaa.Rx
namespace Go.Proofs.Ytdgidcfmggmbiaa.Rx
open Go.RowKit Go.Proofs.YtdgidcfmggmbiaaW.PrintWords Go.Proofs.YtdgidcfmggmbiaaW.PrintLast Go.Proofs.YtdgidcfmggmbiaaW.PrintMore Go.Proofs.Ytdgidcfmggmbiaa.PRx
set_option linter.unusedVariables false
set_option linter.unusedSimpArgs false

/-- The three results' blocks. -/
structure Outs (w : World) (a : Nat) (v0 v1 v2 v3 v4 : Value) : Prop where
  node : w.heap[a]? = some (.cells #[v0, v1, v2] 30 (0, 0))
  code : w.heap[a + 1]? = some (.cells #[v3] 24 (0, 0))
  at_ : w.heap[a + 2]? = some (.cells #[v4] 3 (0, 0))
theorem outs_set {W : World} {a : Nat} {v0 v1 v2 v3 v4 : Value} (h : Outs W a v0 v1 v2 v3 v4) (u0 u1 u2 u3 u4 : Value) : Outs (((((W.setCell ⟨a, 0, none⟩ u0).setCell ⟨a, 1, none⟩ u1).setCell ⟨a, 2, none⟩ u2).setCell ⟨a + 1, 0, none⟩ u3).setCell ⟨a + 2, 0, none⟩ u4) a u0 u1 u2 u3 u4 := by
  refine ⟨?_, ?_, ?_⟩
  · rw [Below.heap_setCell _ ⟨a + 2, 0, none⟩ _ a (by show a ≠ a + 2; omega), Below.heap_setCell _ ⟨a + 1, 0, none⟩ _ a (by show a ≠ a + 1; omega)]
    exact store3 h.node _ _ _
  · rw [Below.heap_setCell _ ⟨a + 2, 0, none⟩ _ (a + 1) (by show a + 1 ≠ a + 2; omega)]
    have h1 : (((W.setCell ⟨a, 0, none⟩ u0).setCell ⟨a, 1, none⟩ u1).setCell ⟨a, 2, none⟩ u2).heap[a + 1]? = some (.cells #[v3] 24 (0, 0)) := by
      rw [Below.heap_setCell _ ⟨a, 2, none⟩ _ (a + 1) (by show a + 1 ≠ a; omega), Below.heap_setCell _ ⟨a, 1, none⟩ _ (a + 1) (by show a + 1 ≠ a; omega), Below.heap_setCell _ ⟨a, 0, none⟩ _ (a + 1) (by show a + 1 ≠ a; omega)]
      exact h.code
    have := blk_set h1 0 u3
    simpa using this
  · have h1 : ((((W.setCell ⟨a, 0, none⟩ u0).setCell ⟨a, 1, none⟩ u1).setCell ⟨a, 2, none⟩ u2).setCell ⟨a + 1, 0, none⟩ u3).heap[a + 2]? = some (.cells #[v4] 3 (0, 0)) := by
      rw [Below.heap_setCell _ ⟨a + 1, 0, none⟩ _ (a + 2) (by show a + 2 ≠ a + 1; omega), Below.heap_setCell _ ⟨a, 2, none⟩ _ (a + 2) (by show a + 2 ≠ a; omega), Below.heap_setCell _ ⟨a, 1, none⟩ _ (a + 2) (by show a + 2 ≠ a; omega), Below.heap_setCell _ ⟨a, 0, none⟩ _ (a + 2) (by show a + 2 ≠ a; omega)]
      exact h.at_
    have := blk_set h1 0 u4
    simpa using this
theorem Outs.drew {W : World} {a : Nat} {v0 v1 v2 v3 v4 : Value} (h : Outs W a v0 v1 v2 v3 v4) : Outs W.drew a v0 v1 v2 v3 v4 := ⟨h.node, h.code, h.at_⟩
theorem outs_below {w0 W : World} {a : Nat} (h : Below a w0 W) (u0 u1 u2 u3 u4 : Value) : Below a w0 (((((W.setCell ⟨a, 0, none⟩ u0).setCell ⟨a, 1, none⟩ u1).setCell ⟨a, 2, none⟩ u2).setCell ⟨a + 1, 0, none⟩ u3).setCell ⟨a + 2, 0, none⟩ u4) :=
  ((((h.setCell (p := ⟨a, 0, none⟩) (Nat.le_refl _) u0).setCell (p := ⟨a, 1, none⟩) (Nat.le_refl _) u1).setCell (p := ⟨a, 2, none⟩) (Nat.le_refl _) u2).setCell (p := ⟨a + 1, 0, none⟩) (Nat.le_succ _) u3).setCell (p := ⟨a + 2, 0, none⟩) (Nat.le_add_right _ _) u4
def Idle (w : World) (e : Ending) (u : FrameMode) (w' : World) : Prop := e = .returned (.tuple #[]) ∧ u = .returning ∧ Below w.heap.size w w'
set_option maxHeartbeats 1000000 in
theorem caught_idle (p q r : Addr) (w : World) :
    CallsD Try.prog 21 #[.pointer (some p), .pointer (some q), .pointer (some r)] .returning w (Idle w) := by
  have hb := (Below.refl w.heap.size w).alloc (Nat.le_refl _) (.cells #[.int .i64 0, .int .i64 0] 58)
  have HB := Lib.hid hb
  clear hb
  have hta : ∀ w : World, Sem.run Try.prog (Instr.typeAssert .nilIface 20 58 true) w = .ok (.tuple #[.agg #[.int .i64 0, .int .i64 0], .bool false]) w := fun w => by kernel_rfl
  refine callsD_of_wpS Try.func21 rfl fun c₀ cs hu => ?_
  apply wpS_seq
  apply wpS_region
  simp [wpOpsS, go_sem, recoverD, hu, Try.ntmps21, Exit.thenS, hta]
  refine wpS_of_wp ?_
  simp only [Array.replicate, List.replicate]
  go_wp2
  cases c₀
  simp_all [bodyPostS, results, Try.results21]
  exact ⟨rfl, rfl, HB.out⟩
set_option maxHeartbeats 1000000 in
theorem caught_bad (a : Nat) (w : World) (c k : Int) (v0 v1 v2 v3 v4 : Value) (h : Outs w a v0 v1 v2 v3 v4) :
    CallsD Try.prog 21 #[.pointer (some ⟨a, 0, none⟩), .pointer (some ⟨a + 1, 0, none⟩), .pointer (some ⟨a + 2, 0, none⟩)] (.panicking (bad c k)) w fun e u' w' => e = .returned (.tuple #[]) ∧ u' = .panicking [{ v := .iface 58 (.agg #[.int .i64 c, .int .i64 k]), recovered := true }] ∧ Below a w w' ∧ Outs w' a (.int .i64 0) (.slice none 0 0) (.slice none 0 0) (.int .i64 c) (.int .i64 k) := by
  have hta : ∀ w : World, Sem.run Try.prog (Instr.typeAssert (.iface 58 (.agg #[.int .i64 c, .int .i64 k])) 20 58 true) w = .ok (.tuple #[.agg #[.int .i64 c, .int .i64 k], .bool true]) w := fun w => by kernel_rfl
  have y0 := blk_alloc h.node (.cells #[.int .i64 c, .int .i64 k] 58)
  have y1 := blk_alloc h.code (.cells #[.int .i64 c, .int .i64 k] 58)
  have y2 := blk_alloc h.at_ (.cells #[.int .i64 c, .int .i64 k] 58)
  have f0 := blk_cell y0 0; have f1 := blk_cell y0 1; have f2 := blk_cell y0 2; have f3 := blk_frozen y0 0; have f4 := blk_frozen y0 1; have f5 := blk_frozen y0 2
  have f6 := blk_cell y1 0; have f7 := blk_frozen y1 0; have f8 := blk_cell y2 0; have f9 := blk_frozen y2 0
  simp only [List.getElem?_toArray, List.getElem?_cons_zero, List.getElem?_cons_succ] at f0 f1 f2 f6 f8
  have HA : Hid (a + 2 < w.heap.size) := Lib.hid (blk_lt h.at_)
  have n0 : a ≠ w.heap.size := by have := HA.out; omega
  have n1 : w.heap.size ≠ a := by have := HA.out; omega
  have n2 : a + 1 ≠ w.heap.size := by have := HA.out; omega
  have n3 : w.heap.size ≠ a + 1 := by have := HA.out; omega
  have n4 : a + 2 ≠ w.heap.size := by have := HA.out; omega
  have n5 : w.heap.size ≠ a + 2 := by have := HA.out; omega
  have HO := Lib.hid (outs_set ⟨y0, y1, y2⟩ (.int .i64 0) (.slice none 0 0) (.slice none 0 0) (.int .i64 c) (.int .i64 k)).drew
  have HB := Lib.hid (below_drew (outs_below (((Below.refl a w)).alloc (by have := HA.out; omega) (.cells #[.int .i64 c, .int .i64 k] 58)) (.int .i64 0) (.slice none 0 0) (.slice none 0 0) (.int .i64 c) (.int .i64 k)))
  clear y0 y1 y2 h
  refine callsD_of_wpS Try.func21 rfl fun c₀ cs hu => ?_
  apply wpS_seq
  apply wpS_region
  simp [wpOpsS, go_sem, recoverD, hu, bad, Try.ntmps21, Exit.thenS, hta]
  refine wpS_of_wp ?_
  simp only [Array.replicate, List.replicate]
  go_wp2
  go_region
  exact ⟨rfl, _, rfl, .tuple #[], by simp [results, Try.results21], rfl, rfl, HB.out, HO.out⟩
end Go.Proofs.Ytdgidcfmggmbiaa.Rx
namespace Go.Proofs.Ytdgidcfmggmbiaa.Rx
open Go.RowKit Go.Proofs.YtdgidcfmggmbiaaW.PrintWords Go.Proofs.YtdgidcfmggmbiaaW.PrintLast Go.Proofs.YtdgidcfmggmbiaaW.PrintMore Go.Proofs.Ytdgidcfmggmbiaa.PRx
set_option linter.unusedVariables false
set_option linter.unusedSimpArgs false

/-- A pattern's tree, the error, its place. -/
def parseP (xs : List Int) : S30 × Int × Int :=
  if 256 < xs.length then (z30, 2, 0) else
  match altR xs with
  | .ok t [] => (t, 0, 0)
  | .ok t (c :: r) => (z30, 30, (xs.length : Int) - ((r.length + 1 : Nat) : Int))
  | .err c k => (z30, c, (xs.length : Int) - (k : Int))
/-- All old blocks are as they were. -/
abbrev Kpt (w w' : World) : Prop := Below w.heap.size w w'
theorem Kpt.refl (w : World) : Kpt w w := Below.refl _ w
theorem Kpt.trans {w w1 w2 : World} (h : Kpt w w1) (h2 : Kpt w1 w2) : Kpt w w2 := Below.trans h (Below.mono h2 (Below.size h))
theorem Kpt.of_below {w w' : World} (h : Below w.heap.size w w') : Kpt w w' := h
theorem Kpt.setCell {w w1 : World} (h : Kpt w w1) {p : Addr} (hp : w.heap.size ≤ p.block) (u : Value) : Kpt w (w1.setCell p u) := Below.setCell h hp u
theorem Kpt.drewN {w w1 : World} (h : Kpt w w1) (n : Nat) : Kpt w (w1.drewN n) := below_drewN h n
theorem Kpt.alloc {w w1 : World} (h : Kpt w w1) (o : Obj) : Kpt w (w1.alloc o) := Below.alloc h (Below.size h) o
theorem Kpt.blk {w w1 : World} (h : Kpt w w1) {g : Nat} {o : Obj} (hg : w.heap[g]? = some o) : w1.heap[g]? = some o := (Below.block h g (blk_lt hg)).trans hg
def PRes (w : World) (q : S30 × Int × Int) (e : Ending) (w' : World) : Prop :=
  ∃ v, e = .returned (.tuple #[v, .int .i64 q.2.1, .int .i64 q.2.2]) ∧ Tree w' w.heap.size v q.1 ∧ Kpt w w'
/-- The world in which the reading begins. -/
def w3_ (w : World) : World := ((w.alloc (.cells #[.int .i64 0, .slice none 0 0, .slice none 0 0] 30)).alloc (.cells #[.int .i64 0] 24)).alloc (.cells #[.int .i64 0] 3)
def w4_ (w : World) (s : ByteArray) : World := (w3_ w).alloc (.cells #[.string s, .int .i64 0] 62)
theorem w3_size (w : World) : (w3_ w).heap.size = w.heap.size + 3 := by simp only [w3_, al_size]
theorem w4_size (w : World) (s : ByteArray) : (w4_ w s).heap.size = w.heap.size + 4 := by simp only [w4_, al_size, w3_size]
theorem w3_below (w : World) : Below w.heap.size w (w3_ w) := (((Below.refl w.heap.size w).alloc (Nat.le_refl _) _).alloc (by rw [al_size]; omega) _).alloc (by rw [al_size, al_size]; omega) _
theorem w4_below (w : World) (s : ByteArray) : Below w.heap.size w (w4_ w s) := (w3_below w).alloc (by rw [w3_size]; omega) _
theorem w3_outs (w : World) : Outs (w3_ w) w.heap.size (.int .i64 0) (.slice none 0 0) (.slice none 0 0) (.int .i64 0) (.int .i64 0) := by
  have a := blk_new w (.cells #[.int .i64 0, .slice none 0 0, .slice none 0 0] 30)
  have b := blk_new (w.alloc (.cells #[.int .i64 0, .slice none 0 0, .slice none 0 0] 30)) (.cells #[.int .i64 0] 24)
  have c := blk_new ((w.alloc (.cells #[.int .i64 0, .slice none 0 0, .slice none 0 0] 30)).alloc (.cells #[.int .i64 0] 24)) (.cells #[.int .i64 0] 3)
  rw [al_size] at b
  rw [al_size, al_size] at c
  exact ⟨blk_alloc (blk_alloc a _) _, blk_alloc b _, c⟩
theorem Outs.alloc {w : World} {a : Nat} {v0 v1 v2 v3 v4 : Value} (h : Outs w a v0 v1 v2 v3 v4) (o : Obj) : Outs (w.alloc o) a v0 v1 v2 v3 v4 := ⟨blk_alloc h.node o, blk_alloc h.code o, blk_alloc h.at_ o⟩
theorem Outs.kept {w w' : World} {a g : Nat} {v0 v1 v2 v3 v4 : Value} (h : Outs w a v0 v1 v2 v3 v4) (hk : KeepBut w w' g none) (hg : a + 2 < g) : Outs w' a v0 v1 v2 v3 v4 :=
  ⟨blk_kept_ h.node hk (by omega), blk_kept_ h.code hk (by omega), blk_kept_ h.at_ hk (by omega)⟩
theorem Outs.below {w w' : World} {a : Nat} {v0 v1 v2 v3 v4 : Value} (h : Outs w a v0 v1 v2 v3 v4) (hb : Below w.heap.size w w') : Outs w' a v0 v1 v2 v3 v4 :=
  ⟨blk_below h.node hb, blk_below h.code hb, blk_below h.at_ hb⟩
theorem Outs.node_set {w : World} {a : Nat} {v0 v1 v2 v3 v4 : Value} (h : Outs w a v0 v1 v2 v3 v4) (u0 u1 u2 : Value) : Outs (((w.setCell ⟨a, 0, none⟩ u0).setCell ⟨a, 1, none⟩ u1).setCell ⟨a, 2, none⟩ u2) a u0 u1 u2 v3 v4 := by
  refine ⟨store3 h.node _ _ _, ?_, ?_⟩
  · rw [Below.heap_setCell _ ⟨a, 2, none⟩ _ (a + 1) (by show a + 1 ≠ a; omega), Below.heap_setCell _ ⟨a, 1, none⟩ _ (a + 1) (by show a + 1 ≠ a; omega), Below.heap_setCell _ ⟨a, 0, none⟩ _ (a + 1) (by show a + 1 ≠ a; omega)]
    exact h.code
  · rw [Below.heap_setCell _ ⟨a, 2, none⟩ _ (a + 2) (by show a + 2 ≠ a; omega), Below.heap_setCell _ ⟨a, 1, none⟩ _ (a + 2) (by show a + 2 ≠ a; omega), Below.heap_setCell _ ⟨a, 0, none⟩ _ (a + 2) (by show a + 2 ≠ a; omega)]
    exact h.at_
theorem w4_at (w : World) (s : ByteArray) (hs : s.size ≤ 256) : At (w4_ w s) (w.heap.size + 3) s (bI s) := by
  refine ⟨⟨0, ?_, by omega, by rw [bI_len]; omega, rfl⟩, hs⟩
  have := blk_new (w3_ w) (.cells #[.string s, .int .i64 0] 62)
  rw [w3_size] at this
  exact this
theorem Outs.drewN {W : World} {a : Nat} {v0 v1 v2 v3 v4 : Value} (h : Outs W a v0 v1 v2 v3 v4) (n : Nat) : Outs (W.drewN n) a v0 v1 v2 v3 v4 := ⟨h.node, h.code, h.at_⟩
/-- The results' blocks are written: trees behind them stay. -/
theorem tree_set {W : World} {a B : Nat} {v : Value} {t : S30} (h : Tree W B v t) (hB : a + 2 < B) (u0 u1 u2 u3 u4 : Value) : Tree (((((W.setCell ⟨a, 0, none⟩ u0).setCell ⟨a, 1, none⟩ u1).setCell ⟨a, 2, none⟩ u2).setCell ⟨a + 1, 0, none⟩ u3).setCell ⟨a + 2, 0, none⟩ u4) B v t :=
  ((((h.far (p := ⟨a, 0, none⟩) (by show a < B; omega) u0).far (p := ⟨a, 1, none⟩) (by show a < B; omega) u1).far (p := ⟨a, 2, none⟩) (by show a < B; omega) u2).far (p := ⟨a + 1, 0, none⟩) (by show a + 1 < B; omega) u3).far (p := ⟨a + 2, 0, none⟩) (by show a + 2 < B; omega) u4
/-- How the reading stands behind its alternation. -/
structure Mid (w wq : World) (s : ByteArray) (v : Value) (t : S30) (r : List Int) (v0 v1 v2 : Value) : Prop where
  outs : Outs wq w.heap.size v0 v1 v2 (.int .i64 0) (.int .i64 0)
  tree : Tree wq (w.heap.size + 4) v t
  below : Kpt w wq
  at_ : At wq (w.heap.size + 3) s r
theorem mid_of {w w5 : World} {s : ByteArray} {v : Value} {t : S30} {r : List Int} (ht : Tree w5 (w4_ w s).heap.size v t) (hk : KeepBut (w4_ w s) w5 (w.heap.size + 3) none) (ha : At w5 (w.heap.size + 3) s r) : Mid w w5 s v t r (.int .i64 0) (.slice none 0 0) (.slice none 0 0) := by
  refine ⟨((w3_outs w).alloc (.cells #[.string s, .int .i64 0] 62)).kept hk (Nat.lt_succ_self _), by rw [w4_size] at ht; exact ht, ?_, ha⟩
  have hs := hk.1
  rw [w4_size] at hs
  exact ⟨hk.os, hk.tape, hk.output, by omega, fun k hk' => (hk.2 k (by rw [w4_size]; omega) (by omega) (by simp)).trans ((w4_below w s).block k hk')⟩
theorem Mid.node {w wq : World} {s : ByteArray} {v : Value} {t : S30} {r : List Int} {v0 v1 v2 : Value} (h : Mid w wq s v t r v0 v1 v2) (u0 u1 u2 : Value) : Mid w (((wq.setCell ⟨w.heap.size, 0, none⟩ u0).setCell ⟨w.heap.size, 1, none⟩ u1).setCell ⟨w.heap.size, 2, none⟩ u2) s v t r u0 u1 u2 :=
  ⟨h.outs.node_set _ _ _, ((h.tree.far (p := ⟨w.heap.size, 0, none⟩) (by show w.heap.size < _; omega) u0).far (p := ⟨w.heap.size, 1, none⟩) (by show w.heap.size < _; omega) u1).far (p := ⟨w.heap.size, 2, none⟩) (by show w.heap.size < _; omega) u2,
   ((h.below.setCell (p := ⟨w.heap.size, 0, none⟩) (Nat.le_refl _) u0).setCell (p := ⟨w.heap.size, 1, none⟩) (Nat.le_refl _) u1).setCell (p := ⟨w.heap.size, 2, none⟩) (Nat.le_refl _) u2,
   h.at_.far3 (by omega)⟩
theorem Mid.drewN {w wq : World} {s : ByteArray} {v : Value} {t : S30} {r : List Int} {v0 v1 v2 : Value} (h : Mid w wq s v t r v0 v1 v2) (n : Nat) : Mid w (wq.drewN n) s v t r v0 v1 v2 :=
  ⟨h.outs.drewN n, h.tree.old (fun _ _ _ => rfl), h.below.drewN n, h.at_.drewN n⟩
theorem Mid.fin {w wq w2 : World} {s : ByteArray} {v : Value} {t : S30} {r : List Int} {v0 v1 v2 : Value} (h : Mid w wq s v t r v0 v1 v2) (u0 u1 u2 u3 u4 : Value)
    (hb : Below (((((wq.setCell ⟨w.heap.size, 0, none⟩ u0).setCell ⟨w.heap.size, 1, none⟩ u1).setCell ⟨w.heap.size, 2, none⟩ u2).setCell ⟨w.heap.size + 1, 0, none⟩ u3).setCell ⟨w.heap.size + 2, 0, none⟩ u4).heap.size (((((wq.setCell ⟨w.heap.size, 0, none⟩ u0).setCell ⟨w.heap.size, 1, none⟩ u1).setCell ⟨w.heap.size, 2, none⟩ u2).setCell ⟨w.heap.size + 1, 0, none⟩ u3).setCell ⟨w.heap.size + 2, 0, none⟩ u4) w2) :
    Outs w2 w.heap.size u0 u1 u2 u3 u4 ∧ Tree w2 w.heap.size v t ∧ Kpt w w2 := by
  refine ⟨(outs_set h.outs _ _ _ _ _).below hb, ?_, ?_⟩
  · exact ((tree_set h.tree (by omega) u0 u1 u2 u3 u4).old (fun k _ hk => hb.block k hk)).lower (by omega)
  · exact (((((h.below.setCell (p := ⟨w.heap.size, 0, none⟩) (Nat.le_refl _) u0).setCell (p := ⟨w.heap.size, 1, none⟩) (Nat.le_refl _) u1).setCell (p := ⟨w.heap.size, 2, none⟩) (Nat.le_refl _) u2).setCell (p := ⟨w.heap.size + 1, 0, none⟩) (Nat.le_succ _) u3).setCell (p := ⟨w.heap.size + 2, 0, none⟩) (Nat.le_add_right _ _) u4).trans (Kpt.of_below hb)
set_option maxHeartbeats 4000000 in
set_option maxRecDepth 100000 in
theorem parse_ok {w : World} {s : ByteArray} {t : S30} (hs : s.size ≤ 256) (h : altR (bI s) = .ok t []) : Calls Try.prog 13 #[.string s] w (PRes w (t, 0, 0)) := by
  have hA := alt_any (w4_at w s hs)
  rw [h] at hA
  have HA := Lib.hid hA
  have hs' : (s.size : Int) ≤ 256 := by omega
  have hmf : ∀ (fn : Fn) (first cap : Array Value) (w : World), (Instr.makeFunc fn first cap).run Try.prog w = .ok (.func fn first cap) w := fun _ _ _ _ => rfl
  clear hA h hs
  go_enter_defers Try.func13, Try.ntmps13
  go_wp2_with (first
    | (go_at_call 22; refine HA.out.mono ?_; rintro e w5 ⟨v, rfl, ht, hk, ha⟩; (have hm := mid_of ht hk ha); (obtain ⟨A1, n1, c1, A2, n2, c2, rfl, hr1, hr2⟩ := ht); have ho := hm.outs; have f0 := blk_cell ho.node 0; have f1 := blk_cell ho.node 1; have f2 := blk_cell ho.node 2; have f3 := blk_frozen ho.node 0; have f4 := blk_frozen ho.node 1; have f5 := blk_frozen ho.node 2; (simp only [List.getElem?_toArray, List.getElem?_cons_zero, List.getElem?_cons_succ] at f0 f1 f2); have HM := Lib.hid (hm.node (.int .i64 t.f0) (.slice A1 n1 c1) (.slice A2 n2 c2)); clear ho hm ha hk hr1 hr2)
    | (go_at_call 23; refine (over_nil HM.out.at_).mono ?_; rintro e wq ⟨rfl, q, hq⟩; (obtain HM7 : Hid (Mid w wq s _ t [] _ _ _) := Lib.hid (by rw [hq]; exact HM.out.drewN q)); clear hq; have ho := HM7.out.outs; have k0 := blk_cell ho.node 0; have k1 := blk_cell ho.node 1; have k2 := blk_cell ho.node 2; have k3 := blk_frozen ho.node 0; have k4 := blk_frozen ho.node 1; have k5 := blk_frozen ho.node 2; have k6 := blk_cell ho.code 0; have k7 := blk_frozen ho.code 0; have k8 := blk_cell ho.at_ 0; have k9 := blk_frozen ho.at_ 0; (simp only [List.getElem?_toArray, List.getElem?_cons_zero, List.getElem?_cons_succ] at k0 k1 k2 k6 k8); clear ho))
  refine leaves_cons (f := 21) (args := #[.pointer (some ⟨w.heap.size, 0, none⟩), .pointer (some ⟨w.heap.size + 1, 0, none⟩), .pointer (some ⟨w.heap.size + 2, 0, none⟩)]) (by simp) (by simp [go_sem]) ?_
  refine (caught_idle ⟨w.heap.size, 0, none⟩ ⟨w.heap.size + 1, 0, none⟩ ⟨w.heap.size + 2, 0, none⟩ _).mono ?_
  rintro e u' w'' ⟨rfl, rfl, hb⟩
  have HF := HM7.out.fin _ _ _ _ _ hb
  have ho := HF.1
  have h0 := blk_cell ho.node 0
  have h1 := blk_cell ho.node 1
  have h2 := blk_cell ho.node 2
  have h6 := blk_cell ho.code 0
  have h8 := blk_cell ho.at_ 0
  simp only [List.getElem?_toArray, List.getElem?_cons_zero, List.getElem?_cons_succ] at h0 h1 h2 h6 h8
  simp [Leaves, settle, results, Try.results13, go_sem, h0, h1, h2, h6, h8]
  exact ⟨_, rfl, HF.2.1, HF.2.2⟩
theorem tree_zero (w : World) (B : Nat) : Tree w B (.agg #[.int .i64 0, .slice none 0 0, .slice none 0 0]) z30 := ⟨none, 0, 0, none, 0, 0, rfl, Kd.R_nil _ _ _ _ _, Kd.R_nil _ _ _ _ _⟩
set_option maxHeartbeats 4000000 in
set_option maxRecDepth 100000 in
theorem parse_err {w : World} {s : ByteArray} {c : Int} {k : Nat} (hs : s.size ≤ 256) (h : altR (bI s) = .err c k) : Calls Try.prog 13 #[.string s] w (PRes w (z30, c, (s.size : Int) - (k : Int))) := by
  have hA := alt_any (w4_at w s hs)
  rw [h] at hA
  have HA := Lib.hid hA
  have hs' : (s.size : Int) ≤ 256 := by omega
  have hmf : ∀ (fn : Fn) (first cap : Array Value) (w : World), (Instr.makeFunc fn first cap).run Try.prog w = .ok (.func fn first cap) w := fun _ _ _ _ => rfl
  have HO := Lib.hid ((w3_outs w).alloc (.cells #[.string s, .int .i64 0] 62))
  clear hA h hs
  go_enter_defers Try.func13, Try.ntmps13
  go_wp2_with (first
    | (go_at_call 22; refine HA.out.mono ?_; rintro e w5 ⟨rfl, hk⟩; have HK := Lib.hid hk; clear hk))
  refine leaves_cons (f := 21) (args := #[.pointer (some ⟨w.heap.size, 0, none⟩), .pointer (some ⟨w.heap.size + 1, 0, none⟩), .pointer (some ⟨w.heap.size + 2, 0, none⟩)]) (by simp) (by simp [go_sem]) ?_
  refine (caught_bad w.heap.size _ c ((s.size : Int) - (k : Int)) _ _ _ _ _ (HO.out.kept HK.out (Nat.lt_succ_self _))).mono ?_
  rintro e u' w'' ⟨rfl, rfl, hb, ho⟩
  have h0 := blk_cell ho.node 0
  have h1 := blk_cell ho.node 1
  have h2 := blk_cell ho.node 2
  have h6 := blk_cell ho.code 0
  have h8 := blk_cell ho.at_ 0
  simp only [List.getElem?_toArray, List.getElem?_cons_zero, List.getElem?_cons_succ] at h0 h1 h2 h6 h8
  simp [Leaves, settle, results, Try.results13, go_sem, h0, h1, h2, h6, h8]
  have hk1 : Kpt w w5 := ⟨HK.out.os, HK.out.tape, HK.out.output, by have := HK.out.1; have := w4_size w s; omega, fun j hj => (HK.out.2 j (by rw [w4_size]; omega) (by omega) (by simp)).trans ((w4_below w s).block j hj)⟩
  exact ⟨_, rfl, tree_zero _ _, Below.trans hk1 hb⟩
set_option maxHeartbeats 4000000 in
set_option maxRecDepth 100000 in
theorem parse_more {w : World} {s : ByteArray} {t : S30} {d : Int} {r : List Int} (hs : s.size ≤ 256) (h : altR (bI s) = .ok t (d :: r)) : Calls Try.prog 13 #[.string s] w (PRes w (z30, 30, (s.size : Int) - ((r.length + 1 : Nat) : Int))) := by
  have hA := alt_any (w4_at w s hs)
  rw [h] at hA
  have HA := Lib.hid hA
  have hs' : (s.size : Int) ≤ 256 := by omega
  have hmf : ∀ (fn : Fn) (first cap : Array Value) (w : World), (Instr.makeFunc fn first cap).run Try.prog w = .ok (.func fn first cap) w := fun _ _ _ _ => rfl
  clear hA h hs
  go_enter_defers Try.func13, Try.ntmps13
  go_wp2_with (first
    | (go_at_call 22; refine HA.out.mono ?_; rintro e w5 ⟨v, rfl, ht, hk, ha⟩; (have hm := mid_of ht hk ha); (obtain ⟨A1, n1, c1, A2, n2, c2, rfl, hr1, hr2⟩ := ht); have ho := hm.outs; have f0 := blk_cell ho.node 0; have f1 := blk_cell ho.node 1; have f2 := blk_cell ho.node 2; have f3 := blk_frozen ho.node 0; have f4 := blk_frozen ho.node 1; have f5 := blk_frozen ho.node 2; (simp only [List.getElem?_toArray, List.getElem?_cons_zero, List.getElem?_cons_succ] at f0 f1 f2); have HM := Lib.hid (hm.node (.int .i64 t.f0) (.slice A1 n1 c1) (.slice A2 n2 c2)); clear ho hm ha hk hr1 hr2)
    | (go_at_call 23; refine (over_cons HM.out.at_).mono ?_; rintro e wq ⟨rfl, q, hq⟩; (obtain HM7 : Hid (Mid w wq s _ t (d :: r) _ _ _) := Lib.hid (by rw [hq]; exact HM.out.drewN q)); clear hq; (obtain ⟨i, q0, q1, q2, q3, q4, q5⟩ := HM7.out.at_.facts); have Q4 := Lib.hid q4; clear q4)
    | (go_at_call 24; refine (fail_any _ _ _ _).mono ?_; rintro e wq2 ⟨rfl, rfl⟩))
  refine leaves_cons (f := 21) (args := #[.pointer (some ⟨w.heap.size, 0, none⟩), .pointer (some ⟨w.heap.size + 1, 0, none⟩), .pointer (some ⟨w.heap.size + 2, 0, none⟩)]) (by simp) (by simp [go_sem]) ?_
  refine (caught_bad w.heap.size _ 30 i _ _ _ _ _ HM7.out.outs).mono ?_
  rintro e u' w'' ⟨rfl, rfl, hb, ho⟩
  have h0 := blk_cell ho.node 0
  have h1 := blk_cell ho.node 1
  have h2 := blk_cell ho.node 2
  have h6 := blk_cell ho.code 0
  have h8 := blk_cell ho.at_ 0
  simp only [List.getElem?_toArray, List.getElem?_cons_zero, List.getElem?_cons_succ] at h0 h1 h2 h6 h8
  simp [Leaves, settle, results, Try.results13, go_sem, h0, h1, h2, h6, h8]
  have ei : i = (s.size : Int) - ((r.length + 1 : Nat) : Int) := by have := Q4.out; simp only [List.length_cons] at this; omega
  subst ei
  exact ⟨_, rfl, tree_zero _ _, Below.trans HM7.out.below hb⟩
set_option maxHeartbeats 4000000 in
set_option maxRecDepth 100000 in
theorem parse_long {w : World} {s : ByteArray} (hs : 256 < s.size) : Calls Try.prog 13 #[.string s] w (PRes w (z30, 2, 0)) := by
  have hs' : decide ((s.size : Int) > 256) = true := by simpa using (by omega : (256 : Int) < (s.size : Int))
  have hs2 : decide ((256 : Int) < (s.size : Int)) = true := by simpa using (by omega : (256 : Int) < (s.size : Int))
  clear hs
  go_enter_defers Try.func13, Try.ntmps13
  go_wp2
  have ho : Outs (((w.alloc (.cells #[.int .i64 0, .slice none 0 0, .slice none 0 0] 30)).alloc (.cells #[.int .i64 2] 24)).alloc (.cells #[.int .i64 0] 3)) w.heap.size (.int .i64 0) (.slice none 0 0) (.slice none 0 0) (.int .i64 2) (.int .i64 0) := by
    have a := blk_new w (.cells #[.int .i64 0, .slice none 0 0, .slice none 0 0] 30)
    have b := blk_new (w.alloc (.cells #[.int .i64 0, .slice none 0 0, .slice none 0 0] 30)) (.cells #[.int .i64 2] 24)
    have c := blk_new ((w.alloc (.cells #[.int .i64 0, .slice none 0 0, .slice none 0 0] 30)).alloc (.cells #[.int .i64 2] 24)) (.cells #[.int .i64 0] 3)
    rw [al_size] at b
    rw [al_size, al_size] at c
    exact ⟨blk_alloc (blk_alloc a _) _, blk_alloc b _, c⟩
  have hk : Kpt w (((w.alloc (.cells #[.int .i64 0, .slice none 0 0, .slice none 0 0] 30)).alloc (.cells #[.int .i64 2] 24)).alloc (.cells #[.int .i64 0] 3)) := (((Kpt.refl w).alloc _).alloc _).alloc _
  have h0 := blk_cell ho.node 0
  have h1 := blk_cell ho.node 1
  have h2 := blk_cell ho.node 2
  have h6 := blk_cell ho.code 0
  have h8 := blk_cell ho.at_ 0
  simp only [List.getElem?_toArray, List.getElem?_cons_zero, List.getElem?_cons_succ] at h0 h1 h2 h6 h8
  simp [bodyPostD, Leaves, settle, results, Try.results13, go_sem, h0, h1, h2, h6, h8]
  exact ⟨_, rfl, tree_zero _ _, hk⟩
theorem parse_any (s : ByteArray) (w : World) : Calls Try.prog 13 #[.string s] w (PRes w (parseP (bI s))) := by
  unfold parseP
  rw [bI_len]
  by_cases hs : 256 < s.size
  · rw [if_pos hs]; exact parse_long hs
  · rw [if_neg hs]
    cases h : altR (bI s) with
    | err c k => exact parse_err (by omega) h
    | ok t r =>
      cases r with
      | nil => exact parse_ok (by omega) h
      | cons d r => exact parse_more (by omega) h
end Go.Proofs.Ytdgidcfmggmbiaa.Rx
