/- rex's reader: a class. -/
import Derived.Test.YtdgidcfmggmbiaaMd
namespace Go.Proofs.Ytdgidcfmggmbiaa.Rx
open Go.RowKit Go.Proofs.YtdgidcfmggmbiaaW.PrintWords Go.Proofs.YtdgidcfmggmbiaaW.PrintLast Go.Proofs.YtdgidcfmggmbiaaW.PrintMore Go.Proofs.Ytdgidcfmggmbiaa.PRx
set_option linter.unusedVariables false
set_option linter.unusedSimpArgs false

/-- The ranges that have been read so far are right. -/
def Right (acc : List S98) : Prop := ∀ x, x ∈ acc → x.f0 ≤ x.f1 ∧ 0 ≤ x.f0 ∧ x.f0 < 256 ∧ 0 ≤ x.f1 ∧ x.f1 < 256
theorem right_snoc {acc : List S98} {lo hi : Int} (h : Right acc) (h1 : lo ≤ hi) (h2 : 0 ≤ lo ∧ lo < 256) (h3 : 0 ≤ hi) (h4 : hi < 256) : Right (acc ++ [⟨lo, hi⟩]) := by
  intro x hx
  rcases List.mem_append.mp hx with hx | hx
  · exact h x hx
  · obtain rfl := List.mem_singleton.mp hx
    exact ⟨h1, h2.1, h2.2, h3, h4⟩
set_option maxHeartbeats 8000000 in
set_option maxRecDepth 100000 in
theorem class_any {w : World} {g : Nat} {s : ByteArray} {r : List Int} (h : At w g s r) : Calls Try.prog 71 #[.pointer (some ⟨g, 0, none⟩)] w (TRes w g s (classR r)) := by
  rw [class_eq]
  have HI := Lib.hid (is_any (h.moved (o := .cells #[.int .i64 0, .slice none 0 0, .slice none 0 0] 30)) 94)
  have hgl := h.lt
  have HGL := Lib.hid hgl
  obtain ⟨neg, hneg⟩ : ∃ b, b = isB 94 r := ⟨_, rfl⟩
  obtain ⟨ys, hys⟩ : ∃ b, b = isT 94 r := ⟨_, rfl⟩
  rw [← hneg, ← hys] at HI ⊢
  obtain ⟨res, hres⟩ : ∃ q, q = if ys.head? = some 93 then R.err 30 ys.length else (clsR (ys.length + 1) [] ys).bind fun rs r1 => .ok (setN neg rs) r1 := ⟨_, rfl⟩
  rw [← hres]
  have HRES := Lib.hid hres
  clear hneg hys h hgl hres
  go_enter Try.func71, Try.ntmps71
  go_upto_region 2 with (first | (go_at_call 50; refine HI.out.mono ?_; rintro e w1 ⟨rfl, hk, ha⟩; (have HK1 := Lib.hid hk; have HA1 := Lib.hid ha; clear hk ha HI)))
  go_cut [24] (fun s24 wc => ∃ tb : Bool, s24 = .bool tb ∧ Hid (tb = decide (ys.head? = some 93)) ∧ ∃ n, wc = w1.drewN n)
  case first =>
    cases ys with
    | nil =>
      obtain ⟨i, f0, f1, f2, h1, h2, h3⟩ := HA1.out.facts
      go_quiet (first | (go_at_call 23; refine Calls.quiet_of (over_nil (HA1.out.drewN _))))
      go_wp2
      go_meet
      exact ⟨_, rfl, Lib.hid rfl, _, rfl⟩
    | cons c ys =>
      obtain ⟨i, f0, f1, f2, h1, h2, h3, f4, h5, h6, h7⟩ := HA1.out.char
      clear h5
      go_quiet (first | (go_at_call 23; refine Calls.quiet_of (over_cons (HA1.out.drewN _))))
      go_wp2
      go_meet
      exact ⟨_, rfl, Lib.hid (by rw [Bool.eq_iff_iff]; simp), _, rfl⟩
  case rest =>
    obtain ⟨tb, rfl, HTB, n, rfl⟩ := hcut
    have HA2 := Lib.hid (HA1.out.drewN n)
    have HK2 := Lib.hid (keep_drewN HK1.out n)
    clear HA1 HK1
    cases tb with
    | true =>
      have h93 : ys.head? = some 93 := of_decide_eq_true HTB.out.symm
      obtain ⟨i, f0, f1, f2, h1, h2, h3⟩ := HA2.out.facts
      have HE : Hid (res = .err 30 ys.length) := Lib.hid (by rw [HRES.out, if_pos h93])
      have H2 := Lib.hid h2
      clear h93
      go_wp2_with (first | (go_at_call 24; refine (fail_any _ _ _ _).mono ?_; rintro e wq2 ⟨rfl, rfl⟩))
      rw [HE.out]
      exact ⟨rfl, by have := H2.out; rw [show (s.size : Int) - (ys.length : Int) = i by omega], sub_keep HK2.out HGL.out⟩
    | false =>
      have h93 : ¬ ys.head? = some 93 := of_decide_eq_false HTB.out.symm
      have HE : Hid (res = (clsR (ys.length + 1) [] ys).bind fun rs r1 => .ok (setN neg rs) r1) := Lib.hid (by rw [HRES.out, if_neg h93])
      clear h93 HRES
      have hsm : ys.length ≤ 256 := by obtain ⟨i, _, _, _, h1, h2, h3⟩ := HA2.out.facts; omega
      have HSM := Lib.hid hsm
      clear hsm
      go_wp2_with fail
      go_loopg [4] (ys.length + 1) (fun kq v4 wr => ∃ acc r A n c, v4 = .slice A n c ∧ Hid (Kd.R k98 98 wr (w.heap.size + 1) (fun _ => True) (.slice A n c) acc) ∧ Hid (At wr g s r) ∧ Hid (KeepBut (w.alloc (.cells #[.int .i64 0, .slice none 0 0, .slice none 0 0] 30)) wr g none) ∧ Hid ((res = (clsR kq acc r).bind fun rs r1 => .ok (setN neg rs) r1) ∧ r.length < kq ∧ acc.length + r.length ≤ ys.length ∧ Right acc))
      case atStart => exact ⟨[], ys, none, 0, 0, rfl, Lib.hid (Kd.R_nil _ _ _ _ _), HA2, HK2, Lib.hid ⟨HE.out, by omega, by simp, fun x hx => by cases hx⟩⟩
      case round =>
        obtain ⟨acc, r, A, n, c, rfl, HR, HA, HK, HF⟩ := hrel
        have hlt1 : w.heap.size < (w.alloc (.cells #[.int .i64 0, .slice none 0 0, .slice none 0 0] 30)).heap.size := by rw [al_size]; exact Nat.lt_succ_self _
        go_upto_region 5 with fail
        go_cut [38] from 31 to 102 (fun s38 wc => ∃ tb : Bool, s38 = .bool tb ∧ Hid (tb = decide (acc = [] ∨ r.head? ≠ some 93)) ∧ Hid (At wc g s (if tb = true then r else r.tail)) ∧ Hid (KeepBut wr wc g none))
        case first =>
          cases acc with
          | nil =>
            obtain rfl := (Kd.R_reads' HR.out).1
            go_wp2
            go_meet
            exact ⟨_, rfl, Lib.hid (by simp), Lib.hid HA.out, Lib.hid (KeepBut.refl _ _ _)⟩
          | cons x acc =>
            have hn := (Kd.R_reads' HR.out).1
            have g0 : ((n : Int) == 0) = false := by simp only [List.length_cons] at hn; simp; omega
            clear hn
            have HI := Lib.hid (is_any HA.out 93)
            go_wp2_with (first | (go_at_call 50; refine HI.out.mono ?_; rintro e w1 ⟨rfl, hk, ha⟩; (have HK1 := Lib.hid hk; have HA1 := Lib.hid ha; clear hk ha HI)))
            go_meet
            exact ⟨_, rfl, Lib.hid (by unfold isB; rw [Bool.eq_iff_iff]; simp), Lib.hid (by have ha := HA1.out; cases hb : isB 93 r with | true => rw [isT_yes hb] at ha; simpa using ha | false => rw [isT_no hb] at ha; simpa using ha), HK1⟩
        case rest =>
          obtain ⟨tb, rfl, HTB, HA3, HK3⟩ := hcut
          cases tb with
          | false =>
            have h93 : ¬ (acc = [] ∨ r.head? ≠ some 93) := of_decide_eq_false HTB.out.symm
            obtain ⟨hacc, h93⟩ := not_or.mp h93
            have HEQ : Hid (res = .ok (setN neg acc) r.tail) := by
              refine Lib.hid ?_
              rw [HF.out.1]
              cases gk with
              | zero => have := HF.out.2.1; omega
              | succ gk => rw [clsR, if_pos ⟨hacc, by simpa using h93⟩]; rfl
            have hfit : Fit acc := by
              obtain ⟨_, _, h3, h4⟩ := HF.out
              exact ⟨fun x hx => (h4 x hx).2, by have := HSM.out; omega⟩
            have HRC := R_kept HR.out HK3.out (by have := HGL.out; omega)
            obtain ⟨rfl, hl, hC⟩ := Kd.R_reads' HRC
            have HS := Lib.hid (set_any neg hl hC hfit)
            have HA4 := Lib.hid HA3.out
            rw [if_neg (by decide)] at HA4
            have HK4 := Lib.hid (HK.out.trans HK3.out (.inl rfl))
            clear h93 hacc hfit hl hC HRC HTB HA3
            have hgb : (w.alloc (.cells #[.int .i64 0, .slice none 0 0, .slice none 0 0] 30)).heap[w.heap.size]? = some (.cells #[.int .i64 0, .slice none 0 0, .slice none 0 0] 30 (0, 0)) := blk_new w _
            have HGB := Lib.hid (blk_kept_ hgb HK4.out (by have := HGL.out; omega))
            clear hgb
            go_wp2_with (first | (go_at_call 70; refine HS.out.mono ?_; rintro e w5 ⟨v, rfl, ⟨A1, n1, c1, A2, n2, c2, rfl, hr1, hr2⟩, hb⟩; have h1 := blk_below HGB.out hb; have f0 := blk_cell h1 0; have f1 := blk_cell h1 1; have f2 := blk_cell h1 2; have f3 := blk_frozen h1 0; have f4 := blk_frozen h1 1; have f5 := blk_frozen h1 2; (simp only [List.getElem?_toArray, List.getElem?_cons_zero, List.getElem?_cons_succ] at f0 f1 f2); have H1 := Lib.hid h1; have HR1 := Lib.hid hr1; have HR2 := Lib.hid hr2; have HB1 := Lib.hid hb; clear h1 hr1 hr2 hb))
            have hg := store3 H1.out (.int .i64 (setN neg acc).f0) (.slice A1 n1 c1) (.slice A2 n2 c2)
            have hlt2 := Nat.lt_of_lt_of_le hlt1 HK4.out.1
            rw [HEQ.out]
            refine bodyPost_ret (results_cell_row (p := 2) rfl _ _ w.heap.size 30 _ (0, 0) _ rfl hg Try.underlying30 rfl size30) rfl ?_
            exact ⟨_, rfl, ⟨A1, n1, c1, A2, n2, c2, rfl, far3 HR1.out hlt2 (Nat.le_of_lt hlt2), far3 HR2.out hlt2 (Nat.le_of_lt hlt2)⟩, keep_far3 (keep_below (sub_keep HK4.out HGL.out) HB1.out) (Nat.le_refl _), (HA4.out.below HB1.out).far3 (Nat.ne_of_lt HGL.out)⟩
          | true =>
            have h93 : acc = [] ∨ r.head? ≠ some 93 := of_decide_eq_true HTB.out.symm
            have HSTEP : Hid (res = (clsR (gk - 1 + 1) acc r).bind fun rs r1 => .ok (setN neg rs) r1) := Lib.hid (by rw [HF.out.1]; cases gk with | zero => have := HF.out.2.1; omega | succ gk => rfl)
            have HSTEP2 : Hid (res = ((rangeR r).bind fun x r1 => clsR (gk - 1) (acc ++ [x]) r1).bind fun rs r1 => .ok (setN neg rs) r1) := by
              refine Lib.hid ?_
              rw [HSTEP.out, clsR, if_neg (by rcases h93 with h | h <;> simp [h])]
            rw [if_pos rfl] at HA3
            have HR3 := Lib.hid (R_kept HR.out HK3.out (by have := HGL.out; omega))
            have HK4 := Lib.hid (HK.out.trans HK3.out (.inl rfl))
            obtain ⟨i, f0, f1, f2, h1, h2, h3⟩ := HA3.out.facts
            have H2 := Lib.hid h2
            have HIT := Lib.hid (item_any HA3.out)
            clear h93 HTB HSTEP h2
            cases hq : itemR r with
            | err ce ke =>
              rw [hq] at HIT
              have HEQ : Hid (res = .err ce ke) := Lib.hid (by rw [HSTEP2.out, rangeR, hq]; rfl)
              clear hq
              go_wp2_with (first | (go_at_call 80; refine HIT.out.mono ?_; rintro e w5 ⟨rfl, hk⟩; (have HK5 := Lib.hid hk; clear hk)))
              rw [HEQ.out]
              exact ⟨rfl, rfl, sub_keep (HK4.out.trans HK5.out (.inl rfl)) HGL.out⟩
            | ok lo r1 =>
              have HLO := Lib.hid (item_rng HA3.out.rng hq)
              have HSH := Lib.hid (item_shrinks hq)
              rw [hq] at HIT
              have HQ := Lib.hid hq
              clear hq
              go_upto_region 9 with (first | (go_at_call 80; refine HIT.out.mono ?_; rintro e w5 ⟨rfl, hk, ha⟩; (have HK5 := Lib.hid hk; have HA5 := Lib.hid ha; clear hk ha)))
              go_cut [81] from 31 to 102 (fun s81 wc => ∃ tb : Bool, s81 = .bool tb ∧ Hid (tb = dash r1) ∧ ∃ n, wc = w5.drewN n)
              case first =>
                clear f0 f1 f2
                as_aux_lemma =>
                  cases r1 with
                  | nil =>
                    obtain ⟨i5, t5, f0, f1, f2, h15, h25, h35, f4, ht⟩ := HA5.out.tail_text
                    have HP := Lib.hid (fun W => prefix_is t5 false (by rw [ht]; rfl) W)
                    clear ht
                    go_quiet (first | (go_at_call 52; refine Calls.quiet_of (HP.out _)))
                    go_wp2
                    go_meet
                    exact ⟨_, rfl, Lib.hid rfl, _, rfl⟩
                  | cons c1 r1 =>
                    by_cases hc1 : c1 = 45
                    · subst hc1
                      cases r1 with
                      | nil =>
                        obtain ⟨i5, t5, f0, f1, f2, h15, h25, h35, f4, ht⟩ := HA5.out.tail_text
                        have HP := Lib.hid (fun W => prefix_is t5 true (by rw [ht]; rfl) W)
                        have g5 : decide (i5 + 1 < (s.size : Int)) = false := by simp only [List.length_cons, List.length_nil] at h25; simp; omega
                        clear ht
                        go_quiet (first | (go_at_call 52; refine Calls.quiet_of (HP.out _)))
                        go_wp2
                        go_meet
                        exact ⟨_, rfl, Lib.hid rfl, _, rfl⟩
                      | cons d1 r1 =>
                        obtain ⟨i5, t5, f0, f1, f2, h15, h25, h35, f4, ht, f6⟩ := HA5.out.tail2
                        have HP := Lib.hid (fun W => prefix_is t5 true (by rw [ht]; rfl) W)
                        have g5 : decide (i5 + 1 < (s.size : Int)) = true := by simp; omega
                        clear ht
                        go_quiet (first | (go_at_call 52; refine Calls.quiet_of (HP.out _)))
                        go_wp2
                        go_meet
                        exact ⟨_, rfl, Lib.hid (by rw [dash, Bool.eq_iff_iff]; simp), _, rfl⟩
                    · obtain ⟨i5, t5, f0, f1, f2, h15, h25, h35, f4, ht⟩ := HA5.out.tail_text
                      have HP := Lib.hid (fun W => prefix_is t5 false (by rw [ht]; simpa using hc1) W)
                      have HD : Hid (false = dash (c1 :: r1)) := Lib.hid (dash_no hc1).symm
                      clear ht hc1
                      go_quiet (first | (go_at_call 52; refine Calls.quiet_of (HP.out _)))
                      go_wp2
                      go_meet
                      exact ⟨_, rfl, HD, _, rfl⟩
              case rest =>
                obtain ⟨tb2, rfl, HTB2, n2, rfl⟩ := hcut
                have HA6 := Lib.hid (HA5.out.drewN n2)
                have HK6 := Lib.hid (keep_drewN HK5.out n2)
                clear HA5 HK5 f0 f1 f2
                go_upto_if 81 with fail
                go_cut [7] from 31 to 102 (fun s7 wd => ∃ hi r2, s7 = .int .u8 hi ∧ Hid (((if dash r1 then itemR r1.tail else .ok lo r1) : R Int) = .ok hi r2) ∧ Hid (At wd g s r2) ∧ Hid (KeepBut wc wd g none) ∧ Hid (0 ≤ hi ∧ hi < 256 ∧ r2.length < r.length))
                case first =>
                  as_aux_lemma =>
                    cases tb2 with
                    | false =>
                      go_wp2
                      go_meet
                      exact ⟨lo, r1, rfl, Lib.hid (by rw [← HTB2.out]; rfl), HA6, HK6, Lib.hid ⟨HLO.out.1, HLO.out.2, HSH.out⟩⟩
                    | true =>
                      cases r1 with
                      | nil => have := HTB2.out; cases this
                      | cons c1 r1 =>
                        obtain ⟨i5, f0, f1, f2, h15, h25, h35, f4, h5, h6, h7⟩ := HA6.out.char
                        have HA7 := Lib.hid h5
                        have HIT2 := Lib.hid (item_any h5)
                        clear h5 f4
                        cases hq2 : itemR r1 with
                        | err ce ke =>
                          rw [hq2] at HIT2
                          have HEQ : Hid (res = .err ce ke) := Lib.hid (by rw [HSTEP2.out, rangeR, HQ.out]; show ((((if dash (c1 :: r1) then itemR (c1 :: r1).tail else R.ok lo (c1 :: r1) : R Int).bind _).bind _).bind _) = _; rw [← HTB2.out, if_pos rfl]; show (((itemR r1).bind _).bind _).bind _ = _; rw [hq2]; rfl)
                          clear hq2
                          go_wp2_with (first | (go_at_call 80; refine HIT2.out.mono ?_; rintro e w8 ⟨rfl, hk⟩; (have HK8 := Lib.hid hk; clear hk)))
                          rw [HEQ.out]
                          exact ⟨rfl, rfl, sub_keep ((HK4.out.trans (HK6.out.set_ 1 _) (.inl rfl)).trans HK8.out (.inl rfl)) HGL.out⟩
                        | ok hi r2 =>
                          have HHI := Lib.hid (item_rng HA7.out.rng hq2)
                          have HSH2 := Lib.hid (item_shrinks hq2)
                          rw [hq2] at HIT2
                          have HQ2 := Lib.hid hq2
                          clear hq2
                          go_wp2_with (first | (go_at_call 80; refine HIT2.out.mono ?_; rintro e w8 ⟨rfl, hk, ha⟩; (have HK8 := Lib.hid hk; have HA8 := Lib.hid ha; clear hk ha)))
                          go_meet
                          exact ⟨hi, r2, rfl, Lib.hid (by rw [← HTB2.out, if_pos rfl]; exact HQ2.out), HA8, Lib.hid ((HK6.out.set_ 1 _).trans HK8.out (.inl rfl)), Lib.hid ⟨HHI.out.1, HHI.out.2, by have := HSH.out; have := HSH2.out; simp only [List.length_cons] at *; omega⟩⟩
                case rest =>
                  obtain ⟨hi, r2, rfl, HQ2, HA8, HK8, HH8⟩ := hcut
                  have HST3 : Hid (res = ((if hi < lo then R.err 32 r.length else .ok ⟨lo, hi⟩ r2 : R S98).bind fun x r1 => clsR (gk - 1) (acc ++ [x]) r1).bind fun rs r1 => .ok (setN neg rs) r1) := by
                    refine Lib.hid ?_
                    rw [HSTEP2.out, rangeR, HQ.out]
                    show ((((if dash r1 then itemR r1.tail else R.ok lo r1 : R Int).bind _).bind _).bind _) = _
                    rw [HQ2.out]
                    rfl
                  by_cases hlt : hi < lo
                  · have g7 : decide (hi < lo) = true := by simpa using hlt
                    have HEQ : Hid (res = .err 32 r.length) := Lib.hid (by rw [HST3.out, if_pos hlt]; rfl)
                    clear hlt
                    go_wp2_with (first | (go_at_call 24; refine (fail_any _ _ _ _).mono ?_; rintro e wq2 ⟨rfl, rfl⟩))
                    rw [HEQ.out]
                    exact ⟨rfl, by have := H2.out; rw [show (s.size : Int) - (r.length : Int) = i by omega], sub_keep (HK4.out.trans HK8.out (.inl rfl)) HGL.out⟩
                  · have g7 : decide (hi < lo) = false := by simpa using hlt
                    have HLT := Lib.hid hlt
                    have HEQ : Hid (res = (clsR (gk - 1) (acc ++ [⟨lo, hi⟩]) r2).bind fun rs r1 => .ok (setN neg rs) r1) := Lib.hid (by rw [HST3.out, if_neg hlt]; rfl)
                    have HR8 := Lib.hid (R_kept HR3.out HK8.out (by have := HGL.out; omega))
                    clear hlt
                    have HLN : Hid ((acc.length + 1) * 2 ≤ 140737488355328) := Lib.hid (by have := HF.out.2.2.1; have := HSM.out; omega)
                    have HWC : Hid (w.heap.size + 1 ≤ wc.heap.size) := Lib.hid (by have h := (HK4.out.trans HK8.out (.inl rfl)).1; rw [al_size] at h; exact h)
                    go_wp2_with (first
                      | ((with_reducible refine gate_builtin (b := .append) (xs := #[.tmp 97, .tmp 101]) rfl ?_); at_builtin; go_loud (refine Kd.R_append k98 (w0 := wc) (w.heap.size + 1) rfl (.tmp 97) (.tmp 101) 27 98 _ 2 rfl Try.underlying27 info98 rfl (by decide) (by omega) (.slice A n c) acc ⟨lo, hi⟩ [.int .u8 lo, .int .u8 hi] (fun _ => True) (fun _ => False) rfl rfl ?aP (fun _ hk => hk.elim) ?aF ?aO ?aB ?aS ?aL ?_; (case aP => exact k98_mkM _ _ _ ⟨lo, hi⟩); (case aF => exact fun _ _ => trivial); (case aO => exact HR8.out); (case aB => exact Below.refl _ _); (case aS => exact HWC.out); (case aL => exact HLN.out); intro v9 w9 hr9 hb9 hg9 _; (obtain ⟨A3, n3, c3, rfl⟩ : ∃ A n c, v9 = .slice A n c := by obtain ⟨A, c, e⟩ := Kd.R_slice hr9; exact ⟨A, _, c, e⟩); have HR9 := Lib.hid hr9; have HB9 := Lib.hid hb9; have HG9 := Lib.hid hg9.size; clear hr9 hb9 hg9)))
                    go_roundg (gk - 1)
                    case measure => have := HF.out.2.1; omega
                    case rel => exact ⟨acc ++ [⟨lo, hi⟩], r2, A3, n3, c3, rfl, HR9, Lib.hid (HA8.out.belowB HB9.out (by have := HGL.out; omega)), Lib.hid (keep_belowB (HK4.out.trans HK8.out (.inl rfl)) (by rw [al_size]; exact HB9.out) HG9.out), Lib.hid ⟨HEQ.out, by have := HF.out.2.1; have := HH8.out.2.2; omega, by have := HF.out.2.2.1; have := HH8.out.2.2; simp only [List.length_append, List.length_cons, List.length_nil]; omega, right_snoc HF.out.2.2.2 HLT.out HLO.out HH8.out.1 HH8.out.2.1⟩⟩
end Go.Proofs.Ytdgidcfmggmbiaa.Rx
