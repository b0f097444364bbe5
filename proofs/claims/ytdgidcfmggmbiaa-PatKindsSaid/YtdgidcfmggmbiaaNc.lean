/- glob's reader: a class. -/
import Derived.Test.YtdgidcfmggmbiaaMk
import Derived.Deep.DeepCutAuto
import Derived.Deep.CutRange
import Derived.Deep.CutBlock
namespace Go.Proofs.Ytdgidcfmggmbiaa.Rx
open Go.RowKit Go.Proofs.YtdgidcfmggmbiaaW.PrintWords Go.Proofs.YtdgidcfmggmbiaaW.PrintLast Go.Proofs.YtdgidcfmggmbiaaW.PrintMore Go.Proofs.Ytdgidcfmggmbiaa.PRx
set_option linter.unusedVariables false
set_option linter.unusedSimpArgs false

theorem byte_bad {w : World} {g : Nat} {s : ByteArray} {c : Int} {k : Nat} (h : GBad w g s c k) : Calls Try.prog 26 #[.pointer (some ⟨g, 0, none⟩)] w fun e w' => e = .returned (.tuple #[.int .u8 0, .bool false]) ∧ KeepBut w w' g none ∧ GBad w' g s c k := by
  have hf : glob_reader_byte.f s (s.size : Int) c ((s.size : Int) - (k : Int)) = some (0, false, s, (s.size : Int), c, (s.size : Int) - (k : Int)) := by
    have hc := h.ne
    unfold glob_reader_byte.f glob_reader_next.f glob_reader_over.f glob_reader_fail.f
    simp [hc]
  refine (glob_reader_byte.calls g s _ c _ _ _ _ _ _ _ (w00 w) w ⟨h.cell, Nat.zero_le _⟩ (b00 w) hf).mono ?_
  rintro e w' ⟨he, k1, k2, k3⟩
  exact ⟨he, keep00 k2 k3, ⟨k1.1, h.small, h.ne⟩⟩
theorem classG_eq (r : List Int) : classG r = (clsG ((isT 33 r).length + 1) [] (isT 33 r)).bind fun rs r1 => .ok (setN (isB 33 r) rs) r1 := by
  unfold classG isT isB
  by_cases h : r.head? = some 33
  · simp only [h, if_true, decide_true]
  · simp only [h, if_false, decide_false]
def CRes (w : World) (g : Nat) (s : ByteArray) (q : R S30) (e : Ending) (w' : World) : Prop :=
  match q with
  | .ok t r => ∃ v, e = .returned v ∧ Tree w' w.heap.size v t ∧ KeepBut w w' g none ∧ GAt w' g s r
  | .err c k => ∃ v t, e = .returned v ∧ Tree w' w.heap.size v t ∧ KeepBut w w' g none ∧ GBad w' g s c k
/-- How a class's loop ends. -/
def GEnd (w : World) (g : Nat) (s : ByteArray) (res : R S30) (neg : Bool) (acc : List S98) : Prop :=
  (∃ r, GAt w g s r ∧ res = .ok (setN neg acc) r) ∨ (∃ c k, GBad w g s c k ∧ res = .err c k)
/-- How it stands at a round's head: it reads on, or it has failed. -/
def GMid (w : World) (g : Nat) (s : ByteArray) (res : R S30) (neg : Bool) (acc : List S98) (m n : Nat) : Prop :=
  (∃ r, GAt w g s r ∧ res = ((clsG n acc r).bind fun rs r1 => .ok (setN neg rs) r1) ∧ r.length < n ∧ acc.length + r.length ≤ m) ∨ (∃ c k, GBad w g s c k ∧ res = .err c k ∧ acc.length ≤ m ∧ 0 < n)
theorem fit_snoc {acc : List S98} {lo hi : Int} (h : Fit acc) (h2 : 0 ≤ lo ∧ lo < 256) (h3 : 0 ≤ hi ∧ hi < 256) (hl : acc.length < 1000) : Fit (acc ++ [⟨lo, hi⟩]) := by
  refine ⟨?_, by simp only [List.length_append, List.length_cons, List.length_nil]; omega⟩
  intro x hx
  rcases List.mem_append.mp hx with hx | hx
  · exact h.1 x hx
  · obtain rfl := List.mem_singleton.mp hx
    exact ⟨h2.1, h2.2, h3.1, h3.2⟩
theorem itemG_rng {xs r : List Int} {v : Int × Bool} (hx : ∀ x, x ∈ xs → 0 ≤ x ∧ x < 256) (h : itemG xs = .ok v r) : 0 ≤ v.1 ∧ v.1 < 256 := by
  cases xs with
  | nil => cases h
  | cons c xs =>
    rw [itemG] at h
    split at h
    · cases xs with
      | nil => cases h
      | cons d xs => injection h with h1 h2; subst h1; exact hx d (by simp)
    · injection h with h1 h2; subst h1; exact hx c (by simp)
theorem pre1 (t : ByteArray) (b : Bool) (h : decide ((bI t).head? = some 45) = b) (w : World) : Calls Try.prog 52 #[.string t, .string ⟨#[45]⟩] w fun e w' => e = .returned (.bool b) ∧ ∃ q, w' = w.drewN q := by
  have e : decide (bI ⟨#[45]⟩ <+: bI t) = b := by
    rw [← h, Bool.eq_iff_iff, decide_eq_true_eq, decide_eq_true_eq]
    have e : bI ⟨#[45]⟩ = [45] := rfl
    rw [e]
    cases bI t with
    | nil => simp
    | cons c l => simp [List.cons_prefix_cons, eq_comm]
  rw [← e]; exact prefix2_any t _ w
theorem pre2 (t : ByteArray) (b : Bool) (h : decide ([45, 93] <+: bI t) = b) (w : World) : Calls Try.prog 52 #[.string t, .string ⟨#[45, 93]⟩] w fun e w' => e = .returned (.bool b) ∧ ∃ q, w' = w.drewN q := by
  rw [← h]; exact prefix2_any t _ w
set_option maxHeartbeats 8000000 in
set_option maxRecDepth 100000 in
theorem gclass_any {w : World} {g : Nat} {s : ByteArray} {r0 : List Int} (h : GAt w g s r0) : Calls Try.prog 29 #[.pointer (some ⟨g, 0, none⟩)] w (CRes w g s (classG r0)) := by
  rw [classG_eq]
  have HA0 := Lib.hid (h.moved (o := .cells #[.int .i64 0, .slice none 0 0, .slice none 0 0] 30))
  have hgl := h.lt
  have HGL := Lib.hid hgl
  obtain ⟨neg, hneg⟩ : ∃ b, b = isB 33 r0 := ⟨_, rfl⟩
  obtain ⟨ys, hys⟩ : ∃ b, b = isT 33 r0 := ⟨_, rfl⟩
  rw [← hneg, ← hys]
  obtain ⟨res, hres⟩ : ∃ q, q = (clsG (ys.length + 1) [] ys).bind fun rs r1 => .ok (setN neg rs) r1 := ⟨_, rfl⟩
  rw [← hres]
  have HRES := Lib.hid hres
  have HNEG := Lib.hid hneg
  have HYS := Lib.hid hys
  clear hneg hys h hgl hres
  go_enter Try.func29, Try.ntmps29
  go_upto_region 1 with fail
  go_cut [3] (fun s3 wc => s3 = .bool neg ∧ ∃ n, wc = (w.alloc (.cells #[.int .i64 0, .slice none 0 0, .slice none 0 0] 30)).drewN n)
  case first =>
    cases r0 with
    | nil =>
      obtain rfl : neg = false := HNEG.out
      obtain ⟨i, f0, f1, f2, f3, h1, h2, h3⟩ := HA0.out.facts
      go_quiet (first | (go_at_call 25; refine Calls.quiet_of (gover_at (HA0.out.drewN _))))
      go_wp2
      go_meet
      exact ⟨rfl, _, rfl⟩
    | cons c r0 =>
      obtain ⟨i, f0, f1, f2, f3, h1, h2, h3, f4, h5, h6, h7⟩ := HA0.out.char
      clear h5
      by_cases hc : c = 33
      · subst hc
        obtain rfl : neg = true := HNEG.out
        go_quiet (first | (go_at_call 25; refine Calls.quiet_of (gover_at (HA0.out.drewN _))))
        go_wp2
        go_meet
        exact ⟨rfl, _, rfl⟩
      · obtain rfl : neg = false := by rw [HNEG.out]; simp [isB, hc]
        have g0 : (c == 33) = false := by simpa using hc
        clear hc
        go_quiet (first | (go_at_call 25; refine Calls.quiet_of (gover_at (HA0.out.drewN _))))
        go_wp2
        go_meet
        exact ⟨rfl, _, rfl⟩
  case rest =>
    obtain ⟨rfl, n0, rfl⟩ := hcut
    have HA1 := Lib.hid (HA0.out.drewN n0)
    have HK1 := Lib.hid (keep_drewN (KeepBut.refl (w.alloc (.cells #[.int .i64 0, .slice none 0 0, .slice none 0 0] 30)) g none) n0)
    clear HA0
    go_upto_if 25 with fail
    go_cut [3] (fun s3 wc => s3 = .bool neg ∧ Hid (GAt wc g s ys) ∧ Hid (KeepBut (w.alloc (.cells #[.int .i64 0, .slice none 0 0, .slice none 0 0] 30)) wc g none))
    case first =>
      cases neg with
      | false =>
        have e : ys = r0 := by rw [HYS.out, isT_no HNEG.out.symm]
        go_wp2
        go_meet
        exact ⟨rfl, by rw [e]; exact HA1, HK1⟩
      | true =>
        have e : ys = r0.tail := by rw [HYS.out, isT_yes HNEG.out.symm]
        cases r0 with
        | nil => have := HNEG.out; cases this
        | cons c r0 =>
          have e2 : ys = r0 := e
          have HE := Lib.hid e2
          clear e e2
          obtain ⟨i, f0, f1, f2, f3, h1, h2, h3, f4, h5, h6, h7⟩ := HA1.out.char
          have H5 := Lib.hid h5
          clear h5 f4
          go_wp2
          go_meet
          exact ⟨rfl, by rw [HE.out]; exact H5, Lib.hid (HK1.out.set_ 1 _)⟩
    case rest =>
      obtain ⟨rfl, HA2, HK2⟩ := hcut
      have hsm : ys.length ≤ 256 := by obtain ⟨i, _, _, _, _, h1, h2, h3⟩ := HA2.out.facts; omega
      have HSM := Lib.hid hsm
      clear hsm HA1 HK1 HNEG HYS
      go_upto_block 0 with fail
      go_cut [4] (fun s4 wc => ∃ acc A n c, s4 = .slice A n c ∧ Hid (Kd.R k98 98 wc (w.heap.size + 1) (fun _ => True) (.slice A n c) acc) ∧ Hid (KeepBut (w.alloc (.cells #[.int .i64 0, .slice none 0 0, .slice none 0 0] 30)) wc g none) ∧ Hid (Fit acc ∧ GEnd wc g s res neg acc))
      case first =>
        go_wp2_with fail
        go_loopg [4, 5] (ys.length + 1) (fun kq v4 v5 wr => ∃ acc A n c, v4 = .slice A n c ∧ v5 = .bool acc.isEmpty ∧ Hid (Kd.R k98 98 wr (w.heap.size + 1) (fun _ => True) (.slice A n c) acc) ∧ Hid (KeepBut (w.alloc (.cells #[.int .i64 0, .slice none 0 0, .slice none 0 0] 30)) wr g none) ∧ Hid (Fit acc ∧ GMid wr g s res neg acc ys.length kq))
        case atStart => exact ⟨[], none, 0, 0, rfl, rfl, Lib.hid (Kd.R_nil _ _ _ _ _), HK2, Lib.hid ⟨⟨(fun x hx => by cases hx), by simp⟩, .inl ⟨ys, HA2.out, HRES.out, by omega, by simp⟩⟩⟩
        case round =>
          obtain ⟨acc, A, n, c, rfl, rfl, HR, HK, HF⟩ := hrel
          have hlt1 : w.heap.size < (w.alloc (.cells #[.int .i64 0, .slice none 0 0, .slice none 0 0] 30)).heap.size := by rw [al_size]; exact Nat.lt_succ_self _
          have HFIT : Hid (Fit acc) := Lib.hid HF.out.1
          rcases HF.out.2 with ⟨r, ha, he, hl, hn⟩ | ⟨ce, ke, hb, he, hn, hp⟩
          · have HA := Lib.hid ha
            have HE := Lib.hid he
            have HL := Lib.hid hl
            have HN := Lib.hid hn
            obtain ⟨i, f0, f1, f2, f3, h1, h2, h3⟩ := HA.out.facts
            have H2 := Lib.hid h2
            have HB := Lib.hid (byte_any HA.out)
            have HSTEP : Hid (res = (clsG (gk - 1 + 1) acc r).bind fun rs r1 => .ok (setN neg rs) r1) := Lib.hid (by rw [HE.out]; cases gk with | zero => have := HL.out; omega | succ gk => rfl)
            clear ha he hl hn h2 HF
            cases hq : itemG r with
            | err ce ke =>
              rw [hq] at HB
              have HEQ : Hid (res = .err ce ke) := Lib.hid (by rw [HSTEP.out, clsG, hq]; rfl)
              clear hq
              go_wp2_with (first | (go_at_call 26; refine HB.out.mono ?_; rintro e w5 ⟨b5, rfl, hk, ha⟩; (obtain ⟨p0, p1, p2, p3, p4, p5⟩ := ha.facts; have pne : (ce != 0) = true := bne_iff_ne.mpr ha.ne; have HK5 := Lib.hid hk; have HA5 := Lib.hid ha; clear hk ha)))
              go_meet
              exact ⟨acc, A, n, c, rfl, Lib.hid (R_kept HR.out HK5.out (by have := HGL.out; omega)), Lib.hid (HK.out.trans HK5.out (.inl rfl)), Lib.hid ⟨HFIT.out, .inr ⟨ce, ke, HA5.out, HEQ.out⟩⟩⟩
            | ok q r1 =>
              obtain ⟨lo, qd⟩ := q
              have HLO := Lib.hid (itemG_rng HA.out.rng hq)
              have HSH := Lib.hid (itemG_shrinks hq)
              have HST1 : Hid (res = ((if acc ≠ [] ∧ (lo, qd) = (93, false) then R.ok acc r1 else ((if dash r1 then itemG r1.tail else .ok (lo, qd) r1) : R (Int × Bool)).bind fun p r2 => if p.1 < lo then .err 32 r.length else clsG (gk - 1) (acc ++ [⟨lo, p.1⟩]) r2).bind fun rs r1 => .ok (setN neg rs) r1)) := Lib.hid (by rw [HSTEP.out, clsG, hq]; rfl)
              rw [hq] at HB
              clear hq HSTEP HE
              go_upto_region 9 with (first | (go_at_call 26; refine HB.out.mono ?_; rintro e w5 ⟨rfl, hk, ha⟩; (obtain ⟨i5, p0, p1, p2, p3, p4, p5, p6⟩ := ha.facts; have HK5 := Lib.hid hk; have HA5 := Lib.hid ha; clear hk ha p4 p5 p6)))
              go_cut [58] from 33 to 126 (fun s58 wc => ∃ tb : Bool, s58 = .bool tb ∧ Hid (tb = decide (acc ≠ [] ∧ (lo, qd) = (93, false))) ∧ w5 = wc)
              case first =>
                by_cases hlo : lo = 93
                · subst hlo
                  cases qd with
                  | true =>
                    go_wp2
                    go_meet
                    exact ⟨_, rfl, Lib.hid (by simp), rfl⟩
                  | false =>
                    cases acc with
                    | nil =>
                      go_wp2
                      go_meet
                      exact ⟨_, rfl, Lib.hid (by simp), rfl⟩
                    | cons x acc =>
                      go_wp2
                      go_meet
                      exact ⟨_, rfl, Lib.hid (by simp), rfl⟩
                · have g0 : (lo == 93) = false := by simpa using hlo
                  have HNE := Lib.hid hlo
                  clear hlo
                  go_wp2
                  go_meet
                  exact ⟨_, rfl, Lib.hid (by have := HNE.out; simp [this]), rfl⟩
              case rest =>
                obtain ⟨tb, rfl, HTB, rfl⟩ := hcut
                cases tb with
                | true =>
                  have hcl := of_decide_eq_true HTB.out.symm
                  have HEQ : Hid (res = .ok (setN neg acc) r1) := Lib.hid (by rw [HST1.out, if_pos hcl]; rfl)
                  clear hcl
                  go_wp2
                  go_meet
                  exact ⟨acc, A, n, c, rfl, Lib.hid (R_kept HR.out HK5.out (by have := HGL.out; omega)), Lib.hid (HK.out.trans HK5.out (.inl rfl)), Lib.hid ⟨HFIT.out, .inl ⟨r1, HA5.out, HEQ.out⟩⟩⟩
                | false =>
                  have hcl := of_decide_eq_false HTB.out.symm
                  have HST2 : Hid (res = (((if dash r1 then itemG r1.tail else .ok (lo, qd) r1) : R (Int × Bool)).bind fun p r2 => if p.1 < lo then .err 32 r.length else clsG (gk - 1) (acc ++ [⟨lo, p.1⟩]) r2).bind fun rs r1 => .ok (setN neg rs) r1) := Lib.hid (by rw [HST1.out, if_neg hcl])
                  clear hcl HST1 HTB p0 p1 p2 p3 f0 f1 f2 f3
                  go_upto_region 11 with fail
                  go_cut [95] from 33 to 126 (fun s95 wc => ∃ tb : Bool, s95 = .bool tb ∧ Hid (tb = dash r1) ∧ ∃ n, wc = w5.drewN n)
                  case first =>
                    as_aux_lemma =>
                      cases r1 with
                      | nil =>
                        obtain ⟨i5, t5, f0, f1, f2, h15, h25, h35, f4, ht⟩ := HA5.out.tail_text
                        have HP := Lib.hid (fun W => pre1 t5 false (by rw [ht]; rfl) W)
                        clear ht
                        go_quiet (first | (go_at_call 52; refine Calls.quiet_of (HP.out _)))
                        go_wp2
                        go_meet
                        exact ⟨_, rfl, Lib.hid rfl, _, rfl⟩
                      | cons c1 r1 =>
                        by_cases hc1 : c1 = 45
                        · subst hc1
                          cases r1 with
                          | nil =>
                            obtain ⟨i5, t5, f0, f1, f2, h15, h25, h35, f4, ht⟩ := HA5.out.tail_text
                            have HP := Lib.hid (fun W => pre1 t5 true (by rw [ht]; rfl) W)
                            have HP2 := Lib.hid (fun W => pre2 t5 false (by rw [ht]; decide) W)
                            have g5 : decide (i5 + 1 < (s.size : Int)) = false := by simp only [List.length_cons, List.length_nil] at h25; simp; omega
                            clear ht
                            go_quiet (first | (go_at_call 52; first | (with_reducible refine Calls.quiet_of (HP.out _)) | (with_reducible refine Calls.quiet_of (HP2.out _))))
                            go_wp2
                            go_meet
                            exact ⟨_, rfl, Lib.hid rfl, _, rfl⟩
                          | cons d1 r1 =>
                            obtain ⟨i5, t5, f0, f1, f2, h15, h25, h35, f4, ht⟩ := HA5.out.tail_text
                            have HP := Lib.hid (fun W => pre1 t5 true (by rw [ht]; rfl) W)
                            have g5 : decide (i5 + 1 < (s.size : Int)) = true := by simp only [List.length_cons] at h25; simp; omega
                            by_cases hd : d1 = 93
                            · subst hd
                              have HP2 := Lib.hid (fun W => pre2 t5 true (by rw [ht]; simp) W)
                              clear ht
                              go_quiet (first | (go_at_call 52; first | (with_reducible refine Calls.quiet_of (HP.out _)) | (with_reducible refine Calls.quiet_of (HP2.out _))))
                              go_wp2
                              go_meet
                              exact ⟨_, rfl, Lib.hid rfl, _, rfl⟩
                            · have HP2 := Lib.hid (fun W => pre2 t5 false (by rw [ht]; simpa [eq_comm] using hd) W)
                              have HD : Hid (true = dash (45 :: d1 :: r1)) := Lib.hid (by rw [dash, Bool.eq_iff_iff]; simpa using hd)
                              clear ht hd
                              go_quiet (first | (go_at_call 52; first | (with_reducible refine Calls.quiet_of (HP.out _)) | (with_reducible refine Calls.quiet_of (HP2.out _))))
                              go_wp2
                              go_meet
                              exact ⟨_, rfl, HD, _, rfl⟩
                        · obtain ⟨i5, t5, f0, f1, f2, h15, h25, h35, f4, ht⟩ := HA5.out.tail_text
                          have HP := Lib.hid (fun W => pre1 t5 false (by rw [ht]; simpa using hc1) W)
                          have HD : Hid (false = dash (c1 :: r1)) := Lib.hid (dash_no hc1).symm
                          clear ht hc1
                          go_quiet (first | (go_at_call 52; refine Calls.quiet_of (HP.out _)))
                          go_wp2
                          go_meet
                          exact ⟨_, rfl, HD, _, rfl⟩
                  case rest =>
                    obtain ⟨tb2, rfl, HTB2, n2, rfl⟩ := hcut
                    have HA6 := Lib.hid (HA5.out.drewN n2)
                    have HK6 := Lib.hid (keep_drewN HK5.out n2)
                    clear HA5 HK5
                    go_upto_if 95 with fail
                    go_cut [9] from 33 to 126 (fun s9 wd => Hid (KeepBut wr wd g none) ∧ ∃ hi, s9 = .int .u8 hi ∧ Hid (0 ≤ hi ∧ hi < 256) ∧ ((∃ r2 qh, Hid (((if dash r1 then itemG r1.tail else .ok (lo, qd) r1) : R (Int × Bool)) = .ok (hi, qh) r2) ∧ Hid (GAt wd g s r2) ∧ Hid (r2.length < r.length)) ∨ (∃ ce ke, Hid (res = .err ce ke ∧ 2 ≤ gk) ∧ Hid (GBad wd g s ce ke))))
                    case first =>
                      as_aux_lemma =>
                        cases tb2 with
                        | false =>
                          go_wp2
                          go_meet
                          exact ⟨HK6, lo, rfl, HLO, .inl ⟨r1, qd, Lib.hid (by rw [← HTB2.out]; rfl), HA6, HSH⟩⟩
                        | true =>
                          cases r1 with
                          | nil => have := HTB2.out; cases this
                          | cons c1 r1 =>
                            obtain ⟨i5, f0, f1, f2, f3, h15, h25, h35, f4, h5, h6, h7⟩ := HA6.out.char
                            have HA7 := Lib.hid h5
                            have HIT2 := Lib.hid (byte_any h5)
                            clear h5 f4
                            cases hq2 : itemG r1 with
                            | err ce ke =>
                              rw [hq2] at HIT2
                              have HEQ : Hid (res = .err ce ke ∧ 2 ≤ gk) := Lib.hid ⟨by rw [HST2.out, ← HTB2.out, if_pos rfl]; show (((itemG r1).bind _).bind _) = _; rw [hq2]; rfl, by have := HL.out; have := HSH.out; simp only [List.length_cons] at this; omega⟩
                              clear hq2
                              go_wp2_with (first | (go_at_call 26; refine HIT2.out.mono ?_; rintro e w8 ⟨b8, rfl, hk, ha⟩; (have HK8 := Lib.hid hk; have HA8 := Lib.hid ha; clear hk ha)))
                              go_meet
                              exact ⟨Lib.hid ((HK6.out.set_ 1 _).trans HK8.out (.inl rfl)), 0, rfl, Lib.hid (by omega), .inr ⟨ce, ke, HEQ, HA8⟩⟩
                            | ok q2 r2 =>
                              obtain ⟨hi, qh⟩ := q2
                              have HHI := Lib.hid (itemG_rng HA7.out.rng hq2)
                              have HSH2 := Lib.hid (itemG_shrinks hq2)
                              rw [hq2] at HIT2
                              have HQ2 := Lib.hid hq2
                              clear hq2
                              go_wp2_with (first | (go_at_call 26; refine HIT2.out.mono ?_; rintro e w8 ⟨rfl, hk, ha⟩; (have HK8 := Lib.hid hk; have HA8 := Lib.hid ha; clear hk ha)))
                              go_meet
                              exact ⟨Lib.hid ((HK6.out.set_ 1 _).trans HK8.out (.inl rfl)), hi, rfl, HHI, .inl ⟨r2, qh, Lib.hid (by rw [← HTB2.out, if_pos rfl]; exact HQ2.out), HA8, Lib.hid (by have := HSH.out; have := HSH2.out; simp only [List.length_cons] at *; omega)⟩⟩
                    case rest =>
                      obtain ⟨HK8, hi, rfl, HH8, hcases⟩ := hcut
                      have HR8 := Lib.hid (R_kept HR.out HK8.out (by have := HGL.out; omega))
                      have HLN : Hid ((acc.length + 1) * 2 ≤ 140737488355328) := Lib.hid (by have := HN.out; have := HSM.out; omega)
                      have HWC : Hid (w.heap.size + 1 ≤ wc.heap.size) := Lib.hid (by have h := (HK.out.trans HK8.out (.inl rfl)).1; rw [al_size] at h; exact h)
                      rcases hcases with ⟨r2, qh, HQ2, HA8, HS8⟩ | ⟨ce, ke, HEB, HB8⟩
                      · have HST3 : Hid (res = (if hi < lo then R.err 32 r.length else clsG (gk - 1) (acc ++ [⟨lo, hi⟩]) r2).bind fun rs r1 => .ok (setN neg rs) r1) := Lib.hid (by rw [HST2.out, HQ2.out]; rfl)
                        obtain ⟨i8, f0, f1, f2, f3, h18, h28, h38⟩ := HA8.out.facts
                        clear h18 h28 h38 HST2 HQ2
                        by_cases hlt : hi < lo
                        · have g7 : decide (hi < lo) = true := by simpa using hlt
                          have HEQ : Hid (res = .err 32 r.length) := Lib.hid (by rw [HST3.out, if_pos hlt]; rfl)
                          have HFA := Lib.hid (gfail_any HA8.out (c := 32) (p := i) (k := r.length) (by decide) (by have := H2.out; omega))
                          clear hlt
                          go_wp2_with (first | (go_at_call 53; refine HFA.out.mono ?_; rintro e w9 ⟨rfl, hk, ha⟩; (have HK9 := Lib.hid (HK8.out.trans hk (.inl rfl)); have HB9 := Lib.hid ha; clear hk ha)))
                          go_meet
                          exact ⟨acc, A, n, c, rfl, Lib.hid (R_kept HR.out HK9.out (by have := HGL.out; omega)), Lib.hid (HK.out.trans HK9.out (.inl rfl)), Lib.hid ⟨HFIT.out, .inr ⟨_, _, HB9.out, HEQ.out⟩⟩⟩
                        · have g7 : decide (hi < lo) = false := by simpa using hlt
                          have HEQ : Hid (res = (clsG (gk - 1) (acc ++ [⟨lo, hi⟩]) r2).bind fun rs r1 => .ok (setN neg rs) r1) := Lib.hid (by rw [HST3.out, if_neg hlt])
                          clear hlt
                          go_wp2_with (first | ((with_reducible refine gate_builtin (b := .append) (xs := #[.tmp 121, .tmp 125]) rfl ?_); at_builtin; go_loud (refine Kd.R_append k98 (w0 := wc) (w.heap.size + 1) rfl (.tmp 121) (.tmp 125) 27 98 _ 2 rfl Try.underlying27 info98 rfl (by decide) (by omega) (.slice A n c) acc ⟨lo, hi⟩ [.int .u8 lo, .int .u8 hi] (fun _ => True) (fun _ => False) rfl rfl ?aP (fun _ hk => hk.elim) ?aF ?aO ?aB ?aS ?aL ?_; (case aP => exact k98_mkM _ _ _ ⟨lo, hi⟩); (case aF => exact fun _ _ => trivial); (case aO => exact HR8.out); (case aB => exact Below.refl _ _); (case aS => exact HWC.out); (case aL => exact HLN.out); intro v9 w9 hr9 hb9 hg9 _; (obtain ⟨A3, n3, c3, rfl⟩ : ∃ A n c, v9 = .slice A n c := by obtain ⟨A, c, e⟩ := Kd.R_slice hr9; exact ⟨A, _, c, e⟩); have HR9 := Lib.hid hr9; have HB9 := Lib.hid hb9; have HG9 := Lib.hid hg9.size; clear hr9 hb9 hg9)))
                          go_roundg (gk - 1)
                          case measure => have := HL.out; omega
                          case rel => exact ⟨acc ++ [⟨lo, hi⟩], A3, n3, c3, rfl, by simp, HR9, Lib.hid (keep_belowB (HK.out.trans HK8.out (.inl rfl)) (by rw [al_size]; exact HB9.out) HG9.out), Lib.hid ⟨fit_snoc HFIT.out HLO.out HH8.out (by have := HN.out; have := HSM.out; omega), .inl ⟨r2, HA8.out.belowB HB9.out (by have := HGL.out; omega), HEQ.out, by have := HL.out; have := HS8.out; omega, by have := HN.out; have := HS8.out; simp only [List.length_append, List.length_cons, List.length_nil]; omega⟩⟩⟩
                      · obtain ⟨f0, f1, f2, f3, f4, f5⟩ := HB8.out.facts
                        have pne : (ce == 0) = false := beq_eq_false_iff_ne.mpr HB8.out.ne
                        clear f5
                        go_wp2_with (first | ((with_reducible refine gate_builtin (b := .append) (xs := #[.tmp 121, .tmp 125]) rfl ?_); at_builtin; go_loud (refine Kd.R_append k98 (w0 := wc) (w.heap.size + 1) rfl (.tmp 121) (.tmp 125) 27 98 _ 2 rfl Try.underlying27 info98 rfl (by decide) (by omega) (.slice A n c) acc ⟨lo, hi⟩ [.int .u8 lo, .int .u8 hi] (fun _ => True) (fun _ => False) rfl rfl ?aP (fun _ hk => hk.elim) ?aF ?aO ?aB ?aS ?aL ?_; (case aP => exact k98_mkM _ _ _ ⟨lo, hi⟩); (case aF => exact fun _ _ => trivial); (case aO => exact HR8.out); (case aB => exact Below.refl _ _); (case aS => exact HWC.out); (case aL => exact HLN.out); intro v9 w9 hr9 hb9 hg9 _; (obtain ⟨A3, n3, c3, rfl⟩ : ∃ A n c, v9 = .slice A n c := by obtain ⟨A, c, e⟩ := Kd.R_slice hr9; exact ⟨A, _, c, e⟩); have HR9 := Lib.hid hr9; have HB9 := Lib.hid hb9; have HG9 := Lib.hid hg9.size; clear hr9 hb9 hg9)))
                        go_roundg (gk - 1)
                        case measure => have := HL.out; omega
                        case rel => exact ⟨acc ++ [⟨lo, hi⟩], A3, n3, c3, rfl, by simp, HR9, Lib.hid (keep_belowB (HK.out.trans HK8.out (.inl rfl)) (by rw [al_size]; exact HB9.out) HG9.out), Lib.hid ⟨fit_snoc HFIT.out HLO.out HH8.out (by have := HN.out; have := HSM.out; omega), .inr ⟨ce, ke, HB8.out.belowB HB9.out (by have := HGL.out; omega), HEB.out.1, by have := HN.out; have := HSH.out; simp only [List.length_append, List.length_cons, List.length_nil]; omega, by have := HEB.out.2; omega⟩⟩⟩
          · have HB := Lib.hid hb
            have HE := Lib.hid he
            have HBY := Lib.hid (byte_bad hb)
            obtain ⟨f0, f1, f2, f3, f4, f5⟩ := HB.out.facts
            have pne : (ce != 0) = true := bne_iff_ne.mpr HB.out.ne
            clear hb he hn hp f5 HF
            go_wp2_with (first | (go_at_call 26; refine HBY.out.mono ?_; rintro e w5 ⟨rfl, hk, ha⟩; (obtain ⟨p0, p1, p2, p3, p4, p5⟩ := ha.facts; have HK5 := Lib.hid hk; have HA5 := Lib.hid ha; clear hk ha p5)))
            go_meet
            exact ⟨acc, A, n, c, rfl, Lib.hid (R_kept HR.out HK5.out (by have := HGL.out; omega)), Lib.hid (HK.out.trans HK5.out (.inl rfl)), Lib.hid ⟨HFIT.out, .inr ⟨ce, ke, HA5.out, HE.out⟩⟩⟩
      case rest =>
        obtain ⟨acc, A, n, c, rfl, HR, HK, HF⟩ := hcut
        have hlt1 : w.heap.size < (w.alloc (.cells #[.int .i64 0, .slice none 0 0, .slice none 0 0] 30)).heap.size := by rw [al_size]; exact Nat.lt_succ_self _
        obtain ⟨rfl, hl, hC⟩ := Kd.R_reads' HR.out
        have HS := Lib.hid (ranges_any neg hl hC HF.out.1)
        have hgb : (w.alloc (.cells #[.int .i64 0, .slice none 0 0, .slice none 0 0] 30)).heap[w.heap.size]? = some (.cells #[.int .i64 0, .slice none 0 0, .slice none 0 0] 30 (0, 0)) := blk_new w _
        have HGB := Lib.hid (blk_kept_ hgb HK.out (by have := HGL.out; omega))
        clear hl hC hgb
        go_wp2_with (first | (go_at_call 54; refine HS.out.mono ?_; rintro e w5 ⟨v, rfl, hr, hb⟩; (obtain ⟨A1, n1, c1, rfl⟩ : ∃ A n c, v = .slice A n c := by obtain ⟨A, c, e⟩ := Kd.R_slice hr; exact ⟨A, _, c, e⟩); have h1 := blk_below HGB.out hb; have f0 := blk_cell h1 0; have f1 := blk_cell h1 1; have f2 := blk_cell h1 2; have f3 := blk_frozen h1 0; have f4 := blk_frozen h1 1; have f5 := blk_frozen h1 2; (simp only [List.getElem?_toArray, List.getElem?_cons_zero, List.getElem?_cons_succ] at f0 f1 f2); have H1 := Lib.hid h1; have HR1 := Lib.hid hr; have HB1 := Lib.hid hb; clear h1 hr hb))
        have hg := store3 H1.out (.int .i64 1) (.slice A1 n1 c1) (.slice none 0 0)
        have hlt2 := Nat.lt_of_lt_of_le hlt1 HK.out.1
        have HT : Tree (((w5.setCell ⟨w.heap.size, 0, none⟩ (.int .i64 1)).setCell ⟨w.heap.size, 1, none⟩ (.slice A1 n1 c1)).setCell ⟨w.heap.size, 2, none⟩ (.slice none 0 0)) w.heap.size (.agg #[.int .i64 1, .slice A1 n1 c1, .slice none 0 0]) (setN neg acc) := ⟨A1, n1, c1, none, 0, 0, rfl, far3 HR1.out hlt2 (Nat.le_of_lt hlt2), Kd.R_nil _ _ _ _ _⟩
        have HKW := keep_far3 (u0 := .int .i64 1) (u1 := .slice A1 n1 c1) (u2 := .slice none 0 0) (keep_below (sub_keep HK.out HGL.out) HB1.out) (Nat.le_refl w.heap.size)
        refine bodyPost_ret (results_cell_row (p := 2) rfl _ _ w.heap.size 30 _ (0, 0) _ rfl hg Try.underlying30 rfl size30) rfl ?_
        rcases HF.out.2 with ⟨r, ha, he⟩ | ⟨ce, ke, hb, he⟩
        · rw [he]
          exact ⟨_, rfl, HT, HKW, (ha.below HB1.out).far3 (Nat.ne_of_lt HGL.out)⟩
        · rw [he]
          exact ⟨_, _, rfl, HT, HKW, (hb.below HB1.out).far3 (Nat.ne_of_lt HGL.out)⟩
end Go.Proofs.Ytdgidcfmggmbiaa.Rx
