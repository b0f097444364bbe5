/- PatExact, walked. -/
import Derived.Test.YtdgidcfmggmbiaaMt
namespace Go.Proofs.Ytdgidcfmggmbiaa.Qp
set_option linter.unusedVariables false
set_option linter.unusedSimpArgs false
open Go.RowKit Go.Proofs.Ytdgidcfmggmbiaa.Mem Go.Proofs.Ytdgidcfmggmbiaa.Re Go.Proofs.Ytdgidcfmggmbiaa.Nm Go.Proofs.Ytdgidcfmggmbiaa.Tree Go.Proofs.Ytdgidcfmggmbiaa.PRx Go.Proofs.Ytdgidcfmggmbiaa.Rx Go.Proofs.YtdgidcfmggmbiaaW.PrintWords

theorem conv_reads {w : World} {A : Option Addr} {n : Nat} {x : ByteArray} (c : Nat) (h : ReadsInt w .u8 A n (bI x)) : (convert 38 9 (.slice A n c)).run Try.prog w = .ok (.string x) w := by
  have hn : x.size = n := by rw [← bI_len]; exact h.1
  subst hn
  by_cases h0 : x.size = 0
  · have e : x = ⟨#[]⟩ := by cases x with | mk d => congr 1; exact Array.eq_empty_of_size_eq_zero h0
    subst e
    cases A with
    | none => exact run_convert_bytes_nil w 38 5 Try.underlying38 Try.underlying5 _ c 9 Try.underlying9
    | some a =>
      have hl : (loadCells a (ByteArray.size ⟨#[]⟩)).run Try.prog w = .ok ((([] : List Int).map (Value.int .u8)).toArray) w := rfl
      rw [run_convert_bytes_string w 38 9 5 (some a) _ c Try.underlying38 Try.underlying5 Try.underlying9, run_bytesToString w a _ c [] hl]
      rfl
  · obtain ⟨a, rfl, hc⟩ := h.2.2 (by omega)
    have hsp : a.spot = none := by
      have h1 := hc 0 (by omega)
      obtain ⟨b, o, sp⟩ := a
      cases sp with
      | none => rfl
      | some y => simp [World.cell?, Addr.add] at h1; split at h1 <;> simp_all
    obtain ⟨b, o, sp⟩ := a
    obtain rfl : sp = none := hsp
    rw [run_convert_bytes_arg w 38 5 Try.underlying38 Try.underlying5 b o x.size c (bI x) (bI_len x) (fun i hi => by rw [← add_plain]; exact hc i hi) 9 Try.underlying9, str_bI]
set_option maxHeartbeats 4000000 in
set_option maxRecDepth 100000 in
theorem exact_walk (text sb : ByteArray) (vb : Value) (w : World) (m : Int) (hm : w.cell? ⟨0, 0, none⟩ = some (.int .i64 m)) (ht : text.size ≤ maxLen) (hb : BufAt w vb sb) (hsb : sb.size ≤ 140737488355328) :
    Calls Try.prog 5 #[.string text, vb] w fun e w' => e = .returned (.bool true) ∧ Below w.heap.size w w' := by
  obtain ⟨A, c, rfl, hc⟩ := hb.form
  have h0 := World.block_lt_of_cell? w _ hm
  have HM : Hid (∀ W, Below w.heap.size w W → W.cell? ⟨0, 0, none⟩ = some (.int .i64 m)) := Lib.hid fun W hW => (hW.cell (p := ⟨0, 0, none⟩) h0).trans hm
  have HAL := Lib.hid (alive_any w m hm)
  have HVB := Lib.hid hb
  have HC := Lib.hid hc
  have hsb' : (sb.size : Int) ≤ 140737488355328 := by omega
  unfold maxLen at ht
  have ht' : (text.size : Int) ≤ 9223372036854775807 := by omega
  clear hm h0 hb ht hc
  by_cases hl : 50 < text.size ∨ 300 < sb.size
  · by_cases hl1 : 50 < text.size
    · have g0 : decide ((50 : Int) < (text.size : Int)) = true := by simp; omega
      clear hl hl1
      go_enter Try.func5, Try.ntmps5
      go_wp2_with (first | (go_at_call 7; refine HAL.out.mono ?_; rintro e w1 ⟨rfl, hb⟩; have HB1 := Lib.hid hb; clear hb))
      go_ret
      exact ⟨rfl, HB1.out⟩
    · have g0 : decide ((50 : Int) < (text.size : Int)) = false := by simp; omega
      have g1 : decide ((300 : Int) < (sb.size : Int)) = true := by simp; omega
      clear hl hl1
      go_enter Try.func5, Try.ntmps5
      go_wp2_with (first | (go_at_call 7; refine HAL.out.mono ?_; rintro e w1 ⟨rfl, hb⟩; have HB1 := Lib.hid hb; clear hb))
      go_ret
      exact ⟨rfl, HB1.out⟩
  · have g0 : decide ((50 : Int) < (text.size : Int)) = false := by simp; omega
    have g1 : decide ((300 : Int) < (sb.size : Int)) = false := by simp; omega
    have HL : Hid (text.size ≤ 50 ∧ sb.size ≤ 300) := Lib.hid (by omega)
    clear hl
    go_enter Try.func5, Try.ntmps5
    go_wp2_with (first | (go_at_call 7; refine HAL.out.mono ?_; rintro e w1 ⟨rfl, hb⟩; have HB1 := Lib.hid hb; clear hb))
    go_loopg [5, 6, 7] (text.size + 1) (fun kq v5 v6 v7 wr => ∃ (k : Nat) (q g : ByteArray), k ≤ text.size ∧ v7 = .int .i64 k ∧ v5 = .string q ∧ v6 = .string g ∧ Hid (bI q = ((bI text).take k).flatMap fun c => [92, c]) ∧ Hid (bI g = ((bI text).take k).flatMap sgn) ∧ Hid (kq = text.size + 1 - k) ∧ Hid (Below w.heap.size w wr))
    case atStart => exact ⟨0, _, _, Nat.zero_le _, rfl, rfl, rfl, Lib.hid rfl, Lib.hid rfl, Lib.hid rfl, HB1⟩
    case round =>
      obtain ⟨k, q, g, hk, rfl, rfl, rfl, HQ, HG, HKQ, HW⟩ := hrel
      by_cases hlt : k < text.size
      · obtain ⟨c0, hc0, hc1, hd, htk, hix⟩ := text_at text k hlt
        have HTK := Lib.hid htk
        have HCR : Hid (0 ≤ c0 ∧ c0 < 256) := Lib.hid ⟨hc0, hc1⟩
        have hqs : q.size ≤ 100 ∧ g.size ≤ 100 := by
          have h1 := congrArg List.length HQ.out
          have h2 := congrArg List.length HG.out
          have h3 := sgn_len ((bI text).take k)
          have h4 : (((bI text).take k).flatMap fun c => [92, c]).length = 2 * ((bI text).take k).length := by
            induction (bI text).take k with
            | nil => rfl
            | cons x l ih => rw [List.flatMap_cons, List.length_append, ih, List.length_cons]; simp only [List.length_cons, List.length_nil]; omega
          rw [bI_len] at h1 h2
          rw [List.length_take, bI_len] at h3 h4
          have := HL.out.1
          omega
        have hcv := fun W : World => conv_one W c0 HCR.out
        have hso := size_one c0
        have g2 : decide ((k : Int) < (text.size : Int)) = true := by simp; omega
        clear hd htk
        go_upto_block 2 with fail
        obtain ⟨w2, hw2⟩ : ∃ W, W = wr.alloc (.cells #[.int .u8 c0] 5) := ⟨_, rfl⟩
        rw [← hw2]
        have HW2 : Hid (Below w.heap.size w w2) := Lib.hid (by rw [hw2]; exact HW.out.alloc HW.out.size _)
        clear hw2 hcv
        go_cut [6] from 38 to 69 (fun s6 wc => ∃ g' : ByteArray, s6 = .string g' ∧ Hid (bI g' ++ [c0] = bI g ++ sgn c0 ∧ g'.size ≤ 101) ∧ w2 = wc)
        case first =>
          by_cases hsp : specials.contains c0 = true
          · skip
            have HCC := Lib.hid hsp
            have hmem : c0 = 124 ∨ c0 = 40 ∨ c0 = 41 ∨ c0 = 42 ∨ c0 = 43 ∨ c0 = 63 ∨ c0 = 46 ∨ c0 = 91 ∨ c0 = 92 := by simpa [specials] using hsp
            clear hsp
            rcases hmem with rfl | rfl | rfl | rfl | rfl | rfl | rfl | rfl | rfl
            all_goals
              go_wp2
              go_meet
              exact ⟨_, rfl, Lib.hid ⟨by rw [bI_app]; unfold sgn; rw [if_pos HCC.out, List.append_assoc]; rfl, by rw [ByteArray.size_append]; show g.size + 1 ≤ 101; omega⟩, rfl⟩
          · skip
            have hsp' : specials.contains c0 = false := by simpa using hsp
            have HCC := Lib.hid hsp'
            have hne : c0 ≠ 124 ∧ c0 ≠ 40 ∧ c0 ≠ 41 ∧ c0 ≠ 42 ∧ c0 ≠ 43 ∧ c0 ≠ 63 ∧ c0 ≠ 46 ∧ c0 ≠ 91 ∧ c0 ≠ 92 := by simpa [specials] using hsp
            clear hsp hsp'
            obtain ⟨n0, n1, n2, n3, n4, n5, n6, n7, n8⟩ := hne
            have e0 : (c0 == 124) = false := beq_eq_false_iff_ne.mpr n0
            have e1 : (c0 == 40) = false := beq_eq_false_iff_ne.mpr n1
            have e2 : (c0 == 41) = false := beq_eq_false_iff_ne.mpr n2
            have e3 : (c0 == 42) = false := beq_eq_false_iff_ne.mpr n3
            have e4 : (c0 == 43) = false := beq_eq_false_iff_ne.mpr n4
            have e5 : (c0 == 63) = false := beq_eq_false_iff_ne.mpr n5
            have e6 : (c0 == 46) = false := beq_eq_false_iff_ne.mpr n6
            have e7 : (c0 == 91) = false := beq_eq_false_iff_ne.mpr n7
            have e8 : (c0 == 92) = false := beq_eq_false_iff_ne.mpr n8
            clear n0 n1 n2 n3 n4 n5 n6 n7 n8
            go_wp2
            go_meet
            exact ⟨_, rfl, Lib.hid ⟨by unfold sgn; rw [if_neg (by rw [HCC.out]; decide)], by omega⟩, rfl⟩
        case rest =>
          obtain ⟨g', rfl, HGG, rfl⟩ := hcut
          have HQ' : Hid (bI (q ++ ⟨#[92]⟩ ++ strOfNums [c0]) = ((bI text).take (k + 1)).flatMap fun c => [92, c]) := Lib.hid (by rw [bI_app, bI_app, bI_one HCR.out, HQ.out, HTK.out, List.flatMap_append]; simp; rfl)
          have HG' : Hid (bI (g' ++ strOfNums [c0]) = ((bI text).take (k + 1)).flatMap sgn) := Lib.hid (by rw [bI_app, bI_one HCR.out, HGG.out.1, HG.out, HTK.out, List.flatMap_append]; simp only [List.flatMap_cons, List.flatMap_nil, List.append_nil])
          have hg' : g'.size ≤ 101 := HGG.out.2
          go_wp2_with fail
          go_roundg (text.size - k)
          case measure => have := HKQ.out; omega
          case rel => exact ⟨k + 1, _, _, by omega, by go_num, rfl, rfl, HQ', HG', Lib.hid (by omega), HW2⟩
      · obtain rfl : k = text.size := by omega
        have hfull : (bI text).take text.size = bI text := List.take_of_length_le (by rw [bI_len]; exact Nat.le_refl _)
        rw [hfull] at HQ HG
        have hlen : (bI text).length ≤ 50 := by rw [bI_len]; exact HL.out.1
        have hrg : ∀ x, x ∈ bI text → 0 ≤ x ∧ x ≤ 255 := fun x hx => by have := bI_rng text x hx; omega
        have HC1 := Lib.hid (comp_text (s := text) (by have := HL.out.1; omega))
        have HC2 := Lib.hid (comp_quoted HQ.out hlen)
        have HC3 := Lib.hid (comp_signs HG.out hlen hrg)
        have HZ : Hid (text.size ≤ maxLen ∧ q.size ≤ maxLen ∧ g.size ≤ maxLen) := Lib.hid (by
          have h1 := congrArg List.length HQ.out
          have h2 := congrArg List.length HG.out
          have h3 := sgn_len (bI text)
          have h4 : ((bI text).flatMap fun c => [92, c]).length = 2 * (bI text).length := by
            induction bI text with
            | nil => rfl
            | cons x l ih => rw [List.flatMap_cons, List.length_append, ih, List.length_cons]; simp only [List.length_cons, List.length_nil]; omega
          rw [bI_len] at h1 h2 hlen
          rw [bI_len] at h3 h4
          unfold maxLen
          omega)
        have g2 : decide ((text.size : Int) < (text.size : Int)) = false := by simp
        clear hfull hlen hrg hk hlt
        go_upto_region 29 with (first
          | (go_at_call 8; (have hguard := HW; clear hguard); refine (comp_any _ _ _ HZ.out.1).mono ?_; intro e w2 hq; (obtain ⟨hb, p1, rfl, _, _, hpr, hpa⟩ := comp_yes (by rw [HC1.out.1]) hq); (have HP1 := Lib.hid (ps_add (Ps.nil w.heap.size wr) hb hpa HW.out.size); have HB2 := Lib.hid (HW.out.trans (hb.mono HW.out.size)); have HR1 := Lib.hid (hpr.trans HC1.out.2); clear hq hb hpr hpa HW); dsimp only)
          | (go_at_call 8; (have hguard := HP1; clear hguard); refine (comp_any _ _ _ HZ.out.2.1).mono ?_; intro e w3 hq; (obtain ⟨hb, p2, rfl, _, _, hpr, hpa⟩ := comp_yes (by rw [HC2.out.1]) hq); (have HP2 := Lib.hid (ps_add HP1.out hb hpa HB2.out.size); have HB3 := Lib.hid (HB2.out.trans (hb.mono HB2.out.size)); have HR2 := Lib.hid (hpr.trans HC2.out.2); clear hq hb hpr hpa HP1); dsimp only)
          | (go_at_call 8; (have hguard := HP2; clear hguard); refine (comp_any _ _ _ HZ.out.2.2).mono ?_; intro e w4 hq; (obtain ⟨hb, p3, rfl, _, _, hpr, hpa⟩ := comp_yes (by rw [HC3.out.1]) hq); (have HP3 := Lib.hid (ps_add HP2.out hb hpa HB3.out.size); have HB4 := Lib.hid (HB3.out.trans (hb.mono HB3.out.size)); have HR3 := Lib.hid (hpr.trans HC3.out.2); clear hq hb hpr hpa HP2); dsimp only))
        go_upto_region 30 with (first
          | (go_at_call 12; refine (find_of (p := p1) (m := m) HB4.out HB4.out.size HP3.out (by simp) (HVB.out.below HB4.out) (by have := HL.out; omega) (HM.out _ HB4.out)).mono ?_; rintro e w5 ⟨f, t, ok, rfl, hf, hps, hb, hs⟩; (have HF := Lib.hid hf; have HP5 := Lib.hid hps; have HB5 := Lib.hid hb; clear hf hps hb hs); dsimp only))
        rw [HR1.out] at HF
        go_upto_region 31 with (first
          | (go_at_call 12; refine (find_of (p := p2) (m := m) HB5.out HB5.out.size HP5.out (by simp) (HVB.out.below HB5.out) (by have := HL.out; omega) (HM.out _ HB5.out)).mono ?_; rintro e w6 ⟨i, j, is_, rfl, hf, hps, hb, hs⟩; (have HF2 := Lib.hid hf; have HP6 := Lib.hid hps; have HB6 := Lib.hid hb; clear hf hps hb hs); dsimp only))
        rw [HR2.out] at HF2
        go_upto_region 32 with (first
          | (go_at_call 12; refine (find_of (p := p3) (m := m) HB6.out HB6.out.size HP6.out (by simp) (HVB.out.below HB6.out) (by have := HL.out; omega) (HM.out _ HB6.out)).mono ?_; rintro e w7 ⟨i2, j2, is2, rfl, hf, hps, hb, hs⟩; (have HF3 := Lib.hid hf; have HB7 := Lib.hid hb; clear hf hps hb hs); dsimp only))
        rw [HR3.out] at HF3
        obtain ⟨rfl, rfl, rfl⟩ := same_find rfl HF.out HF2.out
        obtain ⟨rfl, rfl, rfl⟩ := same_find rfl HF.out HF3.out
        have g3 : (ok != ok) = false := by simp
        have g4 : (f != f) = false := by simp
        have g5 : (t != t) = false := by simp
        cases ok with
        | false =>
          have hpos := none_text HF.out
          have g6 : decide ((0 : Int) < (text.size : Int)) = true := by simp; omega
          have g7 : decide (0 < text.size) = true := by simpa using hpos
          clear hpos
          go_wp2_with fail
          go_ret
          exact ⟨rfl, HB7.out⟩
        | true =>
          obtain ⟨hf0, hft, hts⟩ := find_rng HF.out
          obtain ⟨i5, hi5, hsz5⟩ := info5s
          have hcut := cut_mid (P := Try.prog) 38 5 .i64 .i64 Try.underlying38 hi5 1 hsz5 A sb.size c f t hf0 hft hts HC.out
          have hrd : ReadsInt w7 .u8 (if c = f.toNat then A else A.map (·.add (f.toNat * 1))) (t.toNat - f.toNat) (((bI sb).take t.toNat).drop f.toNat) := by
            have h1 := ((HVB.out.below HB7.out).reads hsb).take_ t.toNat (by omega)
            have h2 := h1.drop_ f.toNat (c := if c = f.toNat then t.toNat else max t.toNat (f.toNat + 1)) (by omega) (by split <;> omega)
            by_cases e : c = f.toNat
            · rw [if_pos e] at h2 ⊢
              rw [if_pos (by have := HC.out; omega)] at h2
              exact h2
            · rw [if_neg e] at h2 ⊢
              rw [if_neg (by omega)] at h2
              simpa using h2
          rw [found_text HF.out] at hrd
          obtain ⟨A7, hA7⟩ : ∃ x, x = (if c = f.toNat then A else A.map (·.add (f.toNat * 1))) := ⟨_, rfl⟩
          obtain ⟨n7, hn7⟩ : ∃ x, x = t.toNat - f.toNat := ⟨_, rfl⟩
          obtain ⟨c7, hc7⟩ : ∃ x, x = c - f.toNat := ⟨_, rfl⟩
          rw [← hA7, ← hn7] at hrd
          rw [← hA7, ← hn7, ← hc7] at hcut
          have hcv := conv_reads c7 hrd
          clear hA7 hn7 hc7 hi5 hsz5 hrd hf0 hft hts
          go_wp2_with fail
          go_ret
          exact ⟨by first | rfl | simp, HB7.out⟩
end Go.Proofs.Ytdgidcfmggmbiaa.Qp
