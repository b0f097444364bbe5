/- PatKinds, walked. -/
import Derived.Test.YtdgidcfmggmbiaaMx
namespace Go.Proofs.Ytdgidcfmggmbiaa.Qp
set_option linter.unusedVariables false
set_option linter.unusedSimpArgs false
open Go.RowKit Go.Proofs.Ytdgidcfmggmbiaa.Mem Go.Proofs.Ytdgidcfmggmbiaa.Re Go.Proofs.Ytdgidcfmggmbiaa.Nm Go.Proofs.Ytdgidcfmggmbiaa.Tree Go.Proofs.Ytdgidcfmggmbiaa.PRx Go.Proofs.Ytdgidcfmggmbiaa.Rx Go.Proofs.YtdgidcfmggmbiaaW.PrintWords

/-- A letter. -/
def ltr (c : Int) : Int := 97 + c % 16
theorem comp_long {kind : Int} {s : ByteArray} (hk : kind = 1 ∨ kind = 2 ∨ kind = 3) (h : 256 < s.size) : compP kind s = (2, 0) := by
  have h' : 256 < (bI s).length := by rw [bI_len]; exact h
  rcases hk with rfl | rfl | rfl
  · rw [compP, if_pos rfl, if_pos h]
  · rw [compP, if_neg (by decide), if_pos rfl]; unfold globP; rw [if_pos h']
  · rw [compP, if_neg (by decide), if_neg (by decide), if_pos rfl]; unfold parseP; rw [if_pos h']
theorem ltr_rng (c : Int) : 97 ≤ ltr c ∧ ltr c ≤ 112 := by unfold ltr; omega
theorem comp_plain {s : ByteArray} (h : s.size ≤ 256) (hc : ∀ c, c ∈ bI s → 97 ≤ c ∧ c ≤ 112) : compP 1 s = (0, 0) ∧ compP 2 s = (0, 0) ∧ compP 3 s = (0, 0) ∧ reP 1 s = exRe s ∧ reP 2 s = re (catN ((bI s).map oneN)) ∧ reP 3 s = re (catN ((bI s).map oneN)) := by
  obtain ⟨a1, a2⟩ := comp_text h
  have hg := globP_plain (bI s) (fun c hx => by have := hc c hx; omega) (by rw [bI_len]; exact h)
  have hs : (bI s).flatMap sgn = bI s := sgn_plain (fun c hx => by have := hc c hx; simp [specials]; omega)
  have hp := parse_of (xs := bI s) (by have := alt_sgn (bI s) (fun c hx => by have := hc c hx; omega); rw [hs] at this; exact this) (by rw [bI_len]; exact h)
  refine ⟨a1, ?_, ?_, a2, ?_, ?_⟩
  · rw [compP, if_neg (by decide), if_pos rfl, hg]
  · rw [compP, if_neg (by decide), if_neg (by decide), if_pos rfl, hp]
  · rw [reP, if_neg (by decide), if_pos rfl, hg]
  · rw [reP, if_neg (by decide), if_neg (by decide), hp]
set_option maxHeartbeats 4000000 in
set_option maxRecDepth 100000 in
theorem kinds_walk (sl sb : ByteArray) (vl vb : Value) (w : World) (m : Int) (hm : w.cell? ⟨0, 0, none⟩ = some (.int .i64 m)) (hl : BufAt w vl sl) (hb : BufAt w vb sb) (hsl : sl.size ≤ 140737488355328) (hsb : sb.size ≤ 140737488355328) :
    Calls Try.prog 6 #[vl, vb] w fun e w' => e = .returned (.bool true) ∧ Below w.heap.size w w' := by
  obtain ⟨A, c, rfl, hc⟩ := hb.form
  obtain ⟨A2, c2, rfl, hc2⟩ := hl.form
  have h0 := World.block_lt_of_cell? w _ hm
  have HM : Hid (∀ W, Below w.heap.size w W → W.cell? ⟨0, 0, none⟩ = some (.int .i64 m)) := Lib.hid fun W hW => (hW.cell (p := ⟨0, 0, none⟩) h0).trans hm
  have HAL := Lib.hid (alive_any w m hm)
  have HVB := Lib.hid hb
  have HVL := Lib.hid hl
  have HC := Lib.hid hc
  have hsb' : (sb.size : Int) ≤ 140737488355328 := by omega
  have hsl' : (sl.size : Int) ≤ 140737488355328 := by omega
  clear hm h0 hb hl hc hc2
  by_cases hbl : 200 < sb.size
  · have g0 : decide ((200 : Int) < (sb.size : Int)) = true := by simp; omega
    clear hbl
    go_enter Try.func6, Try.ntmps6
    go_wp2_with (first | (go_at_call 7; refine HAL.out.mono ?_; rintro e w1 ⟨rfl, hb⟩; have HB1 := Lib.hid hb; clear hb))
    go_ret
    exact ⟨rfl, HB1.out⟩
  · have g0 : decide ((200 : Int) < (sb.size : Int)) = false := by simp; omega
    have HL : Hid (sb.size ≤ 200) := Lib.hid (by omega)
    clear hbl
    go_enter Try.func6, Try.ntmps6
    go_wp2_with (first | (go_at_call 7; refine HAL.out.mono ?_; rintro e w1 ⟨rfl, hb⟩; have HB1 := Lib.hid hb; clear hb))
    go_loopg [5, 33] (sl.size + 1) (fun kq v5 v33 wr => ∃ (k : Nat) (q : ByteArray), k ≤ sl.size ∧ v33 = .int .i64 k ∧ v5 = .string q ∧ Hid (bI q = ((bI sl).take (min k 300)).map ltr) ∧ Hid (kq = sl.size + 1 - k) ∧ Hid (Below w.heap.size w wr))
    case atStart => exact ⟨0, _, Nat.zero_le _, rfl, rfl, Lib.hid (by simp; rfl), Lib.hid rfl, HB1⟩
    case round =>
      obtain ⟨k, q, hk, rfl, rfl, HQ, HKQ, HW⟩ := hrel
      by_cases hlt : k < sl.size
      · obtain ⟨c0, hc0, hc1, hd, htk, hix⟩ := text_at sl k hlt
        have hqs : q.size ≤ 300 := by
          have h1 := congrArg List.length HQ.out
          rw [bI_len, List.length_map, List.length_take] at h1
          omega
        obtain ⟨b, o, rfl, hcl⟩ : ∃ b o, A2 = some ⟨b, o, none⟩ ∧ wr.cell? ⟨b, o + k, none⟩ = some (.int .u8 c0) := by
          rcases HVL.out.below HW.out with ⟨h, h'⟩ | ⟨a, c', h1, h2, h3, h4⟩
          · omega
          · injection h1 with h1 _ _
            obtain ⟨b, o, sp⟩ := a
            obtain rfl : sp = none := h3 (by omega)
            refine ⟨b, o, h1, ?_⟩
            have := h4 k hlt
            rw [add_plain] at this
            rw [this]
            have hl : k < (bI sl).length := by rw [bI_len]; exact hlt
            rw [List.drop_eq_getElem_cons hl] at hd
            rw [List.getD_eq_getElem?_getD, List.getElem?_eq_getElem hl]
            show some (Value.int .u8 (bI sl)[k]) = _
            rw [(List.cons.inj hd).1]
        have HTK := Lib.hid htk
        have g2 : decide ((k : Int) < (sl.size : Int)) = true := by simp; omega
        clear hd htk hix
        by_cases h3 : k < 300
        · have g3 : decide ((k : Int) < 300) = true := by simp; omega
          have hcr : 0 ≤ 97 + c0 % 16 ∧ 97 + c0 % 16 < 256 := by omega
          have hcv := fun W : World => conv_one W (97 + c0 % 16) hcr
          have hso := size_one (97 + c0 % 16)
          have HQ' : Hid (bI (q ++ strOfNums [97 + c0 % 16]) = ((bI sl).take (min (k + 1) 300)).map ltr) := Lib.hid (by
            rw [bI_app, bI_one hcr, HQ.out, show min (k + 1) 300 = k + 1 by omega, show min k 300 = k by omega, HTK.out, List.map_append]; rfl)
          clear hcr h3
          go_wp2_with fail
          go_roundg (sl.size - k)
          case measure => have := HKQ.out; omega
          case rel => exact ⟨k + 1, _, by omega, by go_num, rfl, HQ', Lib.hid (by omega), Lib.hid (HW.out.alloc HW.out.size _)⟩
        · have g3 : decide ((k : Int) < 300) = false := by simp; omega
          have HQ' : Hid (bI q = ((bI sl).take (min (k + 1) 300)).map ltr) := Lib.hid (by rw [HQ.out]; congr 2; omega)
          go_wp2_with fail
          go_roundg (sl.size - k)
          case measure => have := HKQ.out; omega
          case rel => exact ⟨k + 1, q, by omega, by go_num, rfl, HQ', Lib.hid (by omega), HW⟩
      · obtain rfl : k = sl.size := by omega
        have hrg : ∀ c, c ∈ bI q → 97 ≤ c ∧ c ≤ 112 := fun c hx => by
          rw [HQ.out] at hx
          obtain ⟨y, _, rfl⟩ := List.mem_map.mp hx
          exact ltr_rng y
        have hqs : q.size ≤ 300 := by
          have h1 := congrArg List.length HQ.out
          rw [bI_len, List.length_map, List.length_take] at h1
          omega
        have g2 : decide ((sl.size : Int) < (sl.size : Int)) = false := by simp
        have HZ : Hid (q.size ≤ maxLen) := Lib.hid (by unfold maxLen; omega)
        clear hk hlt HQ
        by_cases hql : 256 < q.size
        · have g3 : decide ((256 : Int) < (q.size : Int)) = true := by simp; omega
          have HC1 := Lib.hid (comp_long (.inl rfl) hql)
          have HC2 := Lib.hid (comp_long (.inr (.inl rfl)) hql)
          have HC3 := Lib.hid (comp_long (.inr (.inr rfl)) hql)
          clear hql hrg
          go_wp2_with (first
            | (go_at_call 8; (have hguard := HW; clear hguard); refine (comp_any _ _ _ HZ.out).mono ?_; intro e w2 hq; (obtain ⟨hb, rfl⟩ := comp_no (by rw [HC1.out]; decide) hq); (have HB2 := Lib.hid (HW.out.trans (hb.mono HW.out.size)); clear hq hb HW); (rw [HC1.out]); dsimp only)
            | (go_at_call 8; (have hguard := HB2; clear hguard); refine (comp_any _ _ _ HZ.out).mono ?_; intro e w3 hq; (obtain ⟨hb, rfl⟩ := comp_no (by rw [HC2.out]; decide) hq); (have HB3 := Lib.hid (HB2.out.trans (hb.mono HB2.out.size)); clear hq hb HB2); (rw [HC2.out]); dsimp only)
            | (go_at_call 8; (have hguard := HB3; clear hguard); refine (comp_any _ _ _ HZ.out).mono ?_; intro e w4 hq; (obtain ⟨hb, rfl⟩ := comp_no (by rw [HC3.out]; decide) hq); (have HB4 := Lib.hid (HB3.out.trans (hb.mono HB3.out.size)); clear hq hb HB3); (rw [HC3.out]); dsimp only))
          go_ret
          exact ⟨rfl, HB4.out⟩
        · have g3 : decide ((256 : Int) < (q.size : Int)) = false := by simp; omega
          have HCC := Lib.hid (comp_plain (by omega) hrg)
          clear hql hrg
          go_upto_region 19 with (first
            | (go_at_call 8; (have hguard := HW; clear hguard); refine (comp_any _ _ _ HZ.out).mono ?_; intro e w2 hq; (obtain ⟨hb, p1, rfl, _, _, hpr, hpa⟩ := comp_yes (by rw [HCC.out.1]) hq); (have HP1 := Lib.hid (ps_add (Ps.nil w.heap.size wr) hb hpa HW.out.size); have HB2 := Lib.hid (HW.out.trans (hb.mono HW.out.size)); have HR1 := Lib.hid (hpr.trans HCC.out.2.2.2.1); clear hq hb hpr hpa HW); dsimp only)
            | (go_at_call 8; (have hguard := HP1; clear hguard); refine (comp_any _ _ _ HZ.out).mono ?_; intro e w3 hq; (obtain ⟨hb, p2, rfl, _, _, hpr, hpa⟩ := comp_yes (by rw [HCC.out.2.1]) hq); (have HP2 := Lib.hid (ps_add HP1.out hb hpa HB2.out.size); have HB3 := Lib.hid (HB2.out.trans (hb.mono HB2.out.size)); have HR2 := Lib.hid (hpr.trans HCC.out.2.2.2.2.1); clear hq hb hpr hpa HP1); dsimp only)
            | (go_at_call 8; (have hguard := HP2; clear hguard); refine (comp_any _ _ _ HZ.out).mono ?_; intro e w4 hq; (obtain ⟨hb, p3, rfl, _, _, hpr, hpa⟩ := comp_yes (by rw [HCC.out.2.2.1]) hq); (have HP3 := Lib.hid (ps_add HP2.out hb hpa HB3.out.size); have HB4 := Lib.hid (HB3.out.trans (hb.mono HB3.out.size)); have HR3 := Lib.hid (hpr.trans HCC.out.2.2.2.2.2); clear hq hb hpr hpa HP2); dsimp only))
          go_upto_region 20 with (first
            | (go_at_call 12; refine (find_of (p := p1) (m := m) HB4.out HB4.out.size HP3.out (by simp) (HVB.out.below HB4.out) (by have := HL.out; omega) (HM.out _ HB4.out)).mono ?_; rintro e w5 ⟨f, t, ok, rfl, hf, hps, hb, hs⟩; (have HF := Lib.hid hf; have HP5 := Lib.hid hps; have HB5 := Lib.hid hb; clear hf hps hb hs); dsimp only))
          rw [HR1.out] at HF
          go_upto_region 21 with (first
            | (go_at_call 12; refine (find_of (p := p2) (m := m) HB5.out HB5.out.size HP5.out (by simp) (HVB.out.below HB5.out) (by have := HL.out; omega) (HM.out _ HB5.out)).mono ?_; rintro e w6 ⟨i, j, is_, rfl, hf, hps, hb, hs⟩; (have HF2 := Lib.hid hf; have HP6 := Lib.hid hps; have HB6 := Lib.hid hb; clear hf hps hb hs); dsimp only))
          rw [HR2.out] at HF2
          go_upto_region 22 with (first
            | (go_at_call 12; refine (find_of (p := p3) (m := m) HB6.out HB6.out.size HP6.out (by simp) (HVB.out.below HB6.out) (by have := HL.out; omega) (HM.out _ HB6.out)).mono ?_; rintro e w7 ⟨i2, j2, is2, rfl, hf, hps, hb, hs⟩; (have HF3 := Lib.hid hf; have HB7 := Lib.hid hb; clear hf hps hb hs); dsimp only))
          rw [HR3.out] at HF3
          obtain ⟨rfl, rfl, rfl⟩ := same_find rfl HF.out HF2.out
          obtain ⟨rfl, rfl, rfl⟩ := same_find rfl HF.out HF3.out
          have g4 : (ok == ok) = true := by simp
          have g5 : (f == f) = true := by simp
          have g6 : (t == t) = true := by simp
          go_wp2_with fail
          go_ret
          exact ⟨rfl, HB7.out⟩
end Go.Proofs.Ytdgidcfmggmbiaa.Qp
