/- The walk of NfaCounts. (Printed by gl5.py.) -/
import Derived.Test.YtmhodkkfbbpgaaaLawKinds0
import Derived.Laws.BytesArg
namespace Go.Proofs.Ytmhodkkfbbpgaaa.Nm
set_option linter.unusedVariables false
set_option linter.unusedSimpArgs false
open Go.RowKit Mem Re Tree Fac Go.Proofs.Ytmhodkkfbbpgaaa.PNfa Go.Proofs.YtmhodkkfbbpgaaaW.PrintWords Go.Proofs.YtmhodkkfbbpgaaaW.PrintLast Go.Proofs.YtmhodkkfbbpgaaaW.PrintMore

theorem and63 (n : Int) : bits .and .i64 n 63 = n % 64 := by
  have h63 : (BitVec.ofInt 64 63).toNat = 2 ^ 6 - 1 := by decide
  have key : (BitVec.ofInt 64 n &&& BitVec.ofInt 64 63).toNat = (n % ((2 ^ 64 : Nat) : Int)).toNat % 2 ^ 6 := by
    rw [BitVec.toNat_and, BitVec.toNat_ofInt, h63, Nat.and_two_pow_sub_one_eq_mod]
  show IntKind.i64.wrap ((BitVec.ofInt 64 n &&& BitVec.ofInt 64 63).toNat : Nat) = n % 64
  rw [key, IntKind.wrap_i64]
  omega
theorem one_byte (c : Int) (hc : 0 ≤ c ∧ c ≤ 255) (wr : World) :
    (convert 45 9 (.slice (some ⟨wr.heap.size, 0, none⟩) 1 1)).run Try.prog (wr.alloc (.cells #[.int .u8 c] 5)) = .ok (.string (strOfNums [c])) (wr.alloc (.cells #[.int .u8 c] 5)) := by
  refine run_convert_bytes_arg _ 45 5 Try.underlying45 Try.underlying5 wr.heap.size 0 1 1 [c] rfl (fun i hi => ?_) 9 Try.underlying9
  obtain rfl : i = 0 := by omega
  simp
theorem only_zero (c : Int) : Only ⟨#[]⟩ 0 c := ⟨rfl, fun k hk => absurd hk (Nat.not_lt_zero k)⟩
theorem only_more {s : ByteArray} {k : Nat} {c : Int} (hc : 0 ≤ c ∧ c ≤ 255) (h : Only s k c) : Only (s ++ strOfNums [c]) (k + 1) c := by
  obtain ⟨h1, h2⟩ := h
  have hsz : (s ++ strOfNums [c]).size = k + 1 := by rw [ByteArray.size_append, h1]; rfl
  refine ⟨hsz, fun j hj => ?_⟩
  unfold bS bt
  rw [dif_pos (by omega)]
  simp only [Int.toNat_natCast]
  by_cases hjk : j < k
  · have := h2 j hjk
    unfold bS bt at this
    rw [dif_pos (by omega)] at this
    simp only [Int.toNat_natCast] at this
    rw [ByteArray.getElem_append_left (by omega)]
    exact this
  · obtain rfl : j = k := by omega
    rw [ByteArray.getElem_append_right (by omega)]
    simp [strOfNums, h1, ByteArray.getElem_eq_getElem_data]
    omega

set_option maxHeartbeats 8000000 in
set_option maxRecDepth 100000 in
theorem counts_walk (n0 a0 c : Int) (hc : 0 ≤ c ∧ c ≤ 255) (W : World) :
    Calls Try.prog 7 #[.int .i64 n0, .int .i64 a0, .int .u8 c] W fun e w' => e = .returned (.bool true) ∧ Below W.heap.size W w' := by
  have hal := alive_any W
  obtain ⟨n, hn, hn0⟩ : ∃ n : Nat, n ≤ 63 ∧ bits .and .i64 n0 63 = (n : Int) := ⟨(n0 % 64).toNat, by omega, by rw [and63]; omega⟩
  obtain ⟨a, ha, ha0⟩ : ∃ a : Nat, a ≤ 63 ∧ bits .and .i64 a0 63 = (a : Int) := ⟨(a0 % 64).toNat, by omega, by rw [and63]; omega⟩
  go_enter Try.func7, Try.ntmps7
  go_wp2_with (first
    | (go_at_call 9; refine hal.mono ?_; rintro e w1 ⟨rfl, hb0⟩; (have B1 := Lib.hid hb0; clear hb0 hal)))
  have HN := Lib.hid hn0
  have HA := Lib.hid ha0
  clear hn0 ha0
  go_loopw [7, 8] (fun t7 t8 wr => ∃ (k : Nat) (s : ByteArray), t8 = .int .i64 k ∧ t7 = .string s ∧ Hid (Only s k c) ∧ k ≤ n ∧ Hid (Below W.heap.size W wr)) (fun _ t8 _ => n - (intOf t8).toNat)
  case atStart => exact ⟨0, ⟨#[]⟩, rfl, rfl, only_zero c, Nat.zero_le _, B1⟩
  case round =>
    obtain ⟨k, s, rfl, rfl, HO, hk, BR⟩ := hrel
    have hsz : s.size ≤ 63 := by have := HO.out.1; omega
    by_cases hkn : k < n
    · have hcv := one_byte c hc wr
      have hso : ¬ 9223372036854775807 < s.size + (strOfNums [c]).size := by have : (strOfNums [c]).size = 1 := rfl; omega
      go_wp2
      go_roundw
      case rel => exact ⟨k + 1, s ++ strOfNums [c], by go_num, rfl, only_more hc HO.out, by omega, BR.out.trans ((below_a1 _ _).mono BR.out.size)⟩
      case measure => simp [intOf]; omega
    · obtain rfl : k = n := by omega
      have BW0 : Hid (Below W.heap.size W wr) := BR
      have HM0 := Lib.hid (Ms.nil W.heap.size wr)
      have hal := True.intro
      clear hal
      have hsk : s.size = k := HO.out.1
      have HSK := Lib.hid hsk
      clear hsk
      by_cases hak : a ≤ k
      · have hcf := counts_fact HO.out hak
        rw [← re_star, ← re_plus, ← re_maybe, ← re_cat] at hcf
        obtain ⟨h1, h2, h3, h4⟩ := hcf
        by_cases c1 : a + 1 < k
        · rw [if_pos (by omega)] at h2 h3 h4
          have HH := Lib.hid hak
          go_wp2_with (first
            | (go_at_call 13; (have hguard := BW16; clear hguard); refine (ms_long HM16.out btw (re ⟨2, [], [ofN c c, ofN c c]⟩) (by simp) s ((a : Int)) (by omega) BW16.out).mono ?_; rintro e w17 ⟨he, hm0, hB0⟩; (rw [h4] at he; subst he; have BW17 := Lib.hid hB0; have HM17 := Lib.hid hm0; clear hm0 hB0))
            | (go_at_call 13; (have hguard := BW15; clear hguard); refine (ms_long HM15.out bmb (re ⟨6, [], [ofN c c]⟩) (by simp) s ((a : Int)) (by omega) BW15.out).mono ?_; rintro e w16 ⟨he, hm0, hB0⟩; (rw [h3] at he; subst he; have BW16 := Lib.hid hB0; have HM16 := Lib.hid hm0; clear hm0 hB0))
            | (go_at_call 13; (have hguard := BW14; clear hguard); refine (ms_long HM14.out bpl (re ⟨5, [], [ofN c c]⟩) (by simp) s ((a : Int)) (by omega) BW14.out).mono ?_; rintro e w15 ⟨he, hm0, hB0⟩; (rw [h2] at he; subst he; have BW15 := Lib.hid hB0; have HM15 := Lib.hid hm0; clear hm0 hB0))
            | (go_at_call 13; (have hguard := BW13; clear hguard); refine (ms_long HM13.out bst (re ⟨4, [], [ofN c c]⟩) (by simp) s ((a : Int)) (by omega) BW13.out).mono ?_; rintro e w14 ⟨he, hm0, hB0⟩; (rw [h1] at he; subst he; have BW14 := Lib.hid hB0; have HM14 := Lib.hid hm0; clear hm0 hB0))
            | (go_at_call 12; (have hguard := BW12; clear hguard); refine (ms_compile HM12.out BW12.out ⟨2, [], [ofN c c, ofN c c]⟩ _ (Ttw.out) (len2 (ofN_len c c) (ofN_len c c)) (ok2 (by decide) (ofN_ok hc hc) (ofN_ok hc hc)) (by rw [sz2, ofN_sz]; omega) (by rw [dp2, ofN_dp]; omega) ((right2 (by decide) _ _).2 ⟨ofN_right c c, ofN_right c c⟩)).mono ?_; rintro e w13 ⟨btw, rfl, hm0, hb0, hB0⟩; (have BW13 := Lib.hid hB0; have HM13 := Lib.hid hm0; clear hm0 hb0 hB0))
            | (go_at_call 19; (have hguard := BW11; clear hguard); refine (tree_c 2 _ _ _ _).mono ?_; rintro e w12 ⟨rfl, hb0⟩; (have BW12 := Lib.hid (BW11.out.trans ((below_al hb0).mono BW11.out.size)); have HM12 := Lib.hid (HM11.out.below (below_al hb0)); have Ttw := Lib.hid (Kd.K_below _ hb0 (K_tree2 (k := 2) (Blk.new _ _ _) (Kd.K_below _ (below_a1 _ _) (KA'.out)) (Kd.K_below _ (below_a1 _ _) (KB.out)))); clear hb0))
            | (go_at_call 20; (have hguard := BW10; clear hguard); refine (of_b c c _).mono ?_; rintro e w11 ⟨q11, rfl, hq, hb0⟩; (have BW11 := Lib.hid (BW10.out.trans (hb0.mono BW10.out.size)); have HM11 := Lib.hid (HM10.out.below hb0); have KB := Lib.hid (K_of (lo := c) (hi := c) hq); have KA' := Lib.hid (Kd.K_below _ hb0 KA.out); clear hq hb0))
            | (go_at_call 20; (have hguard := BW9; clear hguard); refine (of_b c c _).mono ?_; rintro e w10 ⟨q10, rfl, hq, hb0⟩; (have BW10 := Lib.hid (BW9.out.trans (hb0.mono BW9.out.size)); have HM10 := Lib.hid (HM9.out.below hb0); have KA := Lib.hid (K_of (lo := c) (hi := c) hq); clear hq hb0))
            | (go_at_call 12; (have hguard := BW8; clear hguard); refine (ms_compile HM8.out BW8.out ⟨6, [], [ofN c c]⟩ _ (Tmb.out) (len1 (ofN_len c c)) (ok1 (by decide) (ofN_ok hc hc)) (by rw [sz1, ofN_sz]; omega) (by rw [dp1, ofN_dp]; omega) ((right1 (by decide) _).2 (ofN_right c c))).mono ?_; rintro e w9 ⟨bmb, rfl, hm0, hb0, hB0⟩; (have BW9 := Lib.hid hB0; have HM9 := Lib.hid hm0; clear hm0 hb0 hB0))
            | (go_at_call 19; (have hguard := BW7; clear hguard); refine (tree_c 6 _ _ _ _).mono ?_; rintro e w8 ⟨rfl, hb0⟩; (have BW8 := Lib.hid (BW7.out.trans ((below_al hb0).mono BW7.out.size)); have HM8 := Lib.hid (HM7.out.below (below_al hb0)); have Tmb := Lib.hid (Kd.K_below _ hb0 (K_tree1 (k := 6) (Blk.new _ _ _) (Kd.K_below _ (below_a1 _ _) (Kmb.out)))); clear hb0))
            | (go_at_call 20; (have hguard := BW6; clear hguard); refine (of_b c c _).mono ?_; rintro e w7 ⟨q7, rfl, hq, hb0⟩; (have BW7 := Lib.hid (BW6.out.trans (hb0.mono BW6.out.size)); have HM7 := Lib.hid (HM6.out.below hb0); have Kmb := Lib.hid (K_of (lo := c) (hi := c) hq); clear hq hb0))
            | (go_at_call 12; (have hguard := BW5; clear hguard); refine (ms_compile HM5.out BW5.out ⟨5, [], [ofN c c]⟩ _ (Tpl.out) (len1 (ofN_len c c)) (ok1 (by decide) (ofN_ok hc hc)) (by rw [sz1, ofN_sz]; omega) (by rw [dp1, ofN_dp]; omega) ((right1 (by decide) _).2 (ofN_right c c))).mono ?_; rintro e w6 ⟨bpl, rfl, hm0, hb0, hB0⟩; (have BW6 := Lib.hid hB0; have HM6 := Lib.hid hm0; clear hm0 hb0 hB0))
            | (go_at_call 19; (have hguard := BW4; clear hguard); refine (tree_c 5 _ _ _ _).mono ?_; rintro e w5 ⟨rfl, hb0⟩; (have BW5 := Lib.hid (BW4.out.trans ((below_al hb0).mono BW4.out.size)); have HM5 := Lib.hid (HM4.out.below (below_al hb0)); have Tpl := Lib.hid (Kd.K_below _ hb0 (K_tree1 (k := 5) (Blk.new _ _ _) (Kd.K_below _ (below_a1 _ _) (Kpl.out)))); clear hb0))
            | (go_at_call 20; (have hguard := BW3; clear hguard); refine (of_b c c _).mono ?_; rintro e w4 ⟨q4, rfl, hq, hb0⟩; (have BW4 := Lib.hid (BW3.out.trans (hb0.mono BW3.out.size)); have HM4 := Lib.hid (HM3.out.below hb0); have Kpl := Lib.hid (K_of (lo := c) (hi := c) hq); clear hq hb0))
            | (go_at_call 12; (have hguard := BW2; clear hguard); refine (ms_compile HM2.out BW2.out ⟨4, [], [ofN c c]⟩ _ (Tst.out) (len1 (ofN_len c c)) (ok1 (by decide) (ofN_ok hc hc)) (by rw [sz1, ofN_sz]; omega) (by rw [dp1, ofN_dp]; omega) ((right1 (by decide) _).2 (ofN_right c c))).mono ?_; rintro e w3 ⟨bst, rfl, hm0, hb0, hB0⟩; (have BW3 := Lib.hid hB0; have HM3 := Lib.hid hm0; clear hm0 hb0 hB0))
            | (go_at_call 19; (have hguard := BW1; clear hguard); refine (tree_c 4 _ _ _ _).mono ?_; rintro e w2 ⟨rfl, hb0⟩; (have BW2 := Lib.hid (BW1.out.trans ((below_al hb0).mono BW1.out.size)); have HM2 := Lib.hid (HM1.out.below (below_al hb0)); have Tst := Lib.hid (Kd.K_below _ hb0 (K_tree1 (k := 4) (Blk.new _ _ _) (Kd.K_below _ (below_a1 _ _) (Kst.out)))); clear hb0))
            | (go_at_call 20; (have hguard := BW0; clear hguard); refine (of_b c c _).mono ?_; rintro e w1 ⟨q1, rfl, hq, hb0⟩; (have BW1 := Lib.hid (BW0.out.trans (hb0.mono BW0.out.size)); have HM1 := Lib.hid (HM0.out.below hb0); have Kst := Lib.hid (K_of (lo := c) (hi := c) hq); clear hq hb0)))
          all_goals
            go_ret
            exact ⟨rfl, BW17.out⟩
        · by_cases c2 : a < k
          · have hka : k ≤ a + 1 := by omega
            rw [if_pos (by omega)] at h2 h3
            rw [if_neg (by omega)] at h4
            have hq : ((a : Int) + 1 == (a : Int) + ((k : Int) - (a : Int))) = true := by simp; omega
            go_wp2_with (first
              | (go_at_call 13; (have hguard := BW16; clear hguard); refine (ms_long HM16.out btw (re ⟨2, [], [ofN c c, ofN c c]⟩) (by simp) s ((a : Int)) (by omega) BW16.out).mono ?_; rintro e w17 ⟨he, hm0, hB0⟩; (rw [h4] at he; subst he; have BW17 := Lib.hid hB0; have HM17 := Lib.hid hm0; clear hm0 hB0))
              | (go_at_call 13; (have hguard := BW15; clear hguard); refine (ms_long HM15.out bmb (re ⟨6, [], [ofN c c]⟩) (by simp) s ((a : Int)) (by omega) BW15.out).mono ?_; rintro e w16 ⟨he, hm0, hB0⟩; (rw [h3] at he; subst he; have BW16 := Lib.hid hB0; have HM16 := Lib.hid hm0; clear hm0 hB0))
              | (go_at_call 13; (have hguard := BW14; clear hguard); refine (ms_long HM14.out bpl (re ⟨5, [], [ofN c c]⟩) (by simp) s ((a : Int)) (by omega) BW14.out).mono ?_; rintro e w15 ⟨he, hm0, hB0⟩; (rw [h2] at he; subst he; have BW15 := Lib.hid hB0; have HM15 := Lib.hid hm0; clear hm0 hB0))
              | (go_at_call 13; (have hguard := BW13; clear hguard); refine (ms_long HM13.out bst (re ⟨4, [], [ofN c c]⟩) (by simp) s ((a : Int)) (by omega) BW13.out).mono ?_; rintro e w14 ⟨he, hm0, hB0⟩; (rw [h1] at he; subst he; have BW14 := Lib.hid hB0; have HM14 := Lib.hid hm0; clear hm0 hB0))
              | (go_at_call 12; (have hguard := BW12; clear hguard); refine (ms_compile HM12.out BW12.out ⟨2, [], [ofN c c, ofN c c]⟩ _ (Ttw.out) (len2 (ofN_len c c) (ofN_len c c)) (ok2 (by decide) (ofN_ok hc hc) (ofN_ok hc hc)) (by rw [sz2, ofN_sz]; omega) (by rw [dp2, ofN_dp]; omega) ((right2 (by decide) _ _).2 ⟨ofN_right c c, ofN_right c c⟩)).mono ?_; rintro e w13 ⟨btw, rfl, hm0, hb0, hB0⟩; (have BW13 := Lib.hid hB0; have HM13 := Lib.hid hm0; clear hm0 hb0 hB0))
              | (go_at_call 19; (have hguard := BW11; clear hguard); refine (tree_c 2 _ _ _ _).mono ?_; rintro e w12 ⟨rfl, hb0⟩; (have BW12 := Lib.hid (BW11.out.trans ((below_al hb0).mono BW11.out.size)); have HM12 := Lib.hid (HM11.out.below (below_al hb0)); have Ttw := Lib.hid (Kd.K_below _ hb0 (K_tree2 (k := 2) (Blk.new _ _ _) (Kd.K_below _ (below_a1 _ _) (KA'.out)) (Kd.K_below _ (below_a1 _ _) (KB.out)))); clear hb0))
              | (go_at_call 20; (have hguard := BW10; clear hguard); refine (of_b c c _).mono ?_; rintro e w11 ⟨q11, rfl, hq, hb0⟩; (have BW11 := Lib.hid (BW10.out.trans (hb0.mono BW10.out.size)); have HM11 := Lib.hid (HM10.out.below hb0); have KB := Lib.hid (K_of (lo := c) (hi := c) hq); have KA' := Lib.hid (Kd.K_below _ hb0 KA.out); clear hq hb0))
              | (go_at_call 20; (have hguard := BW9; clear hguard); refine (of_b c c _).mono ?_; rintro e w10 ⟨q10, rfl, hq, hb0⟩; (have BW10 := Lib.hid (BW9.out.trans (hb0.mono BW9.out.size)); have HM10 := Lib.hid (HM9.out.below hb0); have KA := Lib.hid (K_of (lo := c) (hi := c) hq); clear hq hb0))
              | (go_at_call 12; (have hguard := BW8; clear hguard); refine (ms_compile HM8.out BW8.out ⟨6, [], [ofN c c]⟩ _ (Tmb.out) (len1 (ofN_len c c)) (ok1 (by decide) (ofN_ok hc hc)) (by rw [sz1, ofN_sz]; omega) (by rw [dp1, ofN_dp]; omega) ((right1 (by decide) _).2 (ofN_right c c))).mono ?_; rintro e w9 ⟨bmb, rfl, hm0, hb0, hB0⟩; (have BW9 := Lib.hid hB0; have HM9 := Lib.hid hm0; clear hm0 hb0 hB0))
              | (go_at_call 19; (have hguard := BW7; clear hguard); refine (tree_c 6 _ _ _ _).mono ?_; rintro e w8 ⟨rfl, hb0⟩; (have BW8 := Lib.hid (BW7.out.trans ((below_al hb0).mono BW7.out.size)); have HM8 := Lib.hid (HM7.out.below (below_al hb0)); have Tmb := Lib.hid (Kd.K_below _ hb0 (K_tree1 (k := 6) (Blk.new _ _ _) (Kd.K_below _ (below_a1 _ _) (Kmb.out)))); clear hb0))
              | (go_at_call 20; (have hguard := BW6; clear hguard); refine (of_b c c _).mono ?_; rintro e w7 ⟨q7, rfl, hq, hb0⟩; (have BW7 := Lib.hid (BW6.out.trans (hb0.mono BW6.out.size)); have HM7 := Lib.hid (HM6.out.below hb0); have Kmb := Lib.hid (K_of (lo := c) (hi := c) hq); clear hq hb0))
              | (go_at_call 12; (have hguard := BW5; clear hguard); refine (ms_compile HM5.out BW5.out ⟨5, [], [ofN c c]⟩ _ (Tpl.out) (len1 (ofN_len c c)) (ok1 (by decide) (ofN_ok hc hc)) (by rw [sz1, ofN_sz]; omega) (by rw [dp1, ofN_dp]; omega) ((right1 (by decide) _).2 (ofN_right c c))).mono ?_; rintro e w6 ⟨bpl, rfl, hm0, hb0, hB0⟩; (have BW6 := Lib.hid hB0; have HM6 := Lib.hid hm0; clear hm0 hb0 hB0))
              | (go_at_call 19; (have hguard := BW4; clear hguard); refine (tree_c 5 _ _ _ _).mono ?_; rintro e w5 ⟨rfl, hb0⟩; (have BW5 := Lib.hid (BW4.out.trans ((below_al hb0).mono BW4.out.size)); have HM5 := Lib.hid (HM4.out.below (below_al hb0)); have Tpl := Lib.hid (Kd.K_below _ hb0 (K_tree1 (k := 5) (Blk.new _ _ _) (Kd.K_below _ (below_a1 _ _) (Kpl.out)))); clear hb0))
              | (go_at_call 20; (have hguard := BW3; clear hguard); refine (of_b c c _).mono ?_; rintro e w4 ⟨q4, rfl, hq, hb0⟩; (have BW4 := Lib.hid (BW3.out.trans (hb0.mono BW3.out.size)); have HM4 := Lib.hid (HM3.out.below hb0); have Kpl := Lib.hid (K_of (lo := c) (hi := c) hq); clear hq hb0))
              | (go_at_call 12; (have hguard := BW2; clear hguard); refine (ms_compile HM2.out BW2.out ⟨4, [], [ofN c c]⟩ _ (Tst.out) (len1 (ofN_len c c)) (ok1 (by decide) (ofN_ok hc hc)) (by rw [sz1, ofN_sz]; omega) (by rw [dp1, ofN_dp]; omega) ((right1 (by decide) _).2 (ofN_right c c))).mono ?_; rintro e w3 ⟨bst, rfl, hm0, hb0, hB0⟩; (have BW3 := Lib.hid hB0; have HM3 := Lib.hid hm0; clear hm0 hb0 hB0))
              | (go_at_call 19; (have hguard := BW1; clear hguard); refine (tree_c 4 _ _ _ _).mono ?_; rintro e w2 ⟨rfl, hb0⟩; (have BW2 := Lib.hid (BW1.out.trans ((below_al hb0).mono BW1.out.size)); have HM2 := Lib.hid (HM1.out.below (below_al hb0)); have Tst := Lib.hid (Kd.K_below _ hb0 (K_tree1 (k := 4) (Blk.new _ _ _) (Kd.K_below _ (below_a1 _ _) (Kst.out)))); clear hb0))
              | (go_at_call 20; (have hguard := BW0; clear hguard); refine (of_b c c _).mono ?_; rintro e w1 ⟨q1, rfl, hq, hb0⟩; (have BW1 := Lib.hid (BW0.out.trans (hb0.mono BW0.out.size)); have HM1 := Lib.hid (HM0.out.below hb0); have Kst := Lib.hid (K_of (lo := c) (hi := c) hq); clear hq hb0)))
            all_goals
              go_ret
              exact ⟨rfl, BW17.out⟩
          · have hka : k ≤ a := by omega
            rw [if_neg (by omega)] at h2 h3 h4
            clear c1 c2
            have hq : ((a : Int) == (a : Int) + ((k : Int) - (a : Int))) = true := by simp; omega
            go_wp2_with (first
              | (go_at_call 13; (have hguard := BW16; clear hguard); refine (ms_long HM16.out btw (re ⟨2, [], [ofN c c, ofN c c]⟩) (by simp) s ((a : Int)) (by omega) BW16.out).mono ?_; rintro e w17 ⟨he, hm0, hB0⟩; (rw [h4] at he; subst he; have BW17 := Lib.hid hB0; have HM17 := Lib.hid hm0; clear hm0 hB0))
              | (go_at_call 13; (have hguard := BW15; clear hguard); refine (ms_long HM15.out bmb (re ⟨6, [], [ofN c c]⟩) (by simp) s ((a : Int)) (by omega) BW15.out).mono ?_; rintro e w16 ⟨he, hm0, hB0⟩; (rw [h3] at he; subst he; have BW16 := Lib.hid hB0; have HM16 := Lib.hid hm0; clear hm0 hB0))
              | (go_at_call 13; (have hguard := BW14; clear hguard); refine (ms_long HM14.out bpl (re ⟨5, [], [ofN c c]⟩) (by simp) s ((a : Int)) (by omega) BW14.out).mono ?_; rintro e w15 ⟨he, hm0, hB0⟩; (rw [h2] at he; subst he; have BW15 := Lib.hid hB0; have HM15 := Lib.hid hm0; clear hm0 hB0))
              | (go_at_call 13; (have hguard := BW13; clear hguard); refine (ms_long HM13.out bst (re ⟨4, [], [ofN c c]⟩) (by simp) s ((a : Int)) (by omega) BW13.out).mono ?_; rintro e w14 ⟨he, hm0, hB0⟩; (rw [h1] at he; subst he; have BW14 := Lib.hid hB0; have HM14 := Lib.hid hm0; clear hm0 hB0))
              | (go_at_call 12; (have hguard := BW12; clear hguard); refine (ms_compile HM12.out BW12.out ⟨2, [], [ofN c c, ofN c c]⟩ _ (Ttw.out) (len2 (ofN_len c c) (ofN_len c c)) (ok2 (by decide) (ofN_ok hc hc) (ofN_ok hc hc)) (by rw [sz2, ofN_sz]; omega) (by rw [dp2, ofN_dp]; omega) ((right2 (by decide) _ _).2 ⟨ofN_right c c, ofN_right c c⟩)).mono ?_; rintro e w13 ⟨btw, rfl, hm0, hb0, hB0⟩; (have BW13 := Lib.hid hB0; have HM13 := Lib.hid hm0; clear hm0 hb0 hB0))
              | (go_at_call 19; (have hguard := BW11; clear hguard); refine (tree_c 2 _ _ _ _).mono ?_; rintro e w12 ⟨rfl, hb0⟩; (have BW12 := Lib.hid (BW11.out.trans ((below_al hb0).mono BW11.out.size)); have HM12 := Lib.hid (HM11.out.below (below_al hb0)); have Ttw := Lib.hid (Kd.K_below _ hb0 (K_tree2 (k := 2) (Blk.new _ _ _) (Kd.K_below _ (below_a1 _ _) (KA'.out)) (Kd.K_below _ (below_a1 _ _) (KB.out)))); clear hb0))
              | (go_at_call 20; (have hguard := BW10; clear hguard); refine (of_b c c _).mono ?_; rintro e w11 ⟨q11, rfl, hq, hb0⟩; (have BW11 := Lib.hid (BW10.out.trans (hb0.mono BW10.out.size)); have HM11 := Lib.hid (HM10.out.below hb0); have KB := Lib.hid (K_of (lo := c) (hi := c) hq); have KA' := Lib.hid (Kd.K_below _ hb0 KA.out); clear hq hb0))
              | (go_at_call 20; (have hguard := BW9; clear hguard); refine (of_b c c _).mono ?_; rintro e w10 ⟨q10, rfl, hq, hb0⟩; (have BW10 := Lib.hid (BW9.out.trans (hb0.mono BW9.out.size)); have HM10 := Lib.hid (HM9.out.below hb0); have KA := Lib.hid (K_of (lo := c) (hi := c) hq); clear hq hb0))
              | (go_at_call 12; (have hguard := BW8; clear hguard); refine (ms_compile HM8.out BW8.out ⟨6, [], [ofN c c]⟩ _ (Tmb.out) (len1 (ofN_len c c)) (ok1 (by decide) (ofN_ok hc hc)) (by rw [sz1, ofN_sz]; omega) (by rw [dp1, ofN_dp]; omega) ((right1 (by decide) _).2 (ofN_right c c))).mono ?_; rintro e w9 ⟨bmb, rfl, hm0, hb0, hB0⟩; (have BW9 := Lib.hid hB0; have HM9 := Lib.hid hm0; clear hm0 hb0 hB0))
              | (go_at_call 19; (have hguard := BW7; clear hguard); refine (tree_c 6 _ _ _ _).mono ?_; rintro e w8 ⟨rfl, hb0⟩; (have BW8 := Lib.hid (BW7.out.trans ((below_al hb0).mono BW7.out.size)); have HM8 := Lib.hid (HM7.out.below (below_al hb0)); have Tmb := Lib.hid (Kd.K_below _ hb0 (K_tree1 (k := 6) (Blk.new _ _ _) (Kd.K_below _ (below_a1 _ _) (Kmb.out)))); clear hb0))
              | (go_at_call 20; (have hguard := BW6; clear hguard); refine (of_b c c _).mono ?_; rintro e w7 ⟨q7, rfl, hq, hb0⟩; (have BW7 := Lib.hid (BW6.out.trans (hb0.mono BW6.out.size)); have HM7 := Lib.hid (HM6.out.below hb0); have Kmb := Lib.hid (K_of (lo := c) (hi := c) hq); clear hq hb0))
              | (go_at_call 12; (have hguard := BW5; clear hguard); refine (ms_compile HM5.out BW5.out ⟨5, [], [ofN c c]⟩ _ (Tpl.out) (len1 (ofN_len c c)) (ok1 (by decide) (ofN_ok hc hc)) (by rw [sz1, ofN_sz]; omega) (by rw [dp1, ofN_dp]; omega) ((right1 (by decide) _).2 (ofN_right c c))).mono ?_; rintro e w6 ⟨bpl, rfl, hm0, hb0, hB0⟩; (have BW6 := Lib.hid hB0; have HM6 := Lib.hid hm0; clear hm0 hb0 hB0))
              | (go_at_call 19; (have hguard := BW4; clear hguard); refine (tree_c 5 _ _ _ _).mono ?_; rintro e w5 ⟨rfl, hb0⟩; (have BW5 := Lib.hid (BW4.out.trans ((below_al hb0).mono BW4.out.size)); have HM5 := Lib.hid (HM4.out.below (below_al hb0)); have Tpl := Lib.hid (Kd.K_below _ hb0 (K_tree1 (k := 5) (Blk.new _ _ _) (Kd.K_below _ (below_a1 _ _) (Kpl.out)))); clear hb0))
              | (go_at_call 20; (have hguard := BW3; clear hguard); refine (of_b c c _).mono ?_; rintro e w4 ⟨q4, rfl, hq, hb0⟩; (have BW4 := Lib.hid (BW3.out.trans (hb0.mono BW3.out.size)); have HM4 := Lib.hid (HM3.out.below hb0); have Kpl := Lib.hid (K_of (lo := c) (hi := c) hq); clear hq hb0))
              | (go_at_call 12; (have hguard := BW2; clear hguard); refine (ms_compile HM2.out BW2.out ⟨4, [], [ofN c c]⟩ _ (Tst.out) (len1 (ofN_len c c)) (ok1 (by decide) (ofN_ok hc hc)) (by rw [sz1, ofN_sz]; omega) (by rw [dp1, ofN_dp]; omega) ((right1 (by decide) _).2 (ofN_right c c))).mono ?_; rintro e w3 ⟨bst, rfl, hm0, hb0, hB0⟩; (have BW3 := Lib.hid hB0; have HM3 := Lib.hid hm0; clear hm0 hb0 hB0))
              | (go_at_call 19; (have hguard := BW1; clear hguard); refine (tree_c 4 _ _ _ _).mono ?_; rintro e w2 ⟨rfl, hb0⟩; (have BW2 := Lib.hid (BW1.out.trans ((below_al hb0).mono BW1.out.size)); have HM2 := Lib.hid (HM1.out.below (below_al hb0)); have Tst := Lib.hid (Kd.K_below _ hb0 (K_tree1 (k := 4) (Blk.new _ _ _) (Kd.K_below _ (below_a1 _ _) (Kst.out)))); clear hb0))
              | (go_at_call 20; (have hguard := BW0; clear hguard); refine (of_b c c _).mono ?_; rintro e w1 ⟨q1, rfl, hq, hb0⟩; (have BW1 := Lib.hid (BW0.out.trans (hb0.mono BW0.out.size)); have HM1 := Lib.hid (HM0.out.below hb0); have Kst := Lib.hid (K_of (lo := c) (hi := c) hq); clear hq hb0)))
            all_goals
              go_ret
              exact ⟨rfl, BW17.out⟩
      · have h1 := lg_out s (re ⟨4, [], [ofN c c]⟩) (a := (a : Int)) (by have := HSK.out; omega)
        have h3 := lg_out s (re ⟨6, [], [ofN c c]⟩) (a := (a : Int)) (by have := HSK.out; omega)
        go_wp2_with (first
          | (go_at_call 13; (have hguard := BW14; clear hguard); refine (ms_long HM14.out bmb (re ⟨6, [], [ofN c c]⟩) (by simp) s ((a : Int)) (by omega) BW14.out).mono ?_; rintro e w15 ⟨he, hm0, hB0⟩; (rw [h3] at he; subst he; have BW15 := Lib.hid hB0; have HM15 := Lib.hid hm0; clear hm0 hB0))
          | (go_at_call 13; (have hguard := BW13; clear hguard); refine (ms_long HM13.out bst (re ⟨4, [], [ofN c c]⟩) (by simp) s ((a : Int)) (by omega) BW13.out).mono ?_; rintro e w14 ⟨he, hm0, hB0⟩; (rw [h1] at he; subst he; have BW14 := Lib.hid hB0; have HM14 := Lib.hid hm0; clear hm0 hB0))
          | (go_at_call 12; (have hguard := BW12; clear hguard); refine (ms_compile HM12.out BW12.out ⟨2, [], [ofN c c, ofN c c]⟩ _ (Ttw.out) (len2 (ofN_len c c) (ofN_len c c)) (ok2 (by decide) (ofN_ok hc hc) (ofN_ok hc hc)) (by rw [sz2, ofN_sz]; omega) (by rw [dp2, ofN_dp]; omega) ((right2 (by decide) _ _).2 ⟨ofN_right c c, ofN_right c c⟩)).mono ?_; rintro e w13 ⟨btw, rfl, hm0, hb0, hB0⟩; (have BW13 := Lib.hid hB0; have HM13 := Lib.hid hm0; clear hm0 hb0 hB0))
          | (go_at_call 19; (have hguard := BW11; clear hguard); refine (tree_c 2 _ _ _ _).mono ?_; rintro e w12 ⟨rfl, hb0⟩; (have BW12 := Lib.hid (BW11.out.trans ((below_al hb0).mono BW11.out.size)); have HM12 := Lib.hid (HM11.out.below (below_al hb0)); have Ttw := Lib.hid (Kd.K_below _ hb0 (K_tree2 (k := 2) (Blk.new _ _ _) (Kd.K_below _ (below_a1 _ _) (KA'.out)) (Kd.K_below _ (below_a1 _ _) (KB.out)))); clear hb0))
          | (go_at_call 20; (have hguard := BW10; clear hguard); refine (of_b c c _).mono ?_; rintro e w11 ⟨q11, rfl, hq, hb0⟩; (have BW11 := Lib.hid (BW10.out.trans (hb0.mono BW10.out.size)); have HM11 := Lib.hid (HM10.out.below hb0); have KB := Lib.hid (K_of (lo := c) (hi := c) hq); have KA' := Lib.hid (Kd.K_below _ hb0 KA.out); clear hq hb0))
          | (go_at_call 20; (have hguard := BW9; clear hguard); refine (of_b c c _).mono ?_; rintro e w10 ⟨q10, rfl, hq, hb0⟩; (have BW10 := Lib.hid (BW9.out.trans (hb0.mono BW9.out.size)); have HM10 := Lib.hid (HM9.out.below hb0); have KA := Lib.hid (K_of (lo := c) (hi := c) hq); clear hq hb0))
          | (go_at_call 12; (have hguard := BW8; clear hguard); refine (ms_compile HM8.out BW8.out ⟨6, [], [ofN c c]⟩ _ (Tmb.out) (len1 (ofN_len c c)) (ok1 (by decide) (ofN_ok hc hc)) (by rw [sz1, ofN_sz]; omega) (by rw [dp1, ofN_dp]; omega) ((right1 (by decide) _).2 (ofN_right c c))).mono ?_; rintro e w9 ⟨bmb, rfl, hm0, hb0, hB0⟩; (have BW9 := Lib.hid hB0; have HM9 := Lib.hid hm0; clear hm0 hb0 hB0))
          | (go_at_call 19; (have hguard := BW7; clear hguard); refine (tree_c 6 _ _ _ _).mono ?_; rintro e w8 ⟨rfl, hb0⟩; (have BW8 := Lib.hid (BW7.out.trans ((below_al hb0).mono BW7.out.size)); have HM8 := Lib.hid (HM7.out.below (below_al hb0)); have Tmb := Lib.hid (Kd.K_below _ hb0 (K_tree1 (k := 6) (Blk.new _ _ _) (Kd.K_below _ (below_a1 _ _) (Kmb.out)))); clear hb0))
          | (go_at_call 20; (have hguard := BW6; clear hguard); refine (of_b c c _).mono ?_; rintro e w7 ⟨q7, rfl, hq, hb0⟩; (have BW7 := Lib.hid (BW6.out.trans (hb0.mono BW6.out.size)); have HM7 := Lib.hid (HM6.out.below hb0); have Kmb := Lib.hid (K_of (lo := c) (hi := c) hq); clear hq hb0))
          | (go_at_call 12; (have hguard := BW5; clear hguard); refine (ms_compile HM5.out BW5.out ⟨5, [], [ofN c c]⟩ _ (Tpl.out) (len1 (ofN_len c c)) (ok1 (by decide) (ofN_ok hc hc)) (by rw [sz1, ofN_sz]; omega) (by rw [dp1, ofN_dp]; omega) ((right1 (by decide) _).2 (ofN_right c c))).mono ?_; rintro e w6 ⟨bpl, rfl, hm0, hb0, hB0⟩; (have BW6 := Lib.hid hB0; have HM6 := Lib.hid hm0; clear hm0 hb0 hB0))
          | (go_at_call 19; (have hguard := BW4; clear hguard); refine (tree_c 5 _ _ _ _).mono ?_; rintro e w5 ⟨rfl, hb0⟩; (have BW5 := Lib.hid (BW4.out.trans ((below_al hb0).mono BW4.out.size)); have HM5 := Lib.hid (HM4.out.below (below_al hb0)); have Tpl := Lib.hid (Kd.K_below _ hb0 (K_tree1 (k := 5) (Blk.new _ _ _) (Kd.K_below _ (below_a1 _ _) (Kpl.out)))); clear hb0))
          | (go_at_call 20; (have hguard := BW3; clear hguard); refine (of_b c c _).mono ?_; rintro e w4 ⟨q4, rfl, hq, hb0⟩; (have BW4 := Lib.hid (BW3.out.trans (hb0.mono BW3.out.size)); have HM4 := Lib.hid (HM3.out.below hb0); have Kpl := Lib.hid (K_of (lo := c) (hi := c) hq); clear hq hb0))
          | (go_at_call 12; (have hguard := BW2; clear hguard); refine (ms_compile HM2.out BW2.out ⟨4, [], [ofN c c]⟩ _ (Tst.out) (len1 (ofN_len c c)) (ok1 (by decide) (ofN_ok hc hc)) (by rw [sz1, ofN_sz]; omega) (by rw [dp1, ofN_dp]; omega) ((right1 (by decide) _).2 (ofN_right c c))).mono ?_; rintro e w3 ⟨bst, rfl, hm0, hb0, hB0⟩; (have BW3 := Lib.hid hB0; have HM3 := Lib.hid hm0; clear hm0 hb0 hB0))
          | (go_at_call 19; (have hguard := BW1; clear hguard); refine (tree_c 4 _ _ _ _).mono ?_; rintro e w2 ⟨rfl, hb0⟩; (have BW2 := Lib.hid (BW1.out.trans ((below_al hb0).mono BW1.out.size)); have HM2 := Lib.hid (HM1.out.below (below_al hb0)); have Tst := Lib.hid (Kd.K_below _ hb0 (K_tree1 (k := 4) (Blk.new _ _ _) (Kd.K_below _ (below_a1 _ _) (Kst.out)))); clear hb0))
          | (go_at_call 20; (have hguard := BW0; clear hguard); refine (of_b c c _).mono ?_; rintro e w1 ⟨q1, rfl, hq, hb0⟩; (have BW1 := Lib.hid (BW0.out.trans (hb0.mono BW0.out.size)); have HM1 := Lib.hid (HM0.out.below hb0); have Kst := Lib.hid (K_of (lo := c) (hi := c) hq); clear hq hb0)))
        all_goals
          go_ret
          exact ⟨rfl, BW15.out⟩

end Go.Proofs.Ytmhodkkfbbpgaaa.Nm
