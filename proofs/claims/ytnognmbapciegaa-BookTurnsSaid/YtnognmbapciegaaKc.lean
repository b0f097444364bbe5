/- The document's GetNum, GetText. The document's GetText. The document's Decides, and its rule of names. The document's Join. The document's Num, num, Text. The document's number behind bytes. The document's text behind its length. -/
import Derived.Test.YtnognmbapciegaaKb
namespace Go.Proofs.Ytnognmbapciegaa.Bk
open Go.RowKit Go.Proofs.YtnognmbapciegaaW.PrintWords Go.Proofs.YtnognmbapciegaaW.PrintLast Go.Proofs.YtnognmbapciegaaW.PrintMore Go.Proofs.Ytnognmbapciegaa.PBk
set_option linter.unusedVariables false
set_option linter.unusedSimpArgs false

def gn (xs : List Int) : Int × Int := match get xs with
  | some (n, r) => (n, (xs.length : Int) - (r.length : Int))
  | none => (0, 0)
theorem rd_drop (xs : List Int) (k : Nat) (h : k < xs.length) : xs.drop k = rd xs (k : Int) :: xs.drop (k + 1) := by
  rw [List.drop_eq_getElem_cons h]
  congr 1
  simp [rd, List.getD_eq_getElem?_getD, List.getElem?_eq_getElem h]
theorem gn_none {xs : List Int} (h : get xs = none) : gn xs = (0, 0) := by unfold gn; rw [h]
theorem gn_some {xs : List Int} {n : Int} {k : Nat} (h : get xs = some (n, xs.drop (k + 1))) (hk : k < xs.length) : gn xs = (n, (k : Int) + 1) := by
  unfold gn
  rw [h]
  simp only [List.length_drop]
  congr 1
  omega
theorem get_none_of {xs : List Int} (h : rdF 9 xs = none) : get xs = none := by unfold get; rw [h]; rfl
theorem pow_min {k : Nat} (h : k ≤ 8) : (128 : Int) ^ (min k 8) = 128 ^ k := by rw [Nat.min_eq_left h]
set_option maxHeartbeats 400000 in
theorem getnum_any (w : World) (A : Option Addr) (c : Nat) (xs : List Int) (hC : Kd.C (Kd.int .u8) w A xs.length xs) (hy : By xs) (hl : xs.length ≤ 140737488355328) : Calls Try.prog 49 #[.slice A xs.length c] w fun e w' => e = .returned (.tuple #[.int .i64 (gn xs).1, .int .i64 (gn xs).2]) ∧ w' = w := by
  obtain ⟨R1, hR1⟩ : ∃ R, R = (gn xs).1 := ⟨_, rfl⟩
  obtain ⟨R2, hR2⟩ : ∃ R, R = (gn xs).2 := ⟨_, rfl⟩
  rw [← hR1, ← hR2]
  have HR1 := Lib.hid hR1
  have HR2 := Lib.hid hR2
  clear hR1 hR2
  go_enter Try.func49, Try.ntmps49
  go_wp2_with fail
  go_loopw [4, 5, 6] (fun n u i wr => ∃ (k : Nat) (U V : Int), n = .int .i64 U ∧ u = .int .i64 V ∧ i = .int .i64 (k : Int) ∧ k ≤ 9 ∧ k ≤ xs.length ∧ 0 ≤ U ∧ Hid (U < 128 ^ k) ∧ Hid (V = 128 ^ (min k 8)) ∧ Hid (rdF 9 xs = cont k U (xs.drop k)) ∧ wr = w) (fun _ _ i _ => 9 - (iOf i).toNat)
  case atStart => exact ⟨0, 0, 1, rfl, rfl, rfl, by omega, by omega, by omega, Lib.hid (by decide), Lib.hid rfl, Lib.hid (by rw [List.drop_zero]; exact (cont_zero xs).symm), rfl⟩
  case round =>
    obtain ⟨k, U, V, rfl, rfl, rfl, hk9, hkl, hU0, HU, HV, HE, rfl⟩ := hrel
    by_cases hlt : k < xs.length
    · have g1 : decide ((k : Int) < (xs.length : Int)) = true := by simp; omega
      by_cases h9 : k < 9
      · have g2 : decide ((k : Int) < 9) = true := by simp; omega
        have hd := rd_drop xs k hlt
        obtain ⟨ad, rfl, f0⟩ := ReadsInt.at_ (k := .u8) (Kd.reads_of_C (enc := Value.int .u8) (d := (0 : Int)) (h1 := fun _ => rfl) hC) (k : Int) (by omega) (by omega)
        obtain ⟨c0, hc⟩ : ∃ c0, rd xs (k : Int) = c0 := ⟨_, rfl⟩
        rw [hc] at f0 hd
        simp only [Int.toNat_natCast] at f0
        have hb0 : 0 ≤ c0 ∧ c0 < 256 := hy c0 (List.mem_of_mem_drop (i := k) (by rw [hd]; simp))
        have HD := Lib.hid hd
        clear hd hc
        have hV : V = 128 ^ k := by rw [HV.out, pow_min (by omega)]
        obtain ⟨D, hD⟩ : ∃ D, D = 128 ^ k * (c0 % 128) := ⟨_, rfl⟩
        obtain ⟨U2, hU2⟩ : ∃ U2, U2 = U + D := ⟨_, rfl⟩
        have hj := or_join h9 hU0 HU.out (d := c0 % 128) (by omega) (by omega)
        rw [← hD, ← hU2] at hj
        have hDm : c0 % 128 * V = D := by rw [hV, hD, Int.mul_comm]
        have hDp : 0 ≤ D := by rw [hD]; exact Int.mul_nonneg (Int.le_of_lt (Int.pow_pos (by omega))) (by omega)
        have w1 : wrap64 (c0 % 128 * V) = D := by rw [hDm]; unfold wrap64; omega
        have w2 : wrap64 (U + D) = U2 := by rw [← hU2]; unfold wrap64; omega
        have HDD := Lib.hid hD
        have HUU := Lib.hid hU2
        have HJ := Lib.hid hj
        have HVk := Lib.hid hV
        have HE2 := HE.out
        rw [HD.out] at HE2
        have HF := Lib.hid HE2
        clear hD hU2 hj hV hDm hDp HE2 HE HD
        by_cases hs : k = 8 ∧ c0 % 128 > 64
        · have g3 : ((k : Int) == 8) = true := by simp; omega
          have g4 : decide (c0 % 128 > 64) = true := by simp; omega
          have HG : Hid (get xs = none) := by
            refine Lib.hid ?_
            by_cases hc : c0 < 128
            · rw [num_done HF.out h9 hc hb0.1 HDD.out HUU.out, if_neg]
              have h8 : (128 : Int) ^ k = 72057594037927936 := by rw [hs.1]; rfl
              have h7 := HDD.out
              have h6 := HUU.out
              rw [h8] at h7
              omega
            · refine get_none_of ?_
              rw [HF.out, cont_more h9 U c0 _ hc hb0.2 (hy.drop _), hs.1]
              rfl
          clear hs
          go_wp2_with fail
          go_ret2
          exact ⟨by rw [HR1.out, HR2.out, gn_none HG.out]; first | rfl | (simp; done) | (simp; omega), rfl⟩
        · have gB : (((k : Int) == 8) && decide (c0 % 128 > 64)) = false := by
            simp only [Bool.and_eq_false_iff, beq_eq_false_iff_ne, decide_eq_false_iff_not]
            omega
          have HS := Lib.hid hs
          clear hs
          by_cases h8 : k = 8
          · have g3 : ((k : Int) == 8) = true := by simp; omega
            have g4 : decide (c0 % 128 > 64) = false := by have := HS.out; simp; omega
            by_cases hc : c0 < 128
            · have g5 : decide (c0 < 128) = true := by simpa using hc
              by_cases hz : c0 = 0
              · have g6 : (c0 == 0) = true := by simpa using hz
                by_cases hk0 : 0 < k
                · have g7 : decide ((k : Int) > 0) = true := by simp; omega
                  have g7b : decide (k = 0) = false := by simp; omega
                  have g7c : decide (0 < k) = true := by simpa using hk0
                  have g7d : ¬ k = 0 := by omega
                  have HG : Hid (get xs = none) := Lib.hid (by rw [num_done HF.out h9 hc hb0.1 HDD.out HUU.out, if_neg (by omega)])
                  clear hc h8 hz hk0
                  go_wp2_with fail
                  go_ret2
                  exact ⟨by rw [HR1.out, HR2.out, gn_none HG.out]; first | rfl | (simp; done) | (simp; omega), rfl⟩
                · have g7 : decide ((k : Int) > 0) = false := by simp; omega
                  have g7b : decide (k = 0) = true := by simp; omega
                  have g7c : decide (0 < k) = false := by simpa using hk0
                  by_cases hu : U2 > 4611686018427387904
                  · have g8 : decide (U2 > 4611686018427387904) = true := by simpa using hu
                    have HG : Hid (get xs = none) := Lib.hid (by rw [num_done HF.out h9 hc hb0.1 HDD.out HUU.out, if_neg (by omega)])
                    clear hc h8 hz hk0 hu
                    go_wp2_with fail
                    go_ret2
                    exact ⟨by rw [HR1.out, HR2.out, gn_none HG.out]; first | rfl | (simp; done) | (simp; omega), rfl⟩
                  · have g8 : decide (U2 > 4611686018427387904) = false := by simpa using hu
                    have HG : Hid (gn xs = (U2, (k : Int) + 1)) := Lib.hid (gn_some (by rw [num_done HF.out h9 hc hb0.1 HDD.out HUU.out, if_pos (by omega)]) hlt)
                    clear hc h8 hz hk0 hu
                    go_wp2_with fail
                    go_ret2
                    exact ⟨by rw [HR1.out, HR2.out, HG.out]; first | rfl | (simp; done) | (simp; omega), rfl⟩
              · have g6 : (c0 == 0) = false := by simpa using hz
                by_cases hu : U2 > 4611686018427387904
                · have g8 : decide (U2 > 4611686018427387904) = true := by simpa using hu
                  have HG : Hid (get xs = none) := Lib.hid (by rw [num_done HF.out h9 hc hb0.1 HDD.out HUU.out, if_neg (by omega)])
                  clear hc h8 hz hu
                  go_wp2_with fail
                  go_ret2
                  exact ⟨by rw [HR1.out, HR2.out, gn_none HG.out]; first | rfl | (simp; done) | (simp; omega), rfl⟩
                · have g8 : decide (U2 > 4611686018427387904) = false := by simpa using hu
                  have HG : Hid (gn xs = (U2, (k : Int) + 1)) := Lib.hid (gn_some (by rw [num_done HF.out h9 hc hb0.1 HDD.out HUU.out, if_pos (by omega)]) hlt)
                  clear hc h8 hz hu
                  go_wp2_with fail
                  go_ret2
                  exact ⟨by rw [HR1.out, HR2.out, HG.out]; first | rfl | (simp; done) | (simp; omega), rfl⟩
            · have g5 : decide (c0 < 128) = false := by simpa using hc
              have HE3 : Hid (rdF 9 xs = cont (k + 1) U2 (xs.drop (k + 1))) := by
                refine Lib.hid ?_
                rw [HF.out, cont_more h9 U c0 _ hc hb0.2 (hy.drop _), HUU.out, HDD.out]
                have e : c0 % 128 = c0 - 128 := by omega
                rw [e]
              have g9 : decide ((k : Int) < 8) = false := by simp; omega
              have HV2 : Hid (V = 128 ^ (min (k + 1) 8)) := Lib.hid (by rw [HVk.out, show min (k + 1) 8 = k by omega])
              clear hc h8
              go_wp2_with fail
              go_roundw
              case rel => exact ⟨k + 1, U2, V, by first | rfl | rw [w2], rfl, by first | rfl | go_num, by omega, by omega, HJ.out.2.1, Lib.hid HJ.out.2.2.1, HV2, HE3, by first | rfl | trivial⟩
              case measure => simp [iOf]; omega
          · have g3 : ((k : Int) == 8) = false := by simp; omega
            by_cases hc : c0 < 128
            · have g5 : decide (c0 < 128) = true := by simpa using hc
              by_cases hz : c0 = 0
              · have g6 : (c0 == 0) = true := by simpa using hz
                by_cases hk0 : 0 < k
                · have g7 : decide ((k : Int) > 0) = true := by simp; omega
                  have g7b : decide (k = 0) = false := by simp; omega
                  have g7c : decide (0 < k) = true := by simpa using hk0
                  have g7d : ¬ k = 0 := by omega
                  have HG : Hid (get xs = none) := Lib.hid (by rw [num_done HF.out h9 hc hb0.1 HDD.out HUU.out, if_neg (by omega)])
                  clear hc h8 hz hk0
                  go_wp2_with fail
                  go_ret2
                  exact ⟨by rw [HR1.out, HR2.out, gn_none HG.out]; first | rfl | (simp; done) | (simp; omega), rfl⟩
                · have g7 : decide ((k : Int) > 0) = false := by simp; omega
                  have g7b : decide (k = 0) = true := by simp; omega
                  have g7c : decide (0 < k) = false := by simpa using hk0
                  by_cases hu : U2 > 4611686018427387904
                  · have g8 : decide (U2 > 4611686018427387904) = true := by simpa using hu
                    have HG : Hid (get xs = none) := Lib.hid (by rw [num_done HF.out h9 hc hb0.1 HDD.out HUU.out, if_neg (by omega)])
                    clear hc h8 hz hk0 hu
                    go_wp2_with fail
                    go_ret2
                    exact ⟨by rw [HR1.out, HR2.out, gn_none HG.out]; first | rfl | (simp; done) | (simp; omega), rfl⟩
                  · have g8 : decide (U2 > 4611686018427387904) = false := by simpa using hu
                    have HG : Hid (gn xs = (U2, (k : Int) + 1)) := Lib.hid (gn_some (by rw [num_done HF.out h9 hc hb0.1 HDD.out HUU.out, if_pos (by omega)]) hlt)
                    clear hc h8 hz hk0 hu
                    go_wp2_with fail
                    go_ret2
                    exact ⟨by rw [HR1.out, HR2.out, HG.out]; first | rfl | (simp; done) | (simp; omega), rfl⟩
              · have g6 : (c0 == 0) = false := by simpa using hz
                by_cases hu : U2 > 4611686018427387904
                · have g8 : decide (U2 > 4611686018427387904) = true := by simpa using hu
                  have HG : Hid (get xs = none) := Lib.hid (by rw [num_done HF.out h9 hc hb0.1 HDD.out HUU.out, if_neg (by omega)])
                  clear hc h8 hz hu
                  go_wp2_with fail
                  go_ret2
                  exact ⟨by rw [HR1.out, HR2.out, gn_none HG.out]; first | rfl | (simp; done) | (simp; omega), rfl⟩
                · have g8 : decide (U2 > 4611686018427387904) = false := by simpa using hu
                  have HG : Hid (gn xs = (U2, (k : Int) + 1)) := Lib.hid (gn_some (by rw [num_done HF.out h9 hc hb0.1 HDD.out HUU.out, if_pos (by omega)]) hlt)
                  clear hc h8 hz hu
                  go_wp2_with fail
                  go_ret2
                  exact ⟨by rw [HR1.out, HR2.out, HG.out]; first | rfl | (simp; done) | (simp; omega), rfl⟩
            · have g5 : decide (c0 < 128) = false := by simpa using hc
              have HE3 : Hid (rdF 9 xs = cont (k + 1) U2 (xs.drop (k + 1))) := by
                refine Lib.hid ?_
                rw [HF.out, cont_more h9 U c0 _ hc hb0.2 (hy.drop _), HUU.out, HDD.out]
                have e : c0 % 128 = c0 - 128 := by omega
                rw [e]
              have g9 : decide ((k : Int) < 8) = true := by simp; omega
              obtain ⟨V2, hV2⟩ : ∃ V2, V2 = V * 128 := ⟨_, rfl⟩
              have w3 : wrap64 (V * 128) = V2 := by
                have t1 : (128 : Int) ^ (k + 1) ≤ 128 ^ 8 := by exact_mod_cast Nat.pow_le_pow_right (n := 128) (by omega) (by omega : k + 1 ≤ 8)
                have t2 : (128 : Int) ^ 8 = 72057594037927936 := rfl
                have t3 : (0 : Int) < 128 ^ (k + 1) := Int.pow_pos (by omega)
                have t4 : V2 = 128 ^ (k + 1) := by rw [hV2, HVk.out, Int.pow_succ]
                rw [← hV2]
                unfold wrap64
                omega
              have HV2 : Hid (V2 = 128 ^ (min (k + 1) 8)) := Lib.hid (by rw [hV2, HVk.out, pow_min (by omega), Int.pow_succ])
              clear hV2
              clear hc h8
              go_wp2_with fail
              go_roundw
              case rel => exact ⟨k + 1, U2, V2, by first | rfl | rw [w2], by first | rfl | rw [w3], by first | rfl | go_num, by omega, by omega, HJ.out.2.1, Lib.hid HJ.out.2.2.1, HV2, HE3, by first | rfl | trivial⟩
              case measure => simp [iOf]; omega
      · have g2 : decide ((k : Int) < 9) = false := by simp; omega
        have HG : Hid (get xs = none) := Lib.hid (get_none_of (by rw [HE.out, show k = 9 by omega]; rfl))
        go_wp2_with fail
        go_ret2
        exact ⟨by rw [HR1.out, HR2.out, gn_none HG.out]; first | rfl | (simp; done) | (simp; omega), rfl⟩
    · have g1 : decide ((k : Int) < (xs.length : Int)) = false := by simp; omega
      have HG : Hid (get xs = none) := Lib.hid (get_none_of (by rw [HE.out, List.drop_eq_nil_of_le (by omega)]; exact cont_nil _ _))
      go_wp2_with fail
      go_ret2
      exact ⟨by rw [HR1.out, HR2.out, gn_none HG.out]; first | rfl | (simp; done) | (simp; omega), rfl⟩
end Go.Proofs.Ytnognmbapciegaa.Bk
namespace Go.Proofs.Ytnognmbapciegaa.Bk
open Go.RowKit Go.Proofs.YtnognmbapciegaaW.PrintWords Go.Proofs.YtnognmbapciegaaW.PrintLast Go.Proofs.YtnognmbapciegaaW.PrintMore Go.Proofs.Ytnognmbapciegaa.PBk
set_option linter.unusedVariables false
set_option linter.unusedSimpArgs false

def gt (most : Int) (xs : List Int) : ByteArray × Int := match getT most xs with
  | some (s, r) => (s, (xs.length : Int) - (r.length : Int))
  | none => (⟨#[]⟩, 0)
theorem gt_none {most : Int} {xs : List Int} (h : getT most xs = none) : gt most xs = (⟨#[]⟩, 0) := by unfold gt; rw [h]
theorem gn_none' {xs : List Int} (h : get xs = none) : gn xs = (0, 0) := gn_none h
set_option maxHeartbeats 400000 in
theorem gettext_any (w : World) (A : Option Addr) (c : Nat) (xs : List Int) (most : Int) (hC : Kd.C (Kd.int .u8) w A xs.length xs) (hc : xs.length ≤ c) (hy : By xs) (hl : xs.length ≤ 140737488355328) : Calls Try.prog 50 #[.slice A xs.length c, .int .i64 most] w fun e w' => e = .returned (.tuple #[.string (gt most xs).1, .int .i64 (gt most xs).2]) ∧ w' = w := by
  have HN := Lib.hid (getnum_any w A c xs hC hy hl)
  cases hg : get xs with
  | none =>
    rw [gn_none hg] at HN
    rw [gt_none (getT_none (getI_none most hg))]
    clear hg
    go_enter Try.func50, Try.ntmps50
    go_wp2_with (first | (go_at_call 49; refine HN.out.mono ?_; rintro e w2 ⟨rfl, rfl⟩))
    go_ret2
    exact ⟨rfl, rfl⟩
  | some q =>
    obtain ⟨n, r⟩ := q
    have hgl := get_len hy hg
    have hgi := get_inv _ _ _ hy hg
    have hgn : gn xs = (n, (xs.length : Int) - (r.length : Int)) := by unfold gn; rw [hg]
    rw [hgn] at HN
    obtain ⟨K, hK⟩ : ∃ K, K = (xs.length : Int) - (r.length : Int) := ⟨_, rfl⟩
    simp only [← hK] at HN
    have k0 : (K == 0) = false := by simp; omega
    by_cases h1 : n ≤ most
    · have g1 : decide (n > most) = false := by simp; omega
      have hw : wrap64 ((xs.length : Int) - K) = (xs.length : Int) - K := by unfold wrap64; omega
      by_cases h2 : n ≤ (r.length : Int)
      · have g2 : decide (n > (xs.length : Int) - K) = false := by simp; omega
        have hKn : K = ((num n).length : Int) := by rw [hK, hgi.1, List.length_append]; omega
        have hw2 : wrap64 (K + n) = K + n := by unfold wrap64; omega
        obtain ⟨i05, hi05, _, hsz5, _⟩ := info_parts info5
        obtain ⟨A', hrun, hreads, hlen⟩ := print_mid_of (P := Try.prog) (Value.int .u8) (0 : Int) 28 5 .i64 .i64 Try.underlying28 hi05 hsz5 A c xs K (K + n) (by omega) (by omega) (by omega) hc
        have hcv := Kd.C_string (c := c - K.toNat) Try.underlying28 Try.underlying5 Try.underlying9 (Kd.C_of_reads (enc := Value.int .u8) (d := (0 : Int)) (h1 := fun _ => rfl) (hreads w (Kd.reads_of_C (enc := Value.int .u8) (d := (0 : Int)) (h1 := fun _ => rfl) hC)))
        obtain ⟨S, hS⟩ : ∃ S, S = strOfNums ((xs.take (K + n).toNat).drop K.toNat) := ⟨_, rfl⟩
        obtain ⟨L, hL⟩ : ∃ L, L = ((xs.take (K + n).toNat).drop K.toNat).length := ⟨_, rfl⟩
        rw [← hL, ← hS] at hcv
        rw [← hL] at hrun
        have hT : gt most xs = (S, K + n) := by
          have e1 : getT most xs = some (strOfNums (r.take n.toNat), r.drop n.toNat) := by rw [getT_eq (show getI most xs = some (n, r) by rw [getI_eq most hg, if_pos h1]), if_pos h2]
          have e2 : (xs.take (K + n).toNat).drop K.toNat = r.take n.toNat := by
            have t1 : K.toNat = (num n).length := by omega
            have t2 : (K + n).toNat = (num n).length + n.toNat := by omega
            rw [t1, t2, hgi.1, List.take_length_add_append, List.drop_left]
          unfold gt
          rw [e1, hS, e2]
          simp only [List.length_drop]
          congr 1
          omega
        have HT := Lib.hid hT
        rw [hT]
        clear hg hgn hK h1 h2 hT hgi hgl hKn hS hL hreads hlen
        go_enter Try.func50, Try.ntmps50
        go_wp2_with (first | (go_at_call 49; refine HN.out.mono ?_; rintro e w2 ⟨rfl, rfl⟩))
        go_ret2
        exact ⟨by simp [hw2], rfl⟩
      · have g2 : decide (n > (xs.length : Int) - K) = true := by simp; omega
        have hT : getT most xs = none := by rw [getT_eq (show getI most xs = some (n, r) by rw [getI_eq most hg, if_pos h1]), if_neg h2]
        rw [gt_none hT]
        clear hg hgn hK h1 h2 hT hgi hgl
        go_enter Try.func50, Try.ntmps50
        go_wp2_with (first | (go_at_call 49; refine HN.out.mono ?_; rintro e w2 ⟨rfl, rfl⟩))
        go_ret2
        exact ⟨rfl, rfl⟩
    · have g1 : decide (n > most) = true := by simp; omega
      have hT : getT most xs = none := getT_none (by rw [getI_eq most hg, if_neg h1])
      rw [gt_none hT]
      clear hg hgn hK h1 hT hgi hgl
      go_enter Try.func50, Try.ntmps50
      go_wp2_with (first | (go_at_call 49; refine HN.out.mono ?_; rintro e w2 ⟨rfl, rfl⟩))
      go_ret2
      exact ⟨rfl, rfl⟩
end Go.Proofs.Ytnognmbapciegaa.Bk
namespace Go.Proofs.Ytnognmbapciegaa.Bk
open Go.RowKit Go.Proofs.YtnognmbapciegaaW.PrintWords Go.Proofs.YtnognmbapciegaaW.PrintLast Go.Proofs.YtnognmbapciegaaW.PrintMore Go.Proofs.Ytnognmbapciegaa.PBk
set_option linter.unusedVariables false
set_option linter.unusedSimpArgs false

theorem refDecides_any (e : S44) (w : World) : Calls Try.prog 41 #[evV e] w fun e' w' => e' = .returned (.bool (decR e)) ∧ Below w.heap.size w w' := by
  obtain ⟨k, n, s, a⟩ := e
  unfold evV
  have hk : k = 5 ∨ k = 6 ∨ k = 7 ∨ k = 8 ∨ k = 9 ∨ k = 11 ∨ k = 12 ∨ k = 13 ∨ (¬ k = 5 ∧ ¬ k = 6 ∧ ¬ k = 7 ∧ ¬ k = 8 ∧ ¬ k = 9 ∧ ¬ k = 11 ∧ ¬ k = 12 ∧ ¬ k = 13) := by omega
  obtain ⟨b, hb⟩ : ∃ b, decR ⟨k, n, s, a⟩ = b := ⟨_, rfl⟩
  rw [hb]
  have HB := Lib.hid hb
  clear hb
  rcases hk with rfl | rfl | rfl | rfl | rfl | rfl | rfl | rfl | ⟨k5, k6, k7, k8, k9, k11, k12, k13⟩
  case inr.inr.inr.inr.inr.inr.inr.inr =>
    have e5 : (k == 5) = false := by simpa using k5
    have e6 : (k == 6) = false := by simpa using k6
    have e7 : (k == 7) = false := by simpa using k7
    have e8 : (k == 8) = false := by simpa using k8
    have e9 : (k == 9) = false := by simpa using k9
    have e11 : (k == 11) = false := by simpa using k11
    have e12 : (k == 12) = false := by simpa using k12
    have e13 : (k == 13) = false := by simpa using k13
    go_enter Try.func41, Try.ntmps41
    go_wp2
    go_ret
    refine ⟨?_, al_below _ _⟩
    rw [← HB.out]
    clear HB
    simp_all [decR, endsK]
  all_goals
    go_enter Try.func41, Try.ntmps41
    go_wp2
    go_ret
    refine ⟨?_, al_below _ _⟩
    rw [← HB.out]
    clear HB
    simp [decR, endsK]
theorem refName_any (s : ByteArray) (w : World) : Calls Try.prog 17 #[.string s] w fun e' w' => e' = .returned (.bool (decide (0 < s.size) && decide (s.size ≤ 80))) ∧ w' = w := by
  cases g1 : decide ((s.size : Int) > 0) with
  | true =>
    have h1 : decide (0 < s.size) = true := decide_eq_true (by have := of_decide_eq_true g1; omega)
    rw [h1]
    go_enter Try.func17, Try.ntmps17
    go_wp2
    go_ret
    exact ⟨by simp; omega, rfl⟩
  | false =>
    have h1 : decide (0 < s.size) = false := decide_eq_false (fun h => by have := of_decide_eq_false g1; omega)
    rw [h1]
    go_enter Try.func17, Try.ntmps17
    go_wp2
    go_ret
    exact ⟨by simp, rfl⟩
end Go.Proofs.Ytnognmbapciegaa.Bk
namespace Go.Proofs.Ytnognmbapciegaa.Bk
open Go.RowKit Go.Proofs.YtnognmbapciegaaW.PrintWords Go.Proofs.YtnognmbapciegaaW.PrintLast Go.Proofs.YtnognmbapciegaaW.PrintMore Go.Proofs.Ytnognmbapciegaa.PBk
set_option linter.unusedVariables false
set_option linter.unusedSimpArgs false

theorem rd_take (xs : List Int) (k : Nat) (h : k < xs.length) : xs.take (k + 1) = xs.take k ++ [rd xs (k : Int)] := by
  rw [List.take_succ_eq_append_getElem h]
  congr 2
  simp [rd, List.getD_eq_getElem?_getD, List.getElem?_eq_getElem h]
set_option maxHeartbeats 400000 in
theorem join_any (w : World) (A1 : Option Addr) (m1 c1 : Nat) (xs : List Int) (A2 : Option Addr) (m2 c2 : Nat) (ys : List Int) (hm1 : m1 = xs.length) (hC1 : Kd.C (Kd.int .u8) w A1 m1 xs) (hm2 : m2 = ys.length) (hC2 : Kd.C (Kd.int .u8) w A2 m2 ys) (hl : xs.length + ys.length ≤ 35184372088832) : Calls Try.prog 35 #[.slice A1 m1 c1, .slice A2 m2 c2] w fun e w' => Made w w' (xs ++ ys) e := by
  have h1 : m1 ≤ 35184372088832 := by omega
  have h2 : m2 ≤ 35184372088832 := by omega
  have HM1 := Lib.hid hm1
  have HM2 := Lib.hid hm2
  have HL := Lib.hid hl
  clear hm1 hm2 hl
  go_enter Try.func35, Try.ntmps35
  go_wp2_with (first
    | ((with_reducible refine gate_dst (N := 8) rfl ?_); go_loud (refine Kd.R_lit (Kd.int .u8) w.heap.size 5 ?hg (N := 8) ?hd (xs := ([] : List Int)) (inner := []) (ok := fun _ => True) (okp := fun _ => True) ?hr ?hp (fun _ hk => hk) trivial (Below.refl w.heap.size w) (Nat.le_refl _) (by simp) ?_; (case hd => rfl); (case hg => rfl); (case hr => first | (go_simp; done) | (go_simp; rfl)); (case hp => exact (Reps.none _ _)); intro v5 w5 hr5 hb5 _ _; (obtain ⟨A5, n5, c5, rfl⟩ : ∃ A n c, v5 = .slice A n c := by obtain ⟨A, c, e⟩ := Kd.R_slice hr5; exact ⟨A, _, c, e⟩); have HR5 := Lib.hid hr5; have HB5 := Lib.hid hb5; clear hr5 hb5)))
  go_loopw [5, 6] (fun o i wr => ∃ (k : Nat) (A5 : Option Addr) (n5 c5 : Nat), o = .slice A5 n5 c5 ∧ i = .int .i64 (k : Int) ∧ k ≤ m1 ∧ Hid (Own wr w.heap.size (.slice A5 n5 c5) (xs.take k)) ∧ Hid (Below w.heap.size w wr)) (fun _ i _ => m1 - (iOf i).toNat)
  case atStart => exact ⟨0, A5, n5, c5, rfl, rfl, by omega, HR5, HB5⟩
  case round =>
    clear HR5 HB5
    obtain ⟨k, A5, n5, c5, rfl, rfl, hk, HO, HB⟩ := hrel
    by_cases hlt : k < m1
    · obtain ⟨ad, rfl, f0⟩ := ReadsInt.at_ (k := .u8) (Kd.reads_of_C (enc := Value.int .u8) (d := (0 : Int)) (h1 := fun _ => rfl) (Kd.C_below hC1 HB.out)) (k : Int) (by omega) (by omega)
      obtain ⟨x, hx⟩ : ∃ x, rd xs (k : Int) = x := ⟨_, rfl⟩
      rw [hx] at f0
      simp only [Int.toNat_natCast] at f0
      have HT := Lib.hid (rd_take xs k (by have := HM1.out; omega))
      have HX := Lib.hid hx
      have HN : Hid (((xs.take k).length + 1) * 1 ≤ 140737488355328) := Lib.hid (by rw [List.length_take]; omega)
      clear hx
      go_wp2_with (first
        | ((with_reducible refine gate_builtin (b := .append) (xs := #[.tmp 15, .tmp 20]) rfl ?_); at_builtin; go_loud (refine Kd.R_append (Kd.int .u8) (w0 := w) w.heap.size rfl (.tmp 15) (.tmp 20) 28 5 (.int .u8 0) 1 rfl Try.underlying28 info5 rfl (by decide) (by omega) (.slice A5 n5 c5) (xs.take k) x [.int .u8 x] (fun _ => True) (fun _ => False) rfl rfl ?aP (fun _ hk => hk.elim) ?aF ?aO ?aB ?aS ?aL ?_; (case aP => exact rfl); (case aF => exact fun _ _ => trivial); (case aO => exact HO.out); (case aB => exact HB.out); (case aS => exact HB.out.size); (case aL => exact HN.out); intro v6 w6 hr6 hb6 _ _; (obtain ⟨A6, n6, c6, rfl⟩ : ∃ A n c, v6 = .slice A n c := by obtain ⟨A, c, e⟩ := Kd.R_slice hr6; exact ⟨A, _, c, e⟩); have HR6 := Lib.hid hr6; have HB6 := Lib.hid hb6; clear hr6 hb6)))
      go_roundw
      case rel => exact ⟨k + 1, A6, n6, c6, rfl, by first | rfl | go_num, by omega, Lib.hid (by rw [HT.out, HX.out]; exact HR6.out), HB6⟩
      case measure => simp [iOf]; omega
    · have hkm : k = m1 := by omega
      have HO1 : Hid (Own wr w.heap.size (.slice A5 n5 c5) (xs ++ ys.take 0)) := by
        have := HO.out
        rw [hkm, HM1.out, List.take_length] at this
        exact Lib.hid (by simpa using this)
      have g1 : decide ((k : Int) < (m1 : Int)) = false := by simp; omega
      clear hkm
      go_wp2_with fail
      go_loopw [5, 7] (fun o i wr => ∃ (j : Nat) (A5 : Option Addr) (n5 c5 : Nat), o = .slice A5 n5 c5 ∧ i = .int .i64 (j : Int) ∧ j ≤ m2 ∧ Hid (Own wr w.heap.size (.slice A5 n5 c5) (xs ++ ys.take j)) ∧ Hid (Below w.heap.size w wr)) (fun _ i _ => m2 - (iOf i).toNat)
      case atStart => exact ⟨0, A5, n5, c5, rfl, rfl, by omega, HO1, HB⟩
      case round =>
        clear HO1 HO HB
        obtain ⟨j, A5, n5, c5, rfl, rfl, hj, HO, HB⟩ := hrel
        by_cases hlj : j < m2
        · obtain ⟨ad, rfl, f0⟩ := ReadsInt.at_ (k := .u8) (Kd.reads_of_C (enc := Value.int .u8) (d := (0 : Int)) (h1 := fun _ => rfl) (Kd.C_below hC2 HB.out)) (j : Int) (by omega) (by omega)
          obtain ⟨x, hx⟩ : ∃ x, rd ys (j : Int) = x := ⟨_, rfl⟩
          rw [hx] at f0
          simp only [Int.toNat_natCast] at f0
          have HT := Lib.hid (rd_take ys j (by have := HM2.out; omega))
          have HX := Lib.hid hx
          have HN : Hid (((xs ++ ys.take j).length + 1) * 1 ≤ 140737488355328) := Lib.hid (by have := HL.out; rw [List.length_append, List.length_take]; omega)
          clear hx
          go_wp2_with (first
            | ((with_reducible refine gate_builtin (b := .append) (xs := #[.tmp 28, .tmp 33]) rfl ?_); at_builtin; go_loud (refine Kd.R_append (Kd.int .u8) (w0 := w) w.heap.size rfl (.tmp 28) (.tmp 33) 28 5 (.int .u8 0) 1 rfl Try.underlying28 info5 rfl (by decide) (by omega) (.slice A5 n5 c5) (xs ++ ys.take j) x [.int .u8 x] (fun _ => True) (fun _ => False) rfl rfl ?aP (fun _ hk => hk.elim) ?aF ?aO ?aB ?aS ?aL ?_; (case aP => exact rfl); (case aF => exact fun _ _ => trivial); (case aO => exact HO.out); (case aB => exact HB.out); (case aS => exact HB.out.size); (case aL => exact HN.out); intro v6 w6 hr6 hb6 _ _; (obtain ⟨A6, n6, c6, rfl⟩ : ∃ A n c, v6 = .slice A n c := by obtain ⟨A, c, e⟩ := Kd.R_slice hr6; exact ⟨A, _, c, e⟩); have HR6 := Lib.hid hr6; have HB6 := Lib.hid hb6; clear hr6 hb6)))
          go_roundw
          case rel => exact ⟨j + 1, A6, n6, c6, rfl, by first | rfl | go_num, by omega, Lib.hid (by rw [HT.out, HX.out, ← List.append_assoc]; exact HR6.out), HB6⟩
          case measure => simp [iOf]; omega
        · have hjm : j = m2 := by omega
          have HF : Hid (Own wr w.heap.size (.slice A5 n5 c5) (xs ++ ys)) := by
            have := HO.out
            rw [hjm, HM2.out, List.take_length] at this
            exact Lib.hid this
          have g2 : decide ((j : Int) < (m2 : Int)) = false := by simp; omega
          clear hjm
          go_wp2_with fail
          go_ret
          exact made_of HF.out HB.out
end Go.Proofs.Ytnognmbapciegaa.Bk
namespace Go.Proofs.Ytnognmbapciegaa.Bk
open Go.RowKit Go.Proofs.YtnognmbapciegaaW.PrintWords Go.Proofs.YtnognmbapciegaaW.PrintLast Go.Proofs.YtnognmbapciegaaW.PrintMore Go.Proofs.Ytnognmbapciegaa.PBk
set_option linter.unusedVariables false
set_option linter.unusedSimpArgs false

set_option maxHeartbeats 400000 in
theorem rnum_any (w : World) (n : Int) : Calls Try.prog 34 #[.int .i64 n] w fun e w' => Made w w' (num n) e := by
  obtain ⟨N, hN⟩ : ∃ N, N = clamp n := ⟨_, rfl⟩
  have hN0 : 0 ≤ N ∧ N ≤ 4611686018427387904 := by rw [hN]; unfold clamp; omega
  have HNN : Hid (N = min (max n 0) 4611686018427387904) := Lib.hid (by rw [hN]; unfold clamp; rfl)
  have HI : Hid (∀ (v : Value) (w' : World), Own w' w.heap.size v [] → Below w.heap.size w w' → PutInv w w.heap.size [] (num n) 0 N v w') := by
    refine Lib.hid fun v w' h1 h2 => ⟨by omega, hN0.1, ?_, [], ?_, by simp, h1, h2⟩
    · have e9 : (128 : Int) ^ (9 - 0) = 9223372036854775808 := rfl
      omega
    · rw [hN]; rfl
  clear hN
  have key : n < 0 ∨ (¬ n < 0 ∧ n > 4611686018427387904) ∨ (¬ n < 0 ∧ ¬ n > 4611686018427387904) := by omega
  rcases key with h | h | h
  · have g1 : decide (n < 0) = true := by simpa using h
    go_enter Try.func34, Try.ntmps34
    go_wp2_with (first
      | ((with_reducible refine gate_dst (N := 8) rfl ?_); go_loud (refine Kd.R_lit (Kd.int .u8) w.heap.size 5 ?hg (N := 8) ?hd (xs := ([] : List Int)) (inner := []) (ok := fun _ => True) (okp := fun _ => True) ?hr ?hp (fun _ hk => hk) trivial (Below.refl w.heap.size w) (Nat.le_refl _) (by simp) ?_; (case hd => rfl); (case hg => rfl); (case hr => first | (go_simp; done) | (go_simp; rfl)); (case hp => exact (Reps.none _ _)); intro v5 w5 hr5 hb5 _ _; (obtain ⟨A5, n5, c5, rfl⟩ : ∃ A n c, v5 = .slice A n c := by obtain ⟨A, c, e⟩ := Kd.R_slice hr5; exact ⟨A, _, c, e⟩); have HR5 := Lib.hid hr5; have HB5 := Lib.hid hb5; clear hr5 hb5)))
    have HP : Hid (PutInv w w.heap.size [] (num n) 0 0 (.slice A5 n5 c5) w5) := by
      have e : N = 0 := by have := HNN.out; omega
      have h := HI.out _ _ HR5.out HB5.out
      rw [e] at h
      exact Lib.hid h
    clear HI HNN HR5 HB5
    go_loopw [0, 3] (fun u o wr => ∃ (i : Nat) (U : Int) (A5 : Option Addr) (n5 c5 : Nat), u = .int .i64 U ∧ o = .slice A5 n5 c5 ∧ Hid (PutInv w w.heap.size [] (num n) i U (.slice A5 n5 c5) wr)) (fun u _ _ => (iOf u).toNat)
    case atStart => exact ⟨0, 0, A5, n5, c5, rfl, rfl, HP⟩
    case round =>
      clear HP
      obtain ⟨i, U, A5, n5, c5, rfl, rfl, HP⟩ := hrel
      obtain ⟨hi8, hU0, hUb, ys, hys, hyl, hown, hbel⟩ := HP.out
      have hbig := put_big HP.out
      have HO := Lib.hid hown
      have HW := Lib.hid hbel
      have HL : Hid ((ys.length + 1) * 1 ≤ 140737488355328) := Lib.hid (by simp at hyl; omega)
      have HY := Lib.hid hys
      have HYL := Lib.hid hyl
      clear hown hbel hys hyl
      by_cases hU : U < 128
      · have g1 : decide (U ≥ 128) = false := by simp; omega
        have g2 : U % 256 = U := by omega
        have HX : Hid (ys ++ [U] = num n) := Lib.hid (by rw [← HY.out, leb_last hU])
        clear hU hUb
        go_wp2_with (first
          | ((with_reducible refine gate_builtin (b := .append) (xs := #[.tmp 20, .tmp 23]) rfl ?_); at_builtin; go_loud (refine Kd.R_append (Kd.int .u8) (w0 := w) w.heap.size rfl (.tmp 20) (.tmp 23) 28 5 (.int .u8 0) 1 rfl Try.underlying28 info5 rfl (by decide) (by omega) (.slice A5 n5 c5) (ys) U [.int .u8 U] (fun _ => True) (fun _ => False) rfl rfl ?aP (fun _ hk => hk.elim) ?aF ?aO ?aB ?aS ?aL ?_; (case aP => exact rfl); (case aF => exact fun _ _ => trivial); (case aO => exact HO.out); (case aB => exact HW.out); (case aS => exact HW.out.size); (case aL => exact HL.out); intro v6 w6 hr6 hb6 _ _; (obtain ⟨A6, n6, c6, rfl⟩ : ∃ A n c, v6 = .slice A n c := by obtain ⟨A, c, e⟩ := Kd.R_slice hr6; exact ⟨A, _, c, e⟩); have HR6 := Lib.hid hr6; have HB6 := Lib.hid hb6; clear hr6 hb6)))
        go_ret
        exact made_of (by rw [← HX.out]; exact HR6.out) HB6.out
      · have g1 : decide (U ≥ 128) = true := by simp; omega
        have hps := Lib.hid (And.intro (show (128 : Int) ≤ U by omega) (put_small HP.out hU))
        have b1 : (U % 128 + 128) % 256 = U % 128 + 128 := by omega
        have b2 : wrap64 (U % 128 + 128) = U % 128 + 128 := by unfold wrap64; omega
        have b3 : wrap64 (U / 128) = U / 128 := by unfold wrap64; omega
        have b4 : U.tmod 128 = U % 128 := Int.tmod_eq_emod_of_nonneg hU0
        have b5 : U.tdiv 128 = U / 128 := Int.tdiv_eq_ediv_of_nonneg hU0
        clear hU hUb
        go_wp2_with (first
          | ((with_reducible refine gate_builtin (b := .append) (xs := #[.tmp 11, .tmp 16]) rfl ?_); at_builtin; go_loud (refine Kd.R_append (Kd.int .u8) (w0 := w) w.heap.size rfl (.tmp 11) (.tmp 16) 28 5 (.int .u8 0) 1 rfl Try.underlying28 info5 rfl (by decide) (by omega) (.slice A5 n5 c5) (ys) (U % 128 + 128) [.int .u8 (U % 128 + 128)] (fun _ => True) (fun _ => False) rfl rfl ?aP (fun _ hk => hk.elim) ?aF ?aO ?aB ?aS ?aL ?_; (case aP => exact rfl); (case aF => exact fun _ _ => trivial); (case aO => exact HO.out); (case aB => exact HW.out); (case aS => exact HW.out.size); (case aL => exact HL.out); intro v6 w6 hr6 hb6 _ _; (obtain ⟨A6, n6, c6, rfl⟩ : ∃ A n c, v6 = .slice A n c := by obtain ⟨A, c, e⟩ := Kd.R_slice hr6; exact ⟨A, _, c, e⟩); have HR6 := Lib.hid hr6; have HB6 := Lib.hid hb6; clear hr6 hb6)))
        go_roundw
        case rel => exact ⟨i + 1, U / 128, A6, n6, c6, by first | rfl | simp [b3, b5], rfl, Lib.hid (put_next HP.out HY.out HYL.out hps.out HR6.out HB6.out)⟩
        case measure => have := hps.out.1; simp [iOf, b3, b5]; omega
  · have g1 : decide (n < 0) = false := by simpa using h.1
    have g2 : decide (n > 4611686018427387904) = true := by simpa using h.2
    go_enter Try.func34, Try.ntmps34
    go_wp2_with (first
      | ((with_reducible refine gate_dst (N := 8) rfl ?_); go_loud (refine Kd.R_lit (Kd.int .u8) w.heap.size 5 ?hg (N := 8) ?hd (xs := ([] : List Int)) (inner := []) (ok := fun _ => True) (okp := fun _ => True) ?hr ?hp (fun _ hk => hk) trivial (Below.refl w.heap.size w) (Nat.le_refl _) (by simp) ?_; (case hd => rfl); (case hg => rfl); (case hr => first | (go_simp; done) | (go_simp; rfl)); (case hp => exact (Reps.none _ _)); intro v5 w5 hr5 hb5 _ _; (obtain ⟨A5, n5, c5, rfl⟩ : ∃ A n c, v5 = .slice A n c := by obtain ⟨A, c, e⟩ := Kd.R_slice hr5; exact ⟨A, _, c, e⟩); have HR5 := Lib.hid hr5; have HB5 := Lib.hid hb5; clear hr5 hb5)))
    have HP : Hid (PutInv w w.heap.size [] (num n) 0 4611686018427387904 (.slice A5 n5 c5) w5) := by
      have e : N = 4611686018427387904 := by have := HNN.out; omega
      have h := HI.out _ _ HR5.out HB5.out
      rw [e] at h
      exact Lib.hid h
    clear HI HNN HR5 HB5
    go_loopw [0, 3] (fun u o wr => ∃ (i : Nat) (U : Int) (A5 : Option Addr) (n5 c5 : Nat), u = .int .i64 U ∧ o = .slice A5 n5 c5 ∧ Hid (PutInv w w.heap.size [] (num n) i U (.slice A5 n5 c5) wr)) (fun u _ _ => (iOf u).toNat)
    case atStart => exact ⟨0, 4611686018427387904, A5, n5, c5, rfl, rfl, HP⟩
    case round =>
      clear HP
      obtain ⟨i, U, A5, n5, c5, rfl, rfl, HP⟩ := hrel
      obtain ⟨hi8, hU0, hUb, ys, hys, hyl, hown, hbel⟩ := HP.out
      have hbig := put_big HP.out
      have HO := Lib.hid hown
      have HW := Lib.hid hbel
      have HL : Hid ((ys.length + 1) * 1 ≤ 140737488355328) := Lib.hid (by simp at hyl; omega)
      have HY := Lib.hid hys
      have HYL := Lib.hid hyl
      clear hown hbel hys hyl
      by_cases hU : U < 128
      · have g1 : decide (U ≥ 128) = false := by simp; omega
        have g2 : U % 256 = U := by omega
        have HX : Hid (ys ++ [U] = num n) := Lib.hid (by rw [← HY.out, leb_last hU])
        clear hU hUb
        go_wp2_with (first
          | ((with_reducible refine gate_builtin (b := .append) (xs := #[.tmp 20, .tmp 23]) rfl ?_); at_builtin; go_loud (refine Kd.R_append (Kd.int .u8) (w0 := w) w.heap.size rfl (.tmp 20) (.tmp 23) 28 5 (.int .u8 0) 1 rfl Try.underlying28 info5 rfl (by decide) (by omega) (.slice A5 n5 c5) (ys) U [.int .u8 U] (fun _ => True) (fun _ => False) rfl rfl ?aP (fun _ hk => hk.elim) ?aF ?aO ?aB ?aS ?aL ?_; (case aP => exact rfl); (case aF => exact fun _ _ => trivial); (case aO => exact HO.out); (case aB => exact HW.out); (case aS => exact HW.out.size); (case aL => exact HL.out); intro v6 w6 hr6 hb6 _ _; (obtain ⟨A6, n6, c6, rfl⟩ : ∃ A n c, v6 = .slice A n c := by obtain ⟨A, c, e⟩ := Kd.R_slice hr6; exact ⟨A, _, c, e⟩); have HR6 := Lib.hid hr6; have HB6 := Lib.hid hb6; clear hr6 hb6)))
        go_ret
        exact made_of (by rw [← HX.out]; exact HR6.out) HB6.out
      · have g1 : decide (U ≥ 128) = true := by simp; omega
        have hps := Lib.hid (And.intro (show (128 : Int) ≤ U by omega) (put_small HP.out hU))
        have b1 : (U % 128 + 128) % 256 = U % 128 + 128 := by omega
        have b2 : wrap64 (U % 128 + 128) = U % 128 + 128 := by unfold wrap64; omega
        have b3 : wrap64 (U / 128) = U / 128 := by unfold wrap64; omega
        have b4 : U.tmod 128 = U % 128 := Int.tmod_eq_emod_of_nonneg hU0
        have b5 : U.tdiv 128 = U / 128 := Int.tdiv_eq_ediv_of_nonneg hU0
        clear hU hUb
        go_wp2_with (first
          | ((with_reducible refine gate_builtin (b := .append) (xs := #[.tmp 11, .tmp 16]) rfl ?_); at_builtin; go_loud (refine Kd.R_append (Kd.int .u8) (w0 := w) w.heap.size rfl (.tmp 11) (.tmp 16) 28 5 (.int .u8 0) 1 rfl Try.underlying28 info5 rfl (by decide) (by omega) (.slice A5 n5 c5) (ys) (U % 128 + 128) [.int .u8 (U % 128 + 128)] (fun _ => True) (fun _ => False) rfl rfl ?aP (fun _ hk => hk.elim) ?aF ?aO ?aB ?aS ?aL ?_; (case aP => exact rfl); (case aF => exact fun _ _ => trivial); (case aO => exact HO.out); (case aB => exact HW.out); (case aS => exact HW.out.size); (case aL => exact HL.out); intro v6 w6 hr6 hb6 _ _; (obtain ⟨A6, n6, c6, rfl⟩ : ∃ A n c, v6 = .slice A n c := by obtain ⟨A, c, e⟩ := Kd.R_slice hr6; exact ⟨A, _, c, e⟩); have HR6 := Lib.hid hr6; have HB6 := Lib.hid hb6; clear hr6 hb6)))
        go_roundw
        case rel => exact ⟨i + 1, U / 128, A6, n6, c6, by first | rfl | simp [b3, b5], rfl, Lib.hid (put_next HP.out HY.out HYL.out hps.out HR6.out HB6.out)⟩
        case measure => have := hps.out.1; simp [iOf, b3, b5]; omega
  · have g1 : decide (n < 0) = false := by simpa using h.1
    have g2 : decide (n > 4611686018427387904) = false := by simpa using h.2
    go_enter Try.func34, Try.ntmps34
    go_wp2_with (first
      | ((with_reducible refine gate_dst (N := 8) rfl ?_); go_loud (refine Kd.R_lit (Kd.int .u8) w.heap.size 5 ?hg (N := 8) ?hd (xs := ([] : List Int)) (inner := []) (ok := fun _ => True) (okp := fun _ => True) ?hr ?hp (fun _ hk => hk) trivial (Below.refl w.heap.size w) (Nat.le_refl _) (by simp) ?_; (case hd => rfl); (case hg => rfl); (case hr => first | (go_simp; done) | (go_simp; rfl)); (case hp => exact (Reps.none _ _)); intro v5 w5 hr5 hb5 _ _; (obtain ⟨A5, n5, c5, rfl⟩ : ∃ A n c, v5 = .slice A n c := by obtain ⟨A, c, e⟩ := Kd.R_slice hr5; exact ⟨A, _, c, e⟩); have HR5 := Lib.hid hr5; have HB5 := Lib.hid hb5; clear hr5 hb5)))
    have HP : Hid (PutInv w w.heap.size [] (num n) 0 n (.slice A5 n5 c5) w5) := by
      have e : N = n := by have := HNN.out; omega
      have h := HI.out _ _ HR5.out HB5.out
      rw [e] at h
      exact Lib.hid h
    clear HI HNN HR5 HB5
    go_loopw [0, 3] (fun u o wr => ∃ (i : Nat) (U : Int) (A5 : Option Addr) (n5 c5 : Nat), u = .int .i64 U ∧ o = .slice A5 n5 c5 ∧ Hid (PutInv w w.heap.size [] (num n) i U (.slice A5 n5 c5) wr)) (fun u _ _ => (iOf u).toNat)
    case atStart => exact ⟨0, n, A5, n5, c5, rfl, rfl, HP⟩
    case round =>
      clear HP
      obtain ⟨i, U, A5, n5, c5, rfl, rfl, HP⟩ := hrel
      obtain ⟨hi8, hU0, hUb, ys, hys, hyl, hown, hbel⟩ := HP.out
      have hbig := put_big HP.out
      have HO := Lib.hid hown
      have HW := Lib.hid hbel
      have HL : Hid ((ys.length + 1) * 1 ≤ 140737488355328) := Lib.hid (by simp at hyl; omega)
      have HY := Lib.hid hys
      have HYL := Lib.hid hyl
      clear hown hbel hys hyl
      by_cases hU : U < 128
      · have g1 : decide (U ≥ 128) = false := by simp; omega
        have g2 : U % 256 = U := by omega
        have HX : Hid (ys ++ [U] = num n) := Lib.hid (by rw [← HY.out, leb_last hU])
        clear hU hUb
        go_wp2_with (first
          | ((with_reducible refine gate_builtin (b := .append) (xs := #[.tmp 20, .tmp 23]) rfl ?_); at_builtin; go_loud (refine Kd.R_append (Kd.int .u8) (w0 := w) w.heap.size rfl (.tmp 20) (.tmp 23) 28 5 (.int .u8 0) 1 rfl Try.underlying28 info5 rfl (by decide) (by omega) (.slice A5 n5 c5) (ys) U [.int .u8 U] (fun _ => True) (fun _ => False) rfl rfl ?aP (fun _ hk => hk.elim) ?aF ?aO ?aB ?aS ?aL ?_; (case aP => exact rfl); (case aF => exact fun _ _ => trivial); (case aO => exact HO.out); (case aB => exact HW.out); (case aS => exact HW.out.size); (case aL => exact HL.out); intro v6 w6 hr6 hb6 _ _; (obtain ⟨A6, n6, c6, rfl⟩ : ∃ A n c, v6 = .slice A n c := by obtain ⟨A, c, e⟩ := Kd.R_slice hr6; exact ⟨A, _, c, e⟩); have HR6 := Lib.hid hr6; have HB6 := Lib.hid hb6; clear hr6 hb6)))
        go_ret
        exact made_of (by rw [← HX.out]; exact HR6.out) HB6.out
      · have g1 : decide (U ≥ 128) = true := by simp; omega
        have hps := Lib.hid (And.intro (show (128 : Int) ≤ U by omega) (put_small HP.out hU))
        have b1 : (U % 128 + 128) % 256 = U % 128 + 128 := by omega
        have b2 : wrap64 (U % 128 + 128) = U % 128 + 128 := by unfold wrap64; omega
        have b3 : wrap64 (U / 128) = U / 128 := by unfold wrap64; omega
        have b4 : U.tmod 128 = U % 128 := Int.tmod_eq_emod_of_nonneg hU0
        have b5 : U.tdiv 128 = U / 128 := Int.tdiv_eq_ediv_of_nonneg hU0
        clear hU hUb
        go_wp2_with (first
          | ((with_reducible refine gate_builtin (b := .append) (xs := #[.tmp 11, .tmp 16]) rfl ?_); at_builtin; go_loud (refine Kd.R_append (Kd.int .u8) (w0 := w) w.heap.size rfl (.tmp 11) (.tmp 16) 28 5 (.int .u8 0) 1 rfl Try.underlying28 info5 rfl (by decide) (by omega) (.slice A5 n5 c5) (ys) (U % 128 + 128) [.int .u8 (U % 128 + 128)] (fun _ => True) (fun _ => False) rfl rfl ?aP (fun _ hk => hk.elim) ?aF ?aO ?aB ?aS ?aL ?_; (case aP => exact rfl); (case aF => exact fun _ _ => trivial); (case aO => exact HO.out); (case aB => exact HW.out); (case aS => exact HW.out.size); (case aL => exact HL.out); intro v6 w6 hr6 hb6 _ _; (obtain ⟨A6, n6, c6, rfl⟩ : ∃ A n c, v6 = .slice A n c := by obtain ⟨A, c, e⟩ := Kd.R_slice hr6; exact ⟨A, _, c, e⟩); have HR6 := Lib.hid hr6; have HB6 := Lib.hid hb6; clear hr6 hb6)))
        go_roundw
        case rel => exact ⟨i + 1, U / 128, A6, n6, c6, by first | rfl | simp [b3, b5], rfl, Lib.hid (put_next HP.out HY.out HYL.out hps.out HR6.out HB6.out)⟩
        case measure => have := hps.out.1; simp [iOf, b3, b5]; omega
end Go.Proofs.Ytnognmbapciegaa.Bk
namespace Go.Proofs.Ytnognmbapciegaa.Bk
open Go.RowKit Go.Proofs.YtnognmbapciegaaW.PrintWords Go.Proofs.YtnognmbapciegaaW.PrintLast Go.Proofs.YtnognmbapciegaaW.PrintMore Go.Proofs.Ytnognmbapciegaa.PBk
set_option linter.unusedVariables false
set_option linter.unusedSimpArgs false

set_option maxHeartbeats 400000 in
theorem rjoinnum_any (w : World) (A1 : Option Addr) (m1 c1 : Nat) (xs : List Int) (n : Int) (hm1 : m1 = xs.length) (hC1 : Kd.C (Kd.int .u8) w A1 m1 xs) (hl : xs.length ≤ 17592186044416) : Calls Try.prog 33 #[.slice A1 m1 c1, .int .i64 n] w fun e w' => Made w w' (xs ++ num n) e := by
  have HM := Lib.hid hm1
  have HL := Lib.hid hl
  clear hm1 hl
  go_enter Try.func33, Try.ntmps33
  go_wp2_with (first
    | (go_at_call 34; go_loud (refine (rnum_any _ n).mono ?_; rintro e w2 ⟨A2, n2, c2, rfl, hn2, ho, hb⟩; have HN := Lib.hid hn2; have HO := Lib.hid ho; have HB := Lib.hid hb; clear hn2 ho hb))
    | (go_at_call 35; go_loud (refine (join_any _ A1 m1 c1 xs A2 n2 c2 (num n) HM.out (Kd.C_below hC1 HB.out) HN.out (own_C HO.out HN.out) (by have := HL.out; have := (num_len n).2; omega)).mono ?_; rintro e w3 ⟨A3, n3, c3, rfl, hn3, ho, hb⟩; have HN3 := Lib.hid hn3; have HO3 := Lib.hid ho; have HB3 := Lib.hid (HB.out.trans (hb.mono HB.out.size)); clear hn3 ho hb)))
  go_ret
  exact ⟨A3, n3, c3, rfl, HN3.out, Kd.R_lower HO3.out HB.out.size, HB3.out⟩
end Go.Proofs.Ytnognmbapciegaa.Bk
namespace Go.Proofs.Ytnognmbapciegaa.Bk
open Go.RowKit Go.Proofs.YtnognmbapciegaaW.PrintWords Go.Proofs.YtnognmbapciegaaW.PrintLast Go.Proofs.YtnognmbapciegaaW.PrintMore Go.Proofs.Ytnognmbapciegaa.PBk
set_option linter.unusedVariables false
set_option linter.unusedSimpArgs false

set_option maxHeartbeats 400000 in
theorem rtext_any (w : World) (s : ByteArray) (hs : s.size ≤ 17592186044416) : Calls Try.prog 36 #[.string s] w fun e w' => Made w w' (txt s) e := by
  have HS := Lib.hid hs
  have hcv := fun W : World => print_bytes (P := Try.prog) 9 28 5 Try.underlying9 Try.underlying28 Try.underlying5 s W
  clear hs
  go_enter Try.func36, Try.ntmps36
  go_wp2_with (first
    | (go_at_call 34; go_loud (refine (rnum_any _ (s.size : Int)).mono ?_; rintro e w2 ⟨A2, n2, c2, rfl, hn2, ho, hb⟩; have HN := Lib.hid hn2; have HO := Lib.hid ho; have HB := Lib.hid hb; clear hn2 ho hb))
    | (go_at_call 35; go_loud (have hbw := bytes_below (B := w2.heap.size) (Below.refl w2.heap.size w2) (Nat.le_refl _) 5 s; refine (join_any _ A2 n2 c2 (num (s.size : Int)) _ s.size _ (bytesOf s) HN.out (Kd.C_below (own_C HO.out HN.out) hbw) (bytesOf_length s).symm (Kd.C_of_reads (h1 := fun _ => rfl) (bytes_reads w2 5 s (by have := HS.out; omega))) (by have := HS.out; have := (num_len (s.size : Int)).2; rw [bytesOf_length]; omega)).mono ?_; rintro e w3 ⟨A3, n3, c3, rfl, hn3, ho, hb⟩; have HN3 := Lib.hid hn3; have HO3 := Lib.hid ho; have HW3 := Lib.hid (Nat.le_trans HB.out.size hbw.size); have HB3 := Lib.hid ((HB.out.trans (hbw.mono HB.out.size)).trans (hb.mono (Nat.le_trans HB.out.size hbw.size))); clear hn3 ho hb hbw)))
  go_ret
  exact ⟨A3, n3, c3, rfl, HN3.out, Kd.R_lower HO3.out HW3.out, HB3.out⟩
end Go.Proofs.Ytnognmbapciegaa.Bk
