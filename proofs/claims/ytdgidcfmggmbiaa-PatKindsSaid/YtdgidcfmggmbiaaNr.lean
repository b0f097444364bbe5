/- glob.Ranges. -/
import Derived.Test.YtdgidcfmggmbiaaMc
namespace Go.Proofs.Ytdgidcfmggmbiaa.Rx
open Go.RowKit Go.Proofs.YtdgidcfmggmbiaaW.PrintWords Go.Proofs.YtdgidcfmggmbiaaW.PrintLast Go.Proofs.YtdgidcfmggmbiaaW.PrintMore Go.Proofs.Ytdgidcfmggmbiaa.PRx
set_option linter.unusedVariables false
set_option linter.unusedSimpArgs false
theorem wraps (x : S98) (h : 0 ≤ x.f0 ∧ x.f0 < 256 ∧ 0 ≤ x.f1 ∧ x.f1 < 256) : wrap64 x.f0 = x.f0 ∧ wrap64 x.f1 = x.f1 ∧ wrap64 (x.f1 + 1) = x.f1 + 1 := by
  unfold wrap64; omega
set_option maxHeartbeats 4000000 in
set_option maxRecDepth 100000 in
theorem ranges_any {w : World} {A : Option Addr} {c : Nat} {rs : List S98} (neg : Bool) (hl : rs.length ≤ c) (hC : Kd.C k98 w A rs.length rs) (hf : Fit rs) :
    Calls Try.prog 54 #[.slice A rs.length c, .bool neg] w fun e w' => ∃ v, e = .returned v ∧ Kd.R k98 98 w' w.heap.size (fun _ => True) v (rg neg rs) ∧ Below w.heap.size w w' := by
  rw [rg_eq]
  have HC := Lib.hid hC
  have HF := Lib.hid hf
  clear hC hf hl
  go_enter Try.func54, Try.ntmps54
  go_wp2_with fail
  go_loopg [5, 15] (rs.length + 1) (fun kq v5 v15 wr => ∃ (k : Nat) (A5 : Option Addr) (n5 c5 : Nat), v15 = .int .i64 (k : Int) ∧ v5 = .slice A5 n5 c5 ∧ k ≤ rs.length ∧ Hid (Kd.R k98 98 wr w.heap.size (fun _ => True) (.slice A5 n5 c5) (keepR (rs.take k))) ∧ Hid (Below w.heap.size w wr) ∧ Hid (rs.length - k < kq) ∧ Hid (keepR (rs.take k) = [] → A5 = none ∧ c5 = 0))
  case atStart => exact ⟨0, none, 0, 0, rfl, rfl, Nat.zero_le _, Lib.hid (Kd.R_nil _ _ _ _ _), Lib.hid (Below.refl _ _), Lib.hid (by omega), Lib.hid (fun _ => ⟨rfl, rfl⟩)⟩
  case round =>
    obtain ⟨k, A5, n5, c5, rfl, rfl, hk, HR, HB, HQ, HZ⟩ := hrel
    by_cases hlt : k < rs.length
    · have HLT := Lib.hid hlt
      have HIN := Lib.hid (rd_in rs k hlt)
      have HTK := Lib.hid (take_rd rs k hlt)
      obtain ⟨ad, rfl, f0, f1⟩ := at_T98 (Kd.C_below HC.out HB.out) (k : Int) (by omega) (by omega)
      obtain ⟨x, hx⟩ : ∃ x, rd_T98 rs (k : Int) = x := ⟨_, rfl⟩
      rw [hx] at f0 f1 HIN HTK
      clear hx
      simp only [Int.toNat_natCast] at f0 f1
      by_cases hle : x.f0 ≤ x.f1
      · have g1 : decide (x.f0 ≤ x.f1) = true := by simpa using hle
        have HKP : Hid (keepR (rs.take (k + 1)) = keepR (rs.take k) ++ [x]) := Lib.hid (by rw [HTK.out]; unfold keepR; rw [List.filter_append]; simp [hle])
        have HLN : Hid (((keepR (rs.take k)).length + 1) * 2 ≤ 140737488355328) := Lib.hid (by have := keep_len (rs.take k); have := HF.out.2; have := List.length_take_le k rs; omega)
        clear hle
        go_wp2_with (first
          | ((with_reducible refine gate_builtin (b := .append) (xs := #[.tmp 24, .tmp 26]) rfl ?_); at_builtin; go_loud (refine Kd.R_append k98 (w0 := wr.alloc (.cells #[.int .u8 x.f0, .int .u8 x.f1] 98)) w.heap.size rfl (.tmp 24) (.tmp 26) 27 98 _ 2 rfl Try.underlying27 info37r rfl (by decide) (by omega) (.slice A5 n5 c5) (keepR (rs.take k)) x [.int .u8 x.f0, .int .u8 x.f1] (fun _ => True) (fun _ => False) rfl (by rw [al_size_]; rfl) ?aP (fun _ hk => hk.elim) ?aF ?aO ?aB ?aS ?aL ?_; (case aP => exact k98_mkM _ _ _ x); (case aF => exact fun _ _ => trivial); (case aO => exact Kd.R_alloc HR.out _); (case aB => exact Below.refl _ _); (case aS => exact (HB.out.alloc HB.out.size _).size); (case aL => exact HLN.out); intro v9 w9 hr9 hb9 hg9 _; (obtain ⟨A9, n9, c9, rfl⟩ : ∃ A n c, v9 = .slice A n c := by obtain ⟨A, c, e⟩ := Kd.R_slice hr9; exact ⟨A, _, c, e⟩); have HR9 := Lib.hid hr9; have HB9 := Lib.hid ((HB.out.alloc HB.out.size _).trans hb9); clear hr9 hb9 hg9)))
        go_roundg (rs.length - k)
        case measure => have := HQ.out; omega
        case rel => exact ⟨k + 1, A9, n9, c9, wrap_succ k (Nat.lt_of_lt_of_le HLT.out HF.out.2), rfl, by have := HLT.out; omega, Lib.hid (by rw [HKP.out]; exact HR9.out), HB9, Lib.hid (by have := HLT.out; omega), Lib.hid (by rw [HKP.out]; intro h; simp at h)⟩
      · have g1 : decide (x.f0 ≤ x.f1) = false := by simpa using hle
        have HKP : Hid (keepR (rs.take (k + 1)) = keepR (rs.take k)) := Lib.hid (by rw [HTK.out]; unfold keepR; rw [List.filter_append]; simp [hle])
        clear hle
        go_wp2_with fail
        go_roundg (rs.length - k)
        case measure => have := HQ.out; omega
        case rel => exact ⟨k + 1, A5, n5, c5, wrap_succ k (Nat.lt_of_lt_of_le HLT.out HF.out.2), rfl, by have := HLT.out; omega, Lib.hid (by rw [HKP.out]; exact Kd.R_alloc HR.out _), Lib.hid (HB.out.alloc HB.out.size _), Lib.hid (by have := HLT.out; omega), Lib.hid (by rw [HKP.out]; exact HZ.out)⟩
    · obtain rfl : k = rs.length := by omega
      rw [List.take_length] at HR
      rw [List.take_length] at HZ
      have HSO := Lib.hid (sort_step (w0 := w) (c5 := c5) HR.out HB.out HZ.out HF.out.2)
      have HSL : Hid ((srt rs).length ≤ 1000) := Lib.hid (by rw [srt_len]; exact Nat.le_trans (keep_len rs) HF.out.2)
      have HB2S := Lib.hid HB.out.size
      go_upto_region 9 with (first | (go_at_call 64; refine HSO.out.mono ?_; rintro e w2 ⟨rfl, hb2, hn2, hc2⟩; (have HB2 := Lib.hid hb2); (have HC2 := Lib.hid hc2); (have HN2 := Lib.hid hn2); clear hb2 hc2 hn2))
      obtain rfl := HN2.out
      clear HSO HB HR HZ HN2
      have HALL : Hid (∀ x, x ∈ srt rs → 0 ≤ x.f0 ∧ x.f0 < 256 ∧ 0 ≤ x.f1 ∧ x.f1 < 256) := Lib.hid (fun x hx => HF.out.1 x (srt_mem hx))
      obtain ⟨all, hall⟩ : ∃ a, a = srt rs := ⟨_, rfl⟩
      have HAQ := Lib.hid hall
      rw [← hall] at HC2 HSL HALL ⊢
      clear hall
      go_wp2_with fail
      go_loopg [6, 9, 33] (all.length + 1) (fun kq v6 v9 v33 wr => ∃ (k : Nat) (A6 : Option Addr) (n6 c6 : Nat) (out : List S98) (next : Int), v33 = .int .i64 (k : Int) ∧ v6 = .slice A6 n6 c6 ∧ v9 = .int .i64 next ∧ k ≤ all.length ∧ Hid (0 ≤ next ∧ next ≤ 256 ∧ out.length ≤ k ∧ (neg = false → 0 < k → 0 < out.length)) ∧ Hid (Kd.R k98 98 wr w2.heap.size (fun _ => True) (.slice A6 n6 c6) out) ∧ Hid (Below w2.heap.size w2 wr) ∧ Hid (mergeGo neg [] all 0 = mergeGo neg out (all.drop k) next) ∧ Hid (all.length - k < kq))
      case atStart => exact ⟨0, none, 0, 0, [], 0, rfl, rfl, rfl, Nat.zero_le _, Lib.hid ⟨by omega, by omega, by simp, by omega⟩, Lib.hid (Kd.R_nil _ _ _ _ _), Lib.hid (Below.refl _ _), Lib.hid rfl, Lib.hid (by omega)⟩
      case round =>
        obtain ⟨k, A6, n6, c6_, out, next, rfl, rfl, rfl, hk, HN, HR, HB, HM, HQ⟩ := hrel
        by_cases hlt : k < all.length
        · have HLT := Lib.hid hlt
          have HDR := Lib.hid (drop_rd all k hlt)
          have HRG : Hid (0 ≤ (rd_T98 all (k : Int)).f0 ∧ (rd_T98 all (k : Int)).f0 < 256 ∧ 0 ≤ (rd_T98 all (k : Int)).f1 ∧ (rd_T98 all (k : Int)).f1 < 256) := Lib.hid (HALL.out _ (rd_in all k hlt))
          obtain ⟨ad, e6, f0, f1⟩ := at_T98 (Kd.C_below HC2.out HB.out) (k : Int) (by omega) (by omega)
          cases e6
          obtain ⟨x, hx⟩ : ∃ x, rd_T98 all (k : Int) = x := ⟨_, rfl⟩
          rw [hx] at f0 f1 HDR HRG
          clear hx
          simp only [Int.toNat_natCast, add_at, Nat.zero_add] at f0 f1
          have hn := (Kd.R_reads' HR.out).1
          have h256 := HRG.out
          have hnx := HN.out
          have HLN : Hid ((out.length + 1) * 2 ≤ 140737488355328) := Lib.hid (by have := HSL.out; omega)
          cases neg with
          | true =>
            by_cases hlt2 : next < x.f0
            · have g1 : decide (next < x.f0) = true := by simpa using hlt2
              have g2 : decide (x.f0 > next) = true := by simpa using hlt2
              have hw1 : IntKind.u8.wrap next = next := by simp [IntKind.wrap, IntKind.bits, IntKind.signed]; omega
              have hw2 : IntKind.u8.wrap (x.f0 - 1) = x.f0 - 1 := by simp [IntKind.wrap, IntKind.bits, IntKind.signed]; omega
              have HM2 : Hid (mergeGo true [] all 0 = mergeGo true (out ++ [⟨next, x.f0 - 1⟩]) (all.drop (k + 1)) (max next (x.f1 + 1))) := Lib.hid (by rw [HM.out, HDR.out, mergeGo]; simp only [if_true, if_pos hlt2])
              have HNX : Hid (0 ≤ max next (x.f1 + 1) ∧ max next (x.f1 + 1) ≤ 256 ∧ (out ++ [(⟨next, x.f0 - 1⟩ : S98)]).length ≤ k + 1 ∧ (true = false → 0 < k + 1 → 0 < (out ++ [(⟨next, x.f0 - 1⟩ : S98)]).length)) := Lib.hid ⟨by omega, by omega, by first | (simp only [List.length_append, List.length_cons, List.length_nil, List.length_dropLast]; omega) | omega, by first | (intro h; cases h; done) | (intro _ _; simp)⟩
              obtain ⟨hw0, hw3, hw4⟩ := wraps x HRG.out
              clear hn h256 hnx hlt2
              go_wp2_with (first | ((with_reducible refine gate_builtin (b := .append) (xs := #[.tmp 49, .tmp 56]) rfl ?_); at_builtin; go_loud (refine Kd.R_append k98 (w0 := wr.alloc (.cells #[.int .u8 x.f0, .int .u8 x.f1] 98)) w2.heap.size rfl (.tmp 49) (.tmp 56) 27 98 _ 2 rfl Try.underlying27 info37r rfl (by decide) (by omega) (.slice A6 n6 c6_) out ⟨next, x.f0 - 1⟩ [.int .u8 next, .int .u8 (x.f0 - 1)] (fun _ => True) (fun _ => False) rfl (by rw [al_size_]; rfl) ?aP (fun _ hk => hk.elim) ?aF ?aO ?aB ?aS ?aL ?_; (case aP => exact k98_mkM _ _ _ ⟨next, x.f0 - 1⟩); (case aF => exact fun _ _ => trivial); (case aO => exact Kd.R_alloc HR.out _); (case aB => exact Below.refl _ _); (case aS => exact (HB.out.alloc HB.out.size _).size); (case aL => exact HLN.out); intro v9 w9 hr9 hb9 hg9 _; (obtain ⟨A9, n9, c9, rfl⟩ : ∃ A n c, v9 = .slice A n c := by obtain ⟨A, c, e⟩ := Kd.R_slice hr9; exact ⟨A, _, c, e⟩); have HR9 := Lib.hid hr9; have HB9 := Lib.hid ((HB.out.alloc HB.out.size _).trans hb9); have y1 := (hg9.block wr.heap.size (by rw [al_size_]; exact Nat.lt_succ_self _) (own_low HR.out wr.heap.size (Nat.le_refl _))).trans (blk_new wr _); have k0 := blk_cell y1 0; have k1 := blk_cell y1 1; (simp only [List.getElem?_toArray, List.getElem?_cons_zero, List.getElem?_cons_succ] at k0 k1); clear y1 hr9 hb9 hg9)))
              go_roundg (all.length - k)
              case measure => have := HQ.out; omega
              case rel => exact ⟨k + 1, A9, n9, c9, out ++ [⟨next, x.f0 - 1⟩], max next (x.f1 + 1), wrap_succ k (Nat.lt_of_lt_of_le HLT.out HSL.out), rfl, rfl, HLT.out, HNX, HR9, HB9, HM2, Lib.hid (by have := HLT.out; omega)⟩
            · have g1 : decide (next < x.f0) = false := by simpa using hlt2
              have g2 : decide (x.f0 > next) = false := by simpa using hlt2
              have HM2 : Hid (mergeGo true [] all 0 = mergeGo true out (all.drop (k + 1)) (max next (x.f1 + 1))) := Lib.hid (by rw [HM.out, HDR.out, mergeGo]; simp only [if_true, if_neg hlt2])
              have HNX : Hid (0 ≤ max next (x.f1 + 1) ∧ max next (x.f1 + 1) ≤ 256 ∧ (out).length ≤ k + 1 ∧ (true = false → 0 < k + 1 → 0 < (out).length)) := Lib.hid ⟨by omega, by omega, by first | (simp only [List.length_append, List.length_cons, List.length_nil, List.length_dropLast]; omega) | omega, by first | (intro h; cases h; done) | (intro _ _; simp)⟩
              obtain ⟨hw0, hw3, hw4⟩ := wraps x HRG.out
              clear hn h256 hnx hlt2
              go_wp2_with fail
              go_roundg (all.length - k)
              case measure => have := HQ.out; omega
              case rel => exact ⟨k + 1, A6, n6, c6_, out, max next (x.f1 + 1), wrap_succ k (Nat.lt_of_lt_of_le HLT.out HSL.out), rfl, rfl, HLT.out, HNX, Lib.hid (Kd.R_alloc HR.out _), Lib.hid (HB.out.alloc HB.out.size _), HM2, Lib.hid (by have := HLT.out; omega)⟩
          | false =>
            by_cases hp : 0 < out.length
            · have g3 : decide ((n6 : Int) > 0) = true := by simp; omega
              have g4 : decide (0 < n6) = true := by simp; omega
              by_cases hle : x.f0 ≤ next
              · have g5 : decide (x.f0 ≤ next) = true := by simpa using hle
                obtain ⟨m, rfl⟩ : ∃ m, n6 = m + 1 := ⟨n6 - 1, by omega⟩
                obtain ⟨adq, cq, e7⟩ := Kd.R_slice1 HR.out hp
                injection e7 with e71 e72 e73
                subst e71
                obtain ⟨gq, rfl⟩ := Kd.R_head HR.out
                obtain ⟨cs, hcl, hM, hcc, hfz⟩ := Kd.R_elem (Kd.R_alloc HR.out (.cells #[.int .u8 x.f0, .int .u8 x.f1] 98)) z98 (m : Int) (by omega) (by omega)
                obtain ⟨l, hlx⟩ : ∃ l, out.getD (m : Int).toNat z98 = l := ⟨_, rfl⟩
                rw [hlx] at hM
                obtain rfl := k98_openM hM
                have k0 := hcc 0 _ rfl
                have k1 := hcc 1 _ rfl
                have k2 := hfz 1
                have esz : k98.sz = 2 := rfl
                rw [esz] at k0 k1 k2
                simp only [Int.toNat_natCast, Nat.add_zero] at k0 k1 k2
                have hm : m < 1000 := by have := HSL.out; have := HLT.out; omega
                have HMN : Hid (m + 1 = out.length) := Lib.hid hn
                have HM2 : Hid (mergeGo false [] all 0 = mergeGo false (out.dropLast ++ [⟨l.f0, max l.f1 x.f1⟩]) (all.drop (k + 1)) (max next (x.f1 + 1))) := Lib.hid (by rw [HM.out, HDR.out, mergeGo, if_neg (by decide), if_pos ⟨hp, hle⟩, last_get hn hlx])
                have HNX : Hid (0 ≤ max next (x.f1 + 1) ∧ max next (x.f1 + 1) ≤ 256 ∧ (out.dropLast ++ [(⟨l.f0, max l.f1 x.f1⟩ : S98)]).length ≤ k + 1 ∧ (false = false → 0 < k + 1 → 0 < (out.dropLast ++ [(⟨l.f0, max l.f1 x.f1⟩ : S98)]).length)) := Lib.hid ⟨by omega, by omega, by simp only [List.length_append, List.length_cons, List.length_nil, List.length_dropLast]; omega, by intro _ _; simp⟩
                obtain ⟨hw0, hw3, hw4⟩ := wraps x HRG.out
                have q0 : (0 : Int) ≤ (m : Int) := Int.natCast_nonneg m
                have q1 : (m : Int) < ((m + 1 : Nat) : Int) := Int.ofNat_lt.mpr (Nat.lt_succ_self m)
                have q2 : (m : Int) < (m : Int) + 1 := Int.lt_succ (m : Int)
                have hw5 := wrap_small m hm
                have hw6 := wrap_pred m hm
                have hw7 := wrap_pred' m hm
                clear hn h256 hnx hp hcc hfz hcl hM hm hle e72 e73
                go_upto_region 17 with fail
                go_region
                have hR5 := set_last (x := x) HR.out HMN.out hlx (max l.f1 x.f1)
                have HR5 := Lib.hid hR5.1
                have HB5 := Lib.hid ((HB.out.alloc HB.out.size (.cells #[.int .u8 x.f0, .int .u8 x.f1] 98)).trans hR5.2.1)
                have y1 := hR5.2.2
                clear hR5 k0 k1 k2
                generalize ((wr.alloc (.cells #[.int .u8 x.f0, .int .u8 x.f1] 98)).setCell ⟨gq, m * 2 + 1, none⟩ (.int .u8 (max l.f1 x.f1))).drew = w7 at HR5 HB5 y1 ⊢
                have k0 := blk_cell y1 0
                have k1 := blk_cell y1 1
                (simp only [List.getElem?_toArray, List.getElem?_cons_zero, List.getElem?_cons_succ] at k0 k1)
                clear y1
                go_wp2_with fail
                go_roundg (all.length - k)
                case measure => have := HQ.out; omega
                case rel => exact ⟨k + 1, _, _, _, out.dropLast ++ [⟨l.f0, max l.f1 x.f1⟩], max next (x.f1 + 1), wrap_succ k (Nat.lt_of_lt_of_le HLT.out HSL.out), rfl, rfl, HLT.out, HNX, HR5, HB5, HM2, Lib.hid (by have := HLT.out; omega)⟩
              · have g5 : decide (x.f0 ≤ next) = false := by simpa using hle
                have HM2 : Hid (mergeGo false [] all 0 = mergeGo false (out ++ [x]) (all.drop (k + 1)) (max next (x.f1 + 1))) := Lib.hid (by rw [HM.out, HDR.out, mergeGo, if_neg (by decide), if_neg (by omega)])
                have HNX : Hid (0 ≤ max next (x.f1 + 1) ∧ max next (x.f1 + 1) ≤ 256 ∧ (out ++ [x]).length ≤ k + 1 ∧ (false = false → 0 < k + 1 → 0 < (out ++ [x]).length)) := Lib.hid ⟨by omega, by omega, by first | (simp only [List.length_append, List.length_cons, List.length_nil, List.length_dropLast]; omega) | omega, by first | (intro h; cases h; done) | (intro _ _; simp)⟩
                obtain ⟨hw0, hw3, hw4⟩ := wraps x HRG.out
                clear hn h256 hnx hle hp
                go_wp2_with (first | ((with_reducible refine gate_builtin (b := .append) (xs := #[.tmp 88, .tmp 90]) rfl ?_); at_builtin; go_loud (refine Kd.R_append k98 (w0 := wr.alloc (.cells #[.int .u8 x.f0, .int .u8 x.f1] 98)) w2.heap.size rfl (.tmp 88) (.tmp 90) 27 98 _ 2 rfl Try.underlying27 info37r rfl (by decide) (by omega) (.slice A6 n6 c6_) out x [.int .u8 x.f0, .int .u8 x.f1] (fun _ => True) (fun _ => False) rfl (by rw [al_size_]; rfl) ?aP (fun _ hk => hk.elim) ?aF ?aO ?aB ?aS ?aL ?_; (case aP => exact k98_mkM _ _ _ x); (case aF => exact fun _ _ => trivial); (case aO => exact Kd.R_alloc HR.out _); (case aB => exact Below.refl _ _); (case aS => exact (HB.out.alloc HB.out.size _).size); (case aL => exact HLN.out); intro v9 w9 hr9 hb9 hg9 _; (obtain ⟨A9, n9, c9, rfl⟩ : ∃ A n c, v9 = .slice A n c := by obtain ⟨A, c, e⟩ := Kd.R_slice hr9; exact ⟨A, _, c, e⟩); have HR9 := Lib.hid hr9; have HB9 := Lib.hid ((HB.out.alloc HB.out.size _).trans hb9); have y1 := (hg9.block wr.heap.size (by rw [al_size_]; exact Nat.lt_succ_self _) (own_low HR.out wr.heap.size (Nat.le_refl _))).trans (blk_new wr _); have k0 := blk_cell y1 0; have k1 := blk_cell y1 1; (simp only [List.getElem?_toArray, List.getElem?_cons_zero, List.getElem?_cons_succ] at k0 k1); clear y1 hr9 hb9 hg9)))
                go_roundg (all.length - k)
                case measure => have := HQ.out; omega
                case rel => exact ⟨k + 1, A9, n9, c9, out ++ [x], max next (x.f1 + 1), wrap_succ k (Nat.lt_of_lt_of_le HLT.out HSL.out), rfl, rfl, HLT.out, HNX, HR9, HB9, HM2, Lib.hid (by have := HLT.out; omega)⟩
            · have g3 : decide ((n6 : Int) > 0) = false := by simp; omega
              have g4 : decide (0 < n6) = false := by simp; omega
              have HM2 : Hid (mergeGo false [] all 0 = mergeGo false (out ++ [x]) (all.drop (k + 1)) (max next (x.f1 + 1))) := Lib.hid (by rw [HM.out, HDR.out, mergeGo, if_neg (by decide), if_neg (by omega)])
              have HNX : Hid (0 ≤ max next (x.f1 + 1) ∧ max next (x.f1 + 1) ≤ 256 ∧ (out ++ [x]).length ≤ k + 1 ∧ (false = false → 0 < k + 1 → 0 < (out ++ [x]).length)) := Lib.hid ⟨by omega, by omega, by first | (simp only [List.length_append, List.length_cons, List.length_nil, List.length_dropLast]; omega) | omega, by first | (intro h; cases h; done) | (intro _ _; simp)⟩
              obtain ⟨hw0, hw3, hw4⟩ := wraps x HRG.out
              clear hn h256 hnx hp
              go_wp2_with (first | ((with_reducible refine gate_builtin (b := .append) (xs := #[.tmp 88, .tmp 90]) rfl ?_); at_builtin; go_loud (refine Kd.R_append k98 (w0 := wr.alloc (.cells #[.int .u8 x.f0, .int .u8 x.f1] 98)) w2.heap.size rfl (.tmp 88) (.tmp 90) 27 98 _ 2 rfl Try.underlying27 info37r rfl (by decide) (by omega) (.slice A6 n6 c6_) out x [.int .u8 x.f0, .int .u8 x.f1] (fun _ => True) (fun _ => False) rfl (by rw [al_size_]; rfl) ?aP (fun _ hk => hk.elim) ?aF ?aO ?aB ?aS ?aL ?_; (case aP => exact k98_mkM _ _ _ x); (case aF => exact fun _ _ => trivial); (case aO => exact Kd.R_alloc HR.out _); (case aB => exact Below.refl _ _); (case aS => exact (HB.out.alloc HB.out.size _).size); (case aL => exact HLN.out); intro v9 w9 hr9 hb9 hg9 _; (obtain ⟨A9, n9, c9, rfl⟩ : ∃ A n c, v9 = .slice A n c := by obtain ⟨A, c, e⟩ := Kd.R_slice hr9; exact ⟨A, _, c, e⟩); have HR9 := Lib.hid hr9; have HB9 := Lib.hid ((HB.out.alloc HB.out.size _).trans hb9); have y1 := (hg9.block wr.heap.size (by rw [al_size_]; exact Nat.lt_succ_self _) (own_low HR.out wr.heap.size (Nat.le_refl _))).trans (blk_new wr _); have k0 := blk_cell y1 0; have k1 := blk_cell y1 1; (simp only [List.getElem?_toArray, List.getElem?_cons_zero, List.getElem?_cons_succ] at k0 k1); clear y1 hr9 hb9 hg9)))
              go_roundg (all.length - k)
              case measure => have := HQ.out; omega
              case rel => exact ⟨k + 1, A9, n9, c9, out ++ [x], max next (x.f1 + 1), wrap_succ k (Nat.lt_of_lt_of_le HLT.out HSL.out), rfl, rfl, HLT.out, HNX, HR9, HB9, HM2, Lib.hid (by have := HLT.out; omega)⟩
        · obtain rfl : k = all.length := by omega
          have HEQ : Hid (mergeGo neg [] all 0 = (out, next)) := Lib.hid (by rw [HM.out, List.drop_length]; rfl)
          have hnx := HN.out
          have hsl := HSL.out
          cases neg with
          | true =>
            by_cases h256 : next < 256
            · have g1 : decide (next < 256) = true := by simpa using h256
              have hw1 : IntKind.u8.wrap next = next := by simp [IntKind.wrap, IntKind.bits, IntKind.signed]; omega
              have HLN : Hid ((out.length + 1) * 2 ≤ 140737488355328) := Lib.hid (by omega)
              have HT : Hid (tailR true (mergeGo true [] all 0) = out ++ [⟨next, 255⟩]) := Lib.hid (by rw [HEQ.out]; unfold tailR; rw [if_pos ⟨rfl, h256⟩])
              clear hnx hsl h256
              go_wp2_with (first | ((with_reducible refine gate_builtin (b := .append) (xs := #[.tmp 104, .tmp 108]) rfl ?_); at_builtin; go_loud (refine Kd.R_append k98 (w0 := wr) w2.heap.size rfl (.tmp 104) (.tmp 108) 27 98 _ 2 rfl Try.underlying27 info37r rfl (by decide) (by omega) (.slice A6 n6 c6_) out ⟨next, 255⟩ [.int .u8 next, .int .u8 255] (fun _ => True) (fun _ => False) rfl rfl ?aP (fun _ hk => hk.elim) ?aF ?aO ?aB ?aS ?aL ?_; (case aP => exact k98_mkM _ _ _ ⟨next, 255⟩); (case aF => exact fun _ _ => trivial); (case aO => exact HR.out); (case aB => exact Below.refl _ _); (case aS => exact HB.out.size); (case aL => exact HLN.out); intro v9 w9 hr9 hb9 hg9 _; (obtain ⟨A9, n9, c9, rfl⟩ : ∃ A n c, v9 = .slice A n c := by obtain ⟨A, c, e⟩ := Kd.R_slice hr9; exact ⟨A, _, c, e⟩); have HR9 := Lib.hid hr9; have HB9 := Lib.hid (HB.out.trans hb9); clear hr9 hb9 hg9)))
              go_ret
              refine ⟨_, rfl, by rw [← HAQ.out, HT.out]; exact Kd.R_lower HR9.out HB2.out.size, HB2.out.trans (HB9.out.mono HB2.out.size)⟩
            · have g1 : decide (next < 256) = false := by simpa using h256
              have HT : Hid (tailR true (mergeGo true [] all 0) = out) := Lib.hid (by rw [HEQ.out]; unfold tailR; rw [if_neg (by intro h; exact h256 h.2)])
              clear hnx hsl h256
              go_wp2_with fail
              go_ret
              refine ⟨_, rfl, by rw [← HAQ.out, HT.out]; exact Kd.R_lower HR.out HB2.out.size, HB2.out.trans (HB.out.mono HB2.out.size)⟩
          | false =>
            have HT : Hid (tailR false (mergeGo false [] all 0) = out) := Lib.hid (by rw [HEQ.out]; unfold tailR; rw [if_neg (by intro h; cases h.1)])
            clear hnx hsl
            go_wp2_with fail
            go_ret
            refine ⟨_, rfl, by rw [← HAQ.out, HT.out]; exact Kd.R_lower HR.out HB2.out.size, HB2.out.trans (HB.out.mono HB2.out.size)⟩
end Go.Proofs.Ytdgidcfmggmbiaa.Rx
