/- Plain: the document's example: what its tree matches in its texts. And the walk of alive. -/
import Derived.Test.YtmhodkkfbbpgaaaNode
namespace Go.Proofs.Ytmhodkkfbbpgaaa.Nm
set_option linter.unusedVariables false
set_option linter.unusedSimpArgs false
open Go.RowKit Mem Re Tree Fac Go.Proofs.Ytmhodkkfbbpgaaa.PNfa Go.Proofs.YtmhodkkfbbpgaaaW.PrintWords Go.Proofs.YtmhodkkfbbpgaaaW.PrintLast Go.Proofs.YtmhodkkfbbpgaaaW.PrintMore

def topN : Nd := ⟨2, [], [⟨4, [], [ofN 97 97]⟩, ⟨3, [], [⟨2, [], [ofN 98 98]⟩, ⟨2, [], [ofN 98 98, ofN 99 99]⟩]⟩]⟩

theorem mt_of (b : Nat → Int) (len : Nat) (c : Int) (i j : Nat) : mt b len (re (ofN c c)) i j ↔ i < len ∧ j = i + 1 ∧ b i = c := by
  simp only [ofN, re, if_true, Re.mt, inR, List.any_cons, List.any_nil, Bool.or_false, Bool.and_eq_true, decide_eq_true_eq]
  constructor
  · rintro ⟨a, b, c⟩; exact ⟨a, b, by omega⟩
  · rintro ⟨a, b, c⟩; exact ⟨a, b, by omega⟩

theorem top_mt (b : Nat → Int) (len i j : Nat) : mt b len (re topN) i j ↔ ∃ m, Clo (mt b len (re (ofN 97 97))) i m ∧ ((m < len ∧ b m = 98 ∧ j = m + 1) ∨ (m + 1 < len ∧ b m = 98 ∧ b (m + 1) = 99 ∧ j = m + 2)) := by
  have e : re topN = .cat [.star (re (ofN 97 97)), .alt [.cat [re (ofN 98 98)], .cat [re (ofN 98 98), re (ofN 99 99)]]] := by
    simp [topN, re, reL, reK]
  rw [e]
  simp only [Re.mt, seqM, anyM]
  constructor
  · rintro ⟨m, h1, m2, h2, rfl⟩
    refine ⟨m, h1, ?_⟩
    rcases h2 with ⟨m3, h3, rfl⟩ | ⟨m3, h3, m4, h4, rfl⟩ | h2
    · obtain ⟨a, rfl, c⟩ := (mt_of _ _ _ _ _).1 h3
      exact .inl ⟨a, c, rfl⟩
    · obtain ⟨a, rfl, c⟩ := (mt_of _ _ _ _ _).1 h3
      obtain ⟨a2, rfl, c2⟩ := (mt_of _ _ _ _ _).1 h4
      exact .inr ⟨a2, c, c2, rfl⟩
    · exact h2.elim
  · rintro ⟨m, h1, ⟨a, c, rfl⟩ | ⟨a, c, c2, rfl⟩⟩
    · exact ⟨m, h1, _, .inl ⟨_, (mt_of _ _ _ _ _).2 ⟨a, rfl, c⟩, rfl⟩, rfl⟩
    · exact ⟨m, h1, _, .inr (.inl ⟨_, (mt_of _ _ _ _ _).2 ⟨by omega, rfl, c⟩, _, (mt_of _ _ _ _ _).2 ⟨a, rfl, c2⟩, rfl⟩), rfl⟩

theorem clo_stop {b : Nat → Int} {len i m : Nat} (h : Clo (mt b len (re (ofN 97 97))) i m) (hb : b i ≠ 97) : m = i := by
  cases h with
  | refl => rfl
  | step a _ => exact (hb ((mt_of _ _ _ _ _).1 a).2.2).elim
theorem clo_go {b : Nat → Int} {len i m : Nat} (h : Clo (mt b len (re (ofN 97 97))) (i + 1) m) (hl : i < len) (hb : b i = 97) : Clo (mt b len (re (ofN 97 97))) i m :=
  .step ((mt_of _ _ _ _ _).2 ⟨hl, rfl, hb⟩) h

theorem alive1 {f t : Int} {ok : Bool} (h : FindP ⟨#[120, 97, 98, 99]⟩ (re topN) f t ok) : f = 1 ∧ t = 4 ∧ ok = true := by
  have b0 : bS ⟨#[120, 97, 98, 99]⟩ 0 = 120 := rfl
  have b1 : bS ⟨#[120, 97, 98, 99]⟩ 1 = 97 := rfl
  have b2 : bS ⟨#[120, 97, 98, 99]⟩ 2 = 98 := rfl
  have b3 : bS ⟨#[120, 97, 98, 99]⟩ 3 = 99 := rfl
  have hs : ByteArray.size ⟨#[120, 97, 98, 99]⟩ = 4 := rfl
  obtain ⟨⟨h1, h2⟩, _⟩ := h
  rw [hs] at h1 h2
  have hm : mt (bS ⟨#[120, 97, 98, 99]⟩) 4 (re topN) 1 4 := (top_mt _ _ _ _).2 ⟨2, clo_go (.refl _) (by omega) b1, .inr ⟨by omega, b2, b3, rfl⟩⟩
  cases ok with
  | false => exact (h1 rfl 1 4 ⟨Nat.zero_le _, fun c => by cases c⟩ (by omega) hm).elim
  | true =>
    obtain ⟨f', t', rfl, rfl, _, ht, hft, hbest⟩ := h2 rfl
    have hb := hbest 1 4 ⟨Nat.zero_le _, fun c => by cases c⟩ (by omega) hm
    have hf0 : f' ≠ 0 := by
      rintro rfl
      obtain ⟨m, hc, h⟩ := (top_mt _ _ _ _).1 hft
      obtain rfl := clo_stop hc (by rw [b0]; decide)
      rw [b0] at h
      rcases h with ⟨_, c, _⟩ | ⟨_, c, _⟩ <;> cases c
    refine ⟨?_, ?_, rfl⟩ <;> omega

theorem alive2 {f t : Int} {ok : Bool} (h : FindP ⟨#[97, 99]⟩ (re topN) f t ok) : ok = false := by
  have b0 : bS ⟨#[97, 99]⟩ 0 = 97 := rfl
  have b1 : bS ⟨#[97, 99]⟩ 1 = 99 := rfl
  have hs : ByteArray.size ⟨#[97, 99]⟩ = 2 := rfl
  obtain ⟨⟨h1, h2⟩, _⟩ := h
  rw [hs] at h1 h2
  cases ok with
  | false => rfl
  | true =>
    obtain ⟨f', t', rfl, rfl, _, ht, hft, hbest⟩ := h2 rfl
    obtain ⟨m, hc, h⟩ := (top_mt _ _ _ _).1 hft
    have key : m < 2 → bS ⟨#[97, 99]⟩ m = 98 → False := by
      intro hm e
      rcases (show m = 0 ∨ m = 1 by omega) with rfl | rfl
      · rw [b0] at e; cases e
      · rw [b1] at e; cases e
    rcases h with ⟨a, c, _⟩ | ⟨a, c, _⟩
    · exact (key a c).elim
    · exact (key (by omega) c).elim

theorem alive3 {v : Int} (h : LongP ⟨#[97, 97, 98, 99, 100]⟩ (re topN) 0 v) : v = 4 := by
  have b0 : bS ⟨#[97, 97, 98, 99, 100]⟩ 0 = 97 := rfl
  have b1 : bS ⟨#[97, 97, 98, 99, 100]⟩ 1 = 97 := rfl
  have b2 : bS ⟨#[97, 97, 98, 99, 100]⟩ 2 = 98 := rfl
  have b3 : bS ⟨#[97, 97, 98, 99, 100]⟩ 3 = 99 := rfl
  have b4 : bS ⟨#[97, 97, 98, 99, 100]⟩ 4 = 100 := rfl
  have hs : ByteArray.size ⟨#[97, 97, 98, 99, 100]⟩ = 5 := rfl
  have hp := h.1 ⟨Int.le_refl _, by omega⟩
  rw [hs] at hp
  have hm : mt (bS ⟨#[97, 97, 98, 99, 100]⟩) 5 (re topN) 0 4 := (top_mt _ _ _ _).2 ⟨2, clo_go (clo_go (.refl _) (by omega) b1) (by omega) b0, .inr ⟨by omega, b2, b3, rfl⟩⟩
  rcases hp with ⟨_, hno⟩ | ⟨j, rfl, hj, hmj, hbest⟩
  · exact (hno 4 hm).elim
  · have h4 := hbest 4 hm
    have h5 : j ≠ 5 := by
      rintro rfl
      obtain ⟨m, hc, h⟩ := (top_mt _ _ _ _).1 hmj
      rcases h with ⟨a, c, e⟩ | ⟨a, c, c2, e⟩
      · obtain rfl : m = 4 := by omega
        rw [b4] at c; cases c
      · obtain rfl : m = 3 := by omega
        rw [b4] at c2; cases c2
    omega

theorem topN_right : rightT topN := (rightB_iff topN).1 (by decide)
theorem topN_sz : sz topN = 9 := by simp [topN, ofN, sz, szL]
theorem topN_dp : dp topN ≤ 300 := by simp [topN, ofN, dp, dpL]
theorem topN_len : lenT topN := by simp [topN, ofN, lenT, lenL, lenMax]
theorem topN_ok : okT topN := by simp [topN, ofN, okT, okL, okR]

theorem below_a1 (w : World) (o : Obj) : Below w.heap.size w (w.alloc o) := (Below.refl _ _).alloc (Nat.le_refl _) _
theorem below_al {w w' : World} {o : Obj} (h : Below (w.alloc o).heap.size (w.alloc o) w') : Below w.heap.size w w' := (below_a1 w o).trans (h.mono (by simp))
theorem below_ad (w : World) (o : Obj) : Below w.heap.size w (w.alloc o).drew := below_drew (below_a1 w o)

theorem compile_right (w : World) (x : Nd) (cs : List Value) (h : k25.K w x cs) (hl : lenT x) (hok : okT x) (hs : sz x ≤ 1000) (hd : dp x ≤ 300) (hr : rightT x) :
    Calls Try.prog 12 #[.agg cs.toArray] w fun e w' => ∃ b, e = .returned (.tuple #[.pointer (some ⟨b, 0, none⟩), .int .i64 0]) ∧ Mach w' w.heap.size b (re x) 0 ∧ w.heap.size ≤ b ∧ Below w.heap.size w w' := by
  refine (compile_nv w x cs h hl hok hs hd).mono ?_
  rintro e w' ⟨hb, ⟨_, b, h1, h2, h3⟩ | ⟨hno, _⟩⟩
  · exact ⟨b, h1, h2, h3, hb⟩
  · exact (hno hr).elim

theorem kp_bw {w w1 w2 : World} {b : Nat} (h : Below w.heap.size w w1) (hk : Kp w1 w2 (fun k => k = b)) (hb : w.heap.size ≤ b) : Below w.heap.size w w2 := h.trans (hk.below h.size (fun k e => by rw [e]; exact hb))

set_option maxHeartbeats 4000000 in
set_option maxRecDepth 100000 in
theorem alive_any (w : World) : Calls Try.prog 9 #[] w fun e w' => e = .returned (.bool true) ∧ Below w.heap.size w w' := by
  have BW_0 := Lib.hid (Below.refl w.heap.size w)
  go_enter Try.func9, Try.ntmps9
  go_wp2_with (first
    | (go_at_call_of 20 (Value.int IntKind.u8 98); refine (of_b 98 98 _).mono ?_; rintro e wp ⟨qp, rfl, hq0, hb0⟩; (have BW_p := Lib.hid (BW_0.out.trans (hb0.mono BW_0.out.size)); have KX_p := Lib.hid (K_of (lo := 98) (hi := 98) hq0); clear hq0 hb0))
    | (go_at_call_of 19 (Value.int IntKind.i64 2); refine (tree_c 2 _ _ _ _).mono ?_; rintro e wr ⟨rfl, hb0⟩; (have KX_r := Lib.hid (Kd.K_below _ (below_al hb0) KX_p.out); have BW_r := Lib.hid (BW_p.out.trans ((below_al hb0).mono BW_p.out.size)); have KB_r := Lib.hid (Kd.K_below _ hb0 (K_tree1 (k := 2) (Blk.new _ _ _) (Kd.K_below _ (below_a1 _ _) KX_p.out))); clear hb0)))
  have KB_s := Lib.hid (Kd.K_below _ (below_ad wr (.cells #[.int .i64 2, .slice none 0 0, .slice (some ⟨wp.heap.size, 0, none⟩) 1 1] 25)) KB_r.out)
  have BW_s := Lib.hid (BW_r.out.trans ((below_ad wr (.cells #[.int .i64 2, .slice none 0 0, .slice (some ⟨wp.heap.size, 0, none⟩) 1 1] 25)).mono BW_r.out.size))
  have BXs : Hid (Blk (wr.alloc (.cells #[.int .i64 2, .slice none 0 0, .slice (some ⟨wp.heap.size, 0, none⟩) 1 1] 25)).drew wr.heap.size 25 #[.int .i64 2, .slice none 0 0, .slice (some ⟨wp.heap.size, 0, none⟩) 1 1]) := (Blk.new _ _ _).drew
  clear BW_0 KX_p BW_p KX_r KB_r BW_r
  go_region_with (first
    | (go_at_call 12; refine (compile_right _ topN _ KG_g.out topN_len topN_ok (by rw [topN_sz]; decide) topN_dp topN_right).mono ?_; rintro e wh ⟨bm, rfl, hm0, hge0, hb0⟩; (have HM := Lib.hid hm0; have hge := Nat.le_trans BW_g.out.size hge0; have BW_h := Lib.hid (BW_g.out.trans (hb0.mono BW_g.out.size)); clear hm0 hge0 hb0))
    | (go_at_call_of 19 (Value.int IntKind.i64 2); have hguard := KF_f; clear hguard; refine (tree_c 2 _ _ _ _).mono ?_; rintro e wg ⟨rfl, hb0⟩; (have KS_g := Lib.hid (Kd.K_below _ (below_al hb0) KS_f.out); have KF_g := Lib.hid (Kd.K_below _ (below_al hb0) KF_f.out); have BW_g := Lib.hid (BW_f.out.trans ((below_al hb0).mono BW_f.out.size)); have KG_g := Lib.hid (Kd.K_below _ hb0 (K_tree2 (k := 2) (Blk.new _ _ _) (Kd.K_below _ (below_a1 _ _) KS_f.out) (Kd.K_below _ (below_a1 _ _) KF_f.out))); have BXg := Lib.hid (Blk.below (BXf.out.alloc _) hb0 (by first | exact BXf.out.lt | exact Nat.lt_of_lt_of_le BXf.out.lt (by simp))); have xlg := BXg.out.lt; have x0g := BXg.out.cell 0; have x1g := BXg.out.cell 1; have x2g := BXg.out.cell 2; simp at x0g x1g x2g; clear hb0))
    | (go_at_call_of 20 (Value.int IntKind.u8 97); refine (of_b 97 97 _).mono ?_; rintro e wa ⟨qa, rfl, hq0, hb0⟩; (have KB_a := Lib.hid (Kd.K_below _ hb0 KB_s.out); have BW_a := Lib.hid (BW_s.out.trans (hb0.mono BW_s.out.size)); have KA_a := Lib.hid (K_of (lo := 97) (hi := 97) hq0); have BXa := Lib.hid (Blk.below BXs.out hb0 (by first | exact BXs.out.lt | exact Nat.lt_of_lt_of_le BXs.out.lt (by simp))); have xla := BXa.out.lt; have x0a := BXa.out.cell 0; have x1a := BXa.out.cell 1; have x2a := BXa.out.cell 2; simp at x0a x1a x2a; clear hq0 hb0))
    | (go_at_call_of 19 (Value.int IntKind.i64 4); refine (tree_c 4 _ _ _ _).mono ?_; rintro e wb ⟨rfl, hb0⟩; (have KB_b := Lib.hid (Kd.K_below _ (below_al hb0) KB_a.out); have KA_b := Lib.hid (Kd.K_below _ (below_al hb0) KA_a.out); have BW_b := Lib.hid (BW_a.out.trans ((below_al hb0).mono BW_a.out.size)); have KS_b := Lib.hid (Kd.K_below _ hb0 (K_tree1 (k := 4) (Blk.new _ _ _) (Kd.K_below _ (below_a1 _ _) KA_a.out))); have BXb := Lib.hid (Blk.below (BXa.out.alloc _) hb0 (by first | exact BXa.out.lt | exact Nat.lt_of_lt_of_le BXa.out.lt (by simp))); have xlb := BXb.out.lt; have x0b := BXb.out.cell 0; have x1b := BXb.out.cell 1; have x2b := BXb.out.cell 2; simp at x0b x1b x2b; clear hb0))
    | (go_at_call_of 20 (Value.int IntKind.u8 98); refine (of_b 98 98 _).mono ?_; rintro e wc ⟨qc, rfl, hq0, hb0⟩; (have KB_c := Lib.hid (Kd.K_below _ hb0 KB_b.out); have KS_c := Lib.hid (Kd.K_below _ hb0 KS_b.out); have BW_c := Lib.hid (BW_b.out.trans (hb0.mono BW_b.out.size)); have KC_c := Lib.hid (K_of (lo := 98) (hi := 98) hq0); have BXc := Lib.hid (Blk.below BXb.out hb0 (by first | exact BXb.out.lt | exact Nat.lt_of_lt_of_le BXb.out.lt (by simp))); have xlc := BXc.out.lt; have x0c := BXc.out.cell 0; have x1c := BXc.out.cell 1; have x2c := BXc.out.cell 2; simp at x0c x1c x2c; clear hq0 hb0))
    | (go_at_call_of 20 (Value.int IntKind.u8 99); refine (of_b 99 99 _).mono ?_; rintro e wd ⟨qd, rfl, hq0, hb0⟩; (have KB_d := Lib.hid (Kd.K_below _ hb0 KB_c.out); have KS_d := Lib.hid (Kd.K_below _ hb0 KS_c.out); have KC_d := Lib.hid (Kd.K_below _ hb0 KC_c.out); have BW_d := Lib.hid (BW_c.out.trans (hb0.mono BW_c.out.size)); have KD_d := Lib.hid (K_of (lo := 99) (hi := 99) hq0); have BXd := Lib.hid (Blk.below BXc.out hb0 (by first | exact BXc.out.lt | exact Nat.lt_of_lt_of_le BXc.out.lt (by simp))); have xld := BXd.out.lt; have x0d := BXd.out.cell 0; have x1d := BXd.out.cell 1; have x2d := BXd.out.cell 2; simp at x0d x1d x2d; clear hq0 hb0))
    | (go_at_call_of 19 (Value.int IntKind.i64 2); refine (tree_c 2 _ _ _ _).mono ?_; rintro e we ⟨rfl, hb0⟩; (have KB_e := Lib.hid (Kd.K_below _ (below_al hb0) KB_d.out); have KS_e := Lib.hid (Kd.K_below _ (below_al hb0) KS_d.out); have KC_e := Lib.hid (Kd.K_below _ (below_al hb0) KC_d.out); have KD_e := Lib.hid (Kd.K_below _ (below_al hb0) KD_d.out); have BW_e := Lib.hid (BW_d.out.trans ((below_al hb0).mono BW_d.out.size)); have KE_e := Lib.hid (Kd.K_below _ hb0 (K_tree2 (k := 2) (Blk.new _ _ _) (Kd.K_below _ (below_a1 _ _) KC_d.out) (Kd.K_below _ (below_a1 _ _) KD_d.out))); have BXe := Lib.hid (Blk.below (BXd.out.alloc _) hb0 (by first | exact BXd.out.lt | exact Nat.lt_of_lt_of_le BXd.out.lt (by simp))); have xle := BXe.out.lt; have x0e := BXe.out.cell 0; have x1e := BXe.out.cell 1; have x2e := BXe.out.cell 2; simp at x0e x1e x2e; clear hb0))
    | (go_at_call_of 19 (Value.int IntKind.i64 3); refine (tree_c 3 _ _ _ _).mono ?_; rintro e wf ⟨rfl, hb0⟩; (have KB_f := Lib.hid (Kd.K_below _ (below_al hb0) KB_e.out); have KS_f := Lib.hid (Kd.K_below _ (below_al hb0) KS_e.out); have KE_f := Lib.hid (Kd.K_below _ (below_al hb0) KE_e.out); have BW_f := Lib.hid (BW_e.out.trans ((below_al hb0).mono BW_e.out.size)); have KF_f := Lib.hid (Kd.K_below _ hb0 (K_tree2 (k := 3) (Blk.new _ _ _) (Kd.K_below _ (below_a1 _ _) KB_e.out) (Kd.K_below _ (below_a1 _ _) KE_e.out))); have BXf := Lib.hid (Blk.below (BXe.out.alloc _) hb0 (by first | exact BXe.out.lt | exact Nat.lt_of_lt_of_le BXe.out.lt (by simp))); have xlf := BXf.out.lt; have x0f := BXf.out.cell 0; have x1f := BXf.out.cell 1; have x2f := BXf.out.cell 2; simp at x0f x1f x2f; clear hb0)))
  all_goals
    have hf1 := find_any wh wg.heap.size bm (re topN) 0 ⟨#[120, 97, 98, 99]⟩ HM.out (by decide)
    go_wp2_with (first
      | (go_at_call_of 17 (Value.string ⟨#[120, 97, 98, 99]⟩); refine hf1.mono ?_; rintro e wi ⟨f, t, ok, stp, rfl, q1, _, _, q2, q3⟩; (obtain ⟨rfl, rfl, rfl⟩ := alive1 q1; have BW_i := Lib.hid (kp_bw BW_h.out q3 hge); have hf2 := find_any wi wg.heap.size bm (re topN) _ ⟨#[97, 99]⟩ q2 (by decide); clear q1 q2 q3 hf1))
      | (go_at_call_of 17 (Value.string ⟨#[97, 99]⟩); refine hf2.mono ?_; rintro e wj ⟨f, t, ok, stp, rfl, q1, _, _, q2, q3⟩; (obtain rfl := alive2 q1; have BW_j := Lib.hid (kp_bw BW_i.out q3 hge); have hf3 := longest_any wj wg.heap.size bm (re topN) _ ⟨#[97, 97, 98, 99, 100]⟩ 0 q2 (by decide); clear q1 q2 q3 hf2))
      | (go_at_call 13; refine hf3.mono ?_; rintro e wk ⟨v, stp, rfl, q1, _, _, q2, q3⟩; (obtain rfl := alive3 q1; have BW_k := Lib.hid (kp_bw BW_j.out q3 hge); clear q1 q2 q3 hf3)))
    go_ret
    exact ⟨rfl, BW_k.out⟩

end Go.Proofs.Ytmhodkkfbbpgaaa.Nm
