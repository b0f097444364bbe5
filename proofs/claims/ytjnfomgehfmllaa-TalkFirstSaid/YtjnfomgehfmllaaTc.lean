/- append onto a row that may begin inside its block; Put. -/
import Derived.Test.YtjnfomgehfmllaaTb
import Derived.Lib.SlFresh
namespace Go.Proofs.Ytjnfomgehfmllaa.Tk
set_option linter.unusedVariables false
set_option linter.unusedSimpArgs false
open Go.RowKit Go.Proofs.Ytjnfomgehfmllaa.Mem Go.Proofs.Ytjnfomgehfmllaa.By Go.Proofs.YtjnfomgehfmllaaW.PrintWords Go.Proofs.YtjnfomgehfmllaaW.PrintLast Go.Proofs.YtjnfomgehfmllaaW.PrintMore

theorem own_mono {w : World} {B N : Nat} {v : Value} {l : List Int} (h : Own w B v l) (hn : N ≤ B) : Own w N v l := ⟨h.1, h.2.elim .inl (fun ⟨g, cap, cur, h1, h2, h3⟩ => .inr ⟨g, cap, cur, h1, by omega, h3⟩)⟩
theorem reads_zero {w : World} {A : Option Addr} {m : Nat} {ys : List Int} (h : ReadsInt w .u8 A m ys) (h0 : m = 0) : ys = [] := List.eq_nil_of_length_eq_zero (by rw [h.1]; exact h0)
theorem run_append_none {w : World} (ty : TypeId) {N n c m c' : Nat} {A A' : Option Addr} (hn : n ≤ c) (h0 : m = 0) (hA : A = none → c = 0) : (Builtin.append_ #[39, 39] ty #[.slice A n c, .slice A' m c']).run Try.prog w = .ok (.slice A n c) w := by
  subst h0
  obtain ⟨i, hi, hsz⟩ := info5s
  have ht := Try.underlying39
  cases A with
  | none =>
    have hc := hA rfl
    subst hc
    obtain rfl : n = 0 := by omega
    cases A' with
    | none => simp [Builtin.append_, run_underlying ht, sizeOf, typeInfo, hi, Builtin.lenOf, Builtin.firstCells]
    | some a => simp [Builtin.append_, run_underlying ht, sizeOf, typeInfo, hi, Builtin.lenOf, Builtin.firstCells, loadCells]; rfl
  | some b =>
    cases A' with
    | none => simp [Builtin.append_, run_underlying ht, sizeOf, typeInfo, hi, Builtin.lenOf, Builtin.firstCells, hn, storeCells]
    | some a => simp [Builtin.append_, run_underlying ht, sizeOf, typeInfo, hi, Builtin.lenOf, Builtin.firstCells, hn, storeCells, loadCells]; rfl
set_option maxRecDepth 100000 in
theorem run_append_q {W : World} (ty : TypeId) {N : Nat} {v : Value} {l ys : List Int} {A : Option Addr} {m c : Nat} (HO : QB W N v l) (HR : ReadsInt W .u8 A m ys) (hbase : N ≤ W.heap.size) (hl : l.length + m ≤ 140737488355328) :
    ∃ v1 w1, (Builtin.append_ #[39, 39] ty #[v, .slice A m c]).run Try.prog W = .ok v1 w1 ∧ QB w1 N v1 (l ++ ys) ∧ W.grownBy w1 v.ownBlock ∧ (v1.ownBlock = v.ownBlock ∨ ∃ b, v1.ownBlock = some b ∧ W.heap.size ≤ b) := by
  rcases Nat.eq_zero_or_pos m with h0 | h0
  · have hy := reads_zero HR h0
    subst hy
    obtain ⟨A1, c1, rfl, hc⟩ := q_slice HO
    have hA : A1 = none → c1 = 0 := fun hA => by
      subst hA
      rcases HO.2 with ⟨_, A', hv, _⟩ | ⟨g, off, cap, cur, hv, _⟩
      · injection hv
      · injection hv with h1; cases h1
    refine ⟨_, W, run_append_none (N := N) ty hc h0 hA, by simpa using HO, World.grownBy.refl W _, .inl rfl⟩
  · obtain ⟨ad, rfl, hcell⟩ := HR.2.2 h0
    obtain ⟨i0, hi, hzz⟩ := Option.map_eq_some_iff.1 info5
    simp only [Prod.mk.injEq] at hzz
    obtain ⟨hz0, hz1, hz2⟩ := hzz
    have hm := HR.1
    obtain ⟨v1, w1, h1, h2, h3, h4⟩ := q_append (P := Try.prog) W N 39 ty 5 i0 (.int .u8 0) 1 1 Try.underlying39 hi hz0 hz1 hz2 rfl (by decide) v l.length (nums .u8 l) HO ad m c (nums .u8 ys)
      (by rw [nums_len, Nat.mul_one]; exact hm) (fun j u hu => by
        have hj : j < ys.length := by
          rcases Nat.lt_or_ge j ys.length with h | h
          · exact h
          · rw [List.getElem?_eq_none (by rw [nums_len]; exact h)] at hu; cases hu
        rw [nums_get hj] at hu
        injection hu with hu
        subst hu
        exact hcell j (by omega)) (fun u hu => by
        obtain ⟨x, _, rfl⟩ := List.mem_map.mp hu
        rfl) h0 (by unfold maxLen; omega) (by omega) hbase
    refine ⟨v1, w1, h1, ?_, h3, h4⟩
    unfold QB
    rw [List.length_append, hm, nums_append]
    exact h2
theorem Rd.move {w w' : World} {v : Value} {l : List Int} (h : Rd w v l) (hk : ∀ k, v.ownBlock = some k → k < w.heap.size → w'.heap[k]? = w.heap[k]?) : Rd w' v l := by
  obtain ⟨A, c, rfl, h2, h4, h5, h6, h7⟩ := h
  refine ⟨A, c, rfl, h2, h4, h5, h6, fun hn => ?_⟩
  obtain ⟨ad, rfl, hc⟩ := h7 hn
  refine ⟨ad, rfl, fun j hj => ?_⟩
  rw [← hc j hj]
  have e : (ad.add j).block = ad.block := by unfold Addr.add; split <;> rfl
  unfold World.cell?
  have hlt : ad.block < w.heap.size := by
    have := World.block_lt_of_cell? w _ (hc j hj)
    rw [e] at this
    exact this
  rw [e, hk ad.block rfl hlt]
theorem Rd.cut {w : World} {A : Option Addr} {c : Nat} {x : List Int} (h : Rd w (.slice A x.length c) x) (j : Nat) (hj : j ≤ x.length) : ∃ v, (∀ W : World, (Instr.slice 39 (.slice A x.length c) (some (.int .i64 (j : Int))) none none).run Try.prog W = .ok v W) ∧ ∀ w', (∀ k, (Value.slice A x.length c).ownBlock = some k → k < w.heap.size → w'.heap[k]? = w.heap[k]?) → Rd w' v (x.drop j) := by
  have h0 := h
  obtain ⟨A', c', he, hc, hA, hr⟩ := h
  injection he with h1 h2 h3
  subst h1; subst h3
  obtain ⟨i5, hi5, hz5⟩ := info5s
  have hcut := cut_from (P := Try.prog) 39 5 .i64 Try.underlying39 hi5 1 hz5 A x.length c (j : Int) (by omega) (by omega)
  simp only [Int.toNat_natCast] at hcut
  refine ⟨_, hcut, fun w' hb => ?_⟩
  obtain ⟨A9, c9, he9, _, _, hr9⟩ := h0.move hb
  injection he9 with e1 e2 e3
  subst e1; subst e3
  have hd := hr9.drop_ j hj hc
  refine ⟨_, _, by rw [List.length_drop], by rw [List.length_drop]; omega, fun hn => ?_, ?_⟩
  · by_cases e : c = j
    · omega
    · rw [if_neg e] at hn
      cases A with
      | none => have := hA rfl; omega
      | some a => simp at hn
  · rw [List.length_drop]
    simpa using hd
theorem Bu.lay {w : World} {g N most : Nat} {bv bv' : Value} {b' : List Int} (hb : ∃ gone, Blk w g 62 #[.int .i64 most, bv, .int .i64 gone]) (hr : QB w N bv' b') (hg : Rng b') (hf : b'.length ≤ most) (hm : most ≤ 2000) (hge : N ≤ g) (he : ∀ k, bv'.ownBlock = some k → k ≠ g) : Bu (w.setCell ⟨g, 1, none⟩ bv') g N most bv' b' := by
  obtain ⟨gone, hb⟩ := hb
  refine ⟨⟨gone, ?_⟩, q_move hr (fun k e => Below.heap_setCell w ⟨g, 1, none⟩ bv' k (he k e)), hg, hf, hm, hge⟩
  have := hb.set_ 1 bv'
  simpa using this
theorem blk_cells {w : World} {g : Nat} {t : TypeId} {a b c : Value} (hb : Blk w g t #[a, b, c]) : w.cell? ⟨g, 0, none⟩ = some a ∧ w.cell? ⟨g, 1, none⟩ = some b ∧ w.cell? ⟨g, 2, none⟩ = some c ∧ w.frozen? ⟨g, 1, none⟩ = false ∧ w.frozen? ⟨g, 2, none⟩ = false := by
  have k0 := hb.cell 0; have k1 := hb.cell 1; have k2 := hb.cell 2
  simp only [List.getElem?_toArray, List.getElem?_cons_zero, List.getElem?_cons_succ] at k0 k1 k2
  exact ⟨k0, k1, k2, hb.frozen 1, hb.frozen 2⟩
set_option maxHeartbeats 4000000 in
set_option maxRecDepth 100000 in
theorem put_any {w : World} {g N most : Nat} {bv xv : Value} {b x : List Int} (h : Bu w g N most bv b) (hN : N ≤ w.heap.size) (hx : Rd w xv x) (hxr : Rng x) (hxl : x.length ≤ 140737488355328) (hxg : ∀ k, xv.ownBlock = some k → k ≠ g) : Calls Try.prog 23 #[.pointer (some ⟨g, 0, none⟩), xv] w fun e w' => ∃ bv', e = .returned (.int .i64 ((over most b x : Nat) : Int)) ∧ Bu w' g N most bv' (putP most b x) ∧ Kp w w' (fun q => q = g ∨ bv.ownBlock = some q) ∧ (∀ k, bv'.ownBlock = some k → bv.ownBlock = some k ∨ w.heap.size ≤ k) := by
  obtain ⟨gone', hbk⟩ := h.blk
  obtain ⟨gone, k0, k1, k2, f1, f2⟩ := h.blk0
  have hgl : g < w.heap.size := hbk.lt
  obtain ⟨A, c, rfl, hc⟩ := q_slice h.row
  obtain ⟨A2, c2, rfl, hc2, hA2, hrx⟩ := hx
  have hlen : (b.length : Int) ≤ 2000 := by have := h.fit; have := h.most_le; omega
  have hm0 : (most : Int) ≤ 2000 := by have := h.most_le; omega
  have hxl' : (x.length : Int) ≤ 140737488355328 := by omega
  have s1 : IntKind.i64.wrap ((b.length : Int) + (x.length : Int)) = (b.length : Int) + (x.length : Int) := IntWalk.i64_in _ (by omega)
  have s2 : IntKind.i64.wrap ((b.length : Int) + (x.length : Int) - (most : Int)) = (b.length : Int) + (x.length : Int) - (most : Int) := IntWalk.i64_in _ (by omega)
  have s3 : max ((b.length : Int) + (x.length : Int) - (most : Int)) 0 = ((over most b x : Nat) : Int) := by unfold over; omega
  have HB := Lib.hid h
  have HX : Hid (Rd w (.slice A2 x.length c2) x) := Lib.hid ⟨A2, c2, rfl, hc2, hA2, hrx⟩
  have HXR := Lib.hid hxr
  have HGL := Lib.hid hgl
  have HXG := Lib.hid hxg
  have HNL := Lib.hid hN
  have hov : over most b x ≤ x.length := by unfold over; have := h.fit; omega
  obtain ⟨ov, hoe⟩ : ∃ n, n = over most b x := ⟨_, rfl⟩
  have HPUT : Hid (putP most b x = (b ++ x).drop ov) := Lib.hid (by rw [hoe]; rfl)
  rw [← hoe] at s3 hov ⊢
  have HOE := Lib.hid hoe
  clear h hbk hgl hN hc hc2 hA2 hrx hxl hxr hoe hxg
  go_enter Try.func23, Try.ntmps23
  go_wp2
  go_quiet (fail)
  go_upto_region 3 with fail
  obtain ⟨W2, hW2⟩ : ∃ W, W = (w.drewN nq).setCell ⟨g, 2, none⟩ (.int .i64 (wrap64 (gone + (ov : Int)))) := ⟨_, rfl⟩
  rw [← hW2]
  have HK2 : Hid (Kp w W2 (fun q => q = g)) := Lib.hid (by rw [hW2]; exact ((Kp.refl w (fun q => q = g)).drewN nq).set_ (p := ⟨g, 2, none⟩) (fun _ => rfl) _)
  have HB2 : Hid (Bu W2 g N most (.slice A b.length c) b) := Lib.hid (by
    obtain ⟨gone0, hbk⟩ := HB.out.blk
    refine ⟨⟨wrap64 (gone + (ov : Int)), ?_⟩, q_move HB.out.row (fun k e => HK2.out.block k (q_lt HB.out.row k e) (HB.out.ne k e)), HB.out.rng, HB.out.fit, HB.out.most_le, HB.out.ge⟩
    rw [hW2]
    have := (hbk.drewN nq).set_ 2 (.int .i64 (wrap64 (gone + (ov : Int))))
    simpa using this)
  have HN2 : Hid (N ≤ W2.heap.size) := Lib.hid (Nat.le_trans HNL.out HK2.out.size)
  have hx2 : Rd W2 (.slice A2 x.length c2) x := HX.out.move fun k e hlt => HK2.out.block k hlt (HXG.out k e)
  obtain ⟨gone3, p0, p1, p2, q1, q2⟩ := HB2.out.blk0
  have HX2 := Lib.hid hx2
  have HRG : Hid (Rng (putP most b x)) := Lib.hid (by rw [HPUT.out]; exact (HB2.out.rng.app HXR.out).drop ov)
  clear hW2 hx2 k0 k1 k2 f1 f2
  by_cases hge : b.length ≤ ov
  · have g0 : (b.length : Int) ≤ (ov : Int) := by omega
    have g1 : decide ((b.length : Int) ≤ (ov : Int)) = true := by simp; omega
    have g2 : decide (b.length ≤ ov) = true := by simpa using hge
    obtain ⟨j, hj⟩ : ∃ j, j = ov - b.length := ⟨_, rfl⟩
    obtain ⟨v7, hcut, hrd⟩ := HX2.out.cut j (by omega)
    have s4 : (ov : Int) - (b.length : Int) = (j : Int) := by omega
    have HC := Lib.hid (clone_any (hrd W2 (fun _ _ _ => rfl)) (by rw [List.length_drop]; omega))
    have HP2 : Hid (putP most b x = x.drop j) := Lib.hid (by rw [HPUT.out, List.drop_append, List.drop_of_length_le hge, List.nil_append, hj])
    clear hrd hj
    have HF : Hid (∀ w1 v1, Own w1 W2.heap.size v1 (x.drop j) → Bu w1 g N most (.slice A b.length c) b → Below W2.heap.size W2 w1 → ∃ bv', Bu (w1.setCell ⟨g, 1, none⟩ v1) g N most bv' (putP most b x) ∧ Kp w (w1.setCell ⟨g, 1, none⟩ v1) (fun q => q = g ∨ (Value.slice A b.length c).ownBlock = some q) ∧ (∀ k, bv'.ownBlock = some k → (Value.slice A b.length c).ownBlock = some k ∨ w.heap.size ≤ k)) := Lib.hid fun w1 v1 ho hb1 hw => by
      have hsz := HK2.out.size
      have hgl := HGL.out
      have hnl := HN2.out
      refine ⟨v1, Bu.lay hb1.blk ?_ HRG.out (putP_len _ _ _) hb1.most_le hb1.ge (fun k e c => ?_), ?_, fun k e => .inr ?_⟩
      · rw [HP2.out]; exact (own_mono ho hnl).qb
      · have := ownsRow_ge ho e; omega
      · refine ((HK2.out.mono (fun k _ e => .inl e)).trans (Kp.of_below (ex := fun _ => False) hw (fun k a c => by omega)) (fun k _ e => e.elim)).set_ (p := ⟨g, 1, none⟩) (fun _ => .inl rfl) _
      · have := ownsRow_ge ho e; omega
    clear HNL HOE HPUT HXR HRG HP2
    go_wp2_with (first | (go_at_call 16; refine HC.out.mono ?_; rintro e w1 ⟨v1, rfl, ho, hb⟩; (obtain ⟨A1, c1, rfl, hc1⟩ := q_slice ho.qb; clear hc1; obtain ⟨n1, hn1⟩ : ∃ n, n = (x.drop j).length := ⟨_, rfl⟩; rw [← hn1] at ho ⊢; clear hn1; have HB1 := Lib.hid (HB2.out.below hb); obtain ⟨gone1, r0, r1, r2, r3, r4⟩ := HB1.out.blk0; have HO := Lib.hid ho; have HW := Lib.hid hb; clear ho hb)))
    go_ret
    obtain ⟨bv', h1, h2, h3⟩ := HF.out w1 _ HO.out HB1.out HW.out
    exact ⟨bv', rfl, h1, h2, h3⟩
  · have g0 : (ov : Int) < (b.length : Int) := by omega
    have g1 : decide ((b.length : Int) ≤ (ov : Int)) = false := by simp; omega
    have g2 : decide (b.length ≤ ov) = false := by simpa using hge
    obtain ⟨i5, hi5, hz5⟩ := info5s
    have HD := Lib.hid (q_drop HB2.out.row (show ov ≤ b.length by omega))
    have hcut2 := cut_from (P := Try.prog) 39 5 .i64 Try.underlying39 hi5 1 hz5 A b.length c (ov : Int) (by omega) (by omega)
    simp only [Int.toNat_natCast] at hcut2
    obtain ⟨A7, hA7⟩ : ∃ x, x = (if c = ov then A else A.map (·.add (ov * 1))) := ⟨_, rfl⟩
    rw [← hA7] at hcut2 HD
    have HDL : Hid (QB W2 N (.slice A7 (b.length - ov) (c - ov)) (b.drop ov)) := Lib.hid (by
      have := HD.out
      rw [Nat.mul_one] at this
      have e : (b.drop ov).length = b.length - ov := List.length_drop
      unfold QB
      rw [e]
      have e2 : nums .u8 (b.drop ov) = (nums .u8 b).drop ov := by simp [nums]
      rw [e2]; exact this)
    have HOB : Hid ((Value.slice A7 (b.length - ov) (c - ov)).ownBlock = (Value.slice A b.length c).ownBlock) := Lib.hid (by
      rw [hA7]
      cases A with
      | none => split <;> rfl
      | some a =>
        split
        · rfl
        · simp only [Option.map_some, Value.ownBlock]
          congr 1
          unfold Addr.add; split <;> rfl)
    have HRX : Hid (ReadsInt W2 .u8 A2 x.length x) := Lib.hid (by
      obtain ⟨A9, c9, he, _, _, hr⟩ := HX2.out
      injection he with e1 e2 e3
      subst e1; exact hr)
    obtain ⟨v9, w9, hrun, hq9, hg9, ho9⟩ := run_append_q 39 HDL.out HRX.out HN2.out (c := c2) (by rw [List.length_drop]; have h1 := HOE.out; have h2 := HB2.out.fit; unfold over at h1; omega)
    obtain ⟨A9, c9, rfl, hc9⟩ := q_slice hq9
    obtain ⟨n9, hn9⟩ : ∃ n, n = (b.drop ov ++ x).length := ⟨_, rfl⟩
    rw [← hn9] at hrun hq9 ho9
    have HB9 : Hid (∃ gone, Blk w9 g 62 #[.int .i64 most, .slice A b.length c, .int .i64 gone]) := Lib.hid (by
      obtain ⟨gone0, hbk⟩ := HB2.out.blk
      exact ⟨gone0, hbk.kp ((Kp.refl W2 (fun q => (Value.slice A b.length c).ownBlock = some q)).grown hg9 (fun k _ e => by rw [HOB.out] at e; exact e)) (fun e => HB2.out.ne g e rfl)⟩)
    obtain ⟨gone9, hb9⟩ := HB9.out
    obtain ⟨r0, r1, r2, r3, r4⟩ := blk_cells hb9
    have HP2 : Hid (putP most b x = b.drop ov ++ x) := Lib.hid (by rw [HPUT.out, List.drop_append_of_le_length (by omega)])
    have HF : Hid (∃ bv', Bu (w9.setCell ⟨g, 1, none⟩ (.slice A9 n9 c9)) g N most bv' (putP most b x) ∧ Kp w (w9.setCell ⟨g, 1, none⟩ (.slice A9 n9 c9)) (fun q => q = g ∨ (Value.slice A b.length c).ownBlock = some q) ∧ (∀ k, bv'.ownBlock = some k → (Value.slice A b.length c).ownBlock = some k ∨ w.heap.size ≤ k)) := Lib.hid (by
      have hsz := HK2.out.size
      have hgl := HGL.out
      have hnew : ∀ k, (Value.slice A9 n9 c9).ownBlock = some k → (Value.slice A b.length c).ownBlock = some k ∨ W2.heap.size ≤ k := fun k e => by
        rcases ho9 with h1 | ⟨b9, h1, h2⟩
        · rw [HOB.out] at h1; rw [h1] at e; exact .inl e
        · rw [h1] at e; injection e with e; subst e; exact .inr h2
      refine ⟨_, Bu.lay ⟨gone9, hb9⟩ ?_ HRG.out (putP_len _ _ _) HB2.out.most_le HB2.out.ge (fun k e => ?_), ?_, fun k e => ?_⟩
      · rw [HP2.out]; exact hq9
      · rcases hnew k e with h1 | h1
        · exact HB2.out.ne k h1
        · omega
      · refine ((HK2.out.mono (fun k _ e => .inl e)).grown hg9 (fun k _ e => .inr ?_)).set_ (p := ⟨g, 1, none⟩) (fun _ => .inl rfl) _
        rw [HOB.out] at e; exact e
      · rcases hnew k e with h1 | h1
        · exact .inl h1
        · exact .inr (by omega))
    clear HNL HOE HPUT HXR HRG HP2 hn9 hq9 hc9 hg9 ho9 hb9 HDL HD hA7 hi5 hz5
    go_wp2_with (first | ((with_reducible refine gate_builtin (b := .append) (xs := #[.tmp 55, .tmp 56]) rfl ?_); at_builtin; refine Lib.wpList_append_run_sl _ rfl _ _ 39 rfl _ _ rfl rfl hrun ?_))
    go_ret
    obtain ⟨bv', h1, h2, h3⟩ := HF.out
    exact ⟨bv', rfl, h1, h2, h3⟩
end Go.Proofs.Ytjnfomgehfmllaa.Tk
