/- line.Open. -/
import Derived.Test.YtjnfomgehfmllaaTl
namespace Go.Proofs.Ytjnfomgehfmllaa.Tk
set_option linter.unusedVariables false
set_option linter.unusedSimpArgs false
open Go.RowKit Go.Proofs.Ytjnfomgehfmllaa.Mem Go.Proofs.Ytjnfomgehfmllaa.By Go.Proofs.YtjnfomgehfmllaaW.PrintWords Go.Proofs.YtjnfomgehfmllaaW.PrintLast Go.Proofs.YtjnfomgehfmllaaW.PrintMore

theorem blk3 {w : World} {g : Nat} {t : TypeId} {a b c : Value} (hb : Blk w g t #[a, b, c]) : w.cell? ⟨g, 0, none⟩ = some a ∧ w.cell? ⟨g, 1, none⟩ = some b ∧ w.cell? ⟨g, 2, none⟩ = some c ∧ w.frozen? ⟨g, 0, none⟩ = false := by
  have k0 := hb.cell 0; have k1 := hb.cell 1; have k2 := hb.cell 2
  simp only [List.getElem?_toArray, List.getElem?_cons_zero, List.getElem?_cons_succ] at k0 k1 k2
  exact ⟨k0, k1, k2, hb.frozen 0⟩
set_option maxHeartbeats 4000000 in
set_option maxRecDepth 100000 in
theorem open_any {w : World} {v : Value} {l : List (Int × List Int)} (h : ChIn w v l) (fin wt : Int) : Calls Try.prog 8 #[.agg #[v, .int .i64 fin, .int .i64 wt]] w fun e w' => ∃ g, e = .returned (.pointer (some ⟨g, 0, none⟩)) ∧ w.heap.size ≤ g ∧ g < w'.heap.size ∧ Below w.heap.size w w' ∧ Li w' g g ⟨l, fin, wt⟩ ⟨0, 0, 0⟩ := by
  have HI := Lib.hid h
  obtain ⟨A, c, rfl, hlc, hl1000, _, _⟩ := id h
  obtain ⟨n, hn⟩ : ∃ n, n = l.length := ⟨_, rfl⟩
  have HNN := Lib.hid hn
  rw [← hn] at hlc hl1000 ⊢
  clear h hn
  obtain ⟨W, hW⟩ : ∃ W, W = (w.alloc (.cells #[.slice A n c, .int .i64 fin, .int .i64 wt] 36)).alloc (.cells #[.slice none 0 0, .int .i64 fin, .int .i64 wt] 36) := ⟨_, rfl⟩
  have HBW : Hid (Below w.heap.size w W) := Lib.hid (by rw [hW]; exact ((Below.refl _ _).alloc (Nat.le_refl _) _).alloc (by simp) _)
  have HSB : Hid (Blk W w.heap.size 36 #[.slice A n c, .int .i64 fin, .int .i64 wt]) := Lib.hid (by rw [hW]; exact (Blk.new _ _ _).alloc _)
  have HCB : Hid (Blk W (w.heap.size + 1) 36 #[.slice none 0 0, .int .i64 fin, .int .i64 wt]) := Lib.hid (by rw [hW]; exact Blk.last _ _ _ (by simp))
  have HWE := Lib.hid hW
  clear hW
  go_enter Try.func8, Try.ntmps8
  go_upto_region 3 with fail
  rw [← HWE.out]
  obtain ⟨p0, p1, p2, _⟩ := blk3 HSB.out
  go_wp2
  go_loopg [11] (n + 1) (fun kq v11 wr => ∃ (i : Nat) (vo : Value), i ≤ n ∧ v11 = .int .i64 i ∧ Hid (kq = n + 1 - i) ∧ Hid (Blk wr (w.heap.size + 1) 36 #[vo, .int .i64 fin, .int .i64 wt]) ∧ Hid (RowK wr w.heap.size vo (l.take i)) ∧ Hid (Below w.heap.size w wr))
  case atStart => exact ⟨0, _, by omega, rfl, Lib.hid rfl, HCB, Lib.hid (RowK.nil _ _), HBW⟩
  case round =>
    obtain ⟨i, vo, hi, rfl, HKQ, HSR, HRK, HW⟩ := hrel
    rcases Nat.lt_or_ge i n with hlt | hge
    · have hlt' : i < l.length := by have := HNN.out; omega
      obtain ⟨A', c', he, _, _, hA, hcell⟩ := HI.out.below HW.out
      injection he with i1 i2 i3
      subst i1; subst i3
      obtain ⟨gc, oc, rfl, hgs⟩ := hA (fun e => by rw [e] at hlt'; simp at hlt')
      obtain ⟨bv, c0, c1, c2, c3, c4⟩ := hcell gc oc rfl i hlt'
      obtain ⟨⟨kw, x⟩, hkx⟩ : ∃ x, x = l[i] := ⟨_, rfl⟩
      rw [← hkx] at c0 c2 c3 c4
      simp only at c0 c2 c3 c4
      have HTK : Hid (l.take (i + 1) = l.take i ++ [(kw, x)]) := Lib.hid (by
        rw [List.take_succ_eq_append_getElem hlt', ← hkx])
      have g1 : decide ((i : Int) < (n : Int)) = true := by simp; omega
      have g2 : (i : Int) < (n : Int) := by omega
      have s1 : IntKind.i64.wrap ((i : Int) + 1) = (i : Int) + 1 := IntWalk.i64_in _ (by omega)
      have HL : Hid ((l.take i).length ≤ 1000) := Lib.hid (by rw [List.length_take]; omega)
      obtain ⟨W3, hW3⟩ : ∃ W', W' = wr.alloc (.cells #[.int .i64 kw, bv] 46) := ⟨_, rfl⟩
      have HB3 : Hid (Below wr.heap.size wr W3) := Lib.hid (by rw [hW3]; exact (Below.refl _ _).alloc (Nat.le_refl _) _)
      have HX3 : Hid (Blk W3 wr.heap.size 46 #[.int .i64 kw, bv]) := Lib.hid (by rw [hW3]; exact Blk.new _ _ _)
      have HS3 : Hid (Blk W3 (w.heap.size + 1) 36 #[vo, .int .i64 fin, .int .i64 wt]) := Lib.hid (HSR.out.below HB3.out HSR.out.lt)
      have HC := Lib.hid (clone_any (w := W3.drew) (v := bv) (l := x) ((c2.below HB3.out).move (fun _ _ _ => rfl)) c4)
      have HRX := Lib.hid (And.intro c3 c4)
      have HWE3 := Lib.hid hW3
      obtain ⟨A4, c4', rfl, _⟩ := id c2
      obtain ⟨n4, hn4⟩ : ∃ n, n = x.length := ⟨_, rfl⟩
      rw [← hn4] at HC HX3 HWE3 c1
      clear hcell hA hkx hgs hW3 c2 c3 c4 hn4
      go_upto_region 6 with fail
      rw [← HWE3.out]
      have q0 := HX3.out.cell 0; have q1 := HX3.out.cell 1
      simp only [List.getElem?_toArray, List.getElem?_cons_zero, List.getElem?_cons_succ] at q0 q1
      obtain ⟨r0, r1, r2, r3⟩ := blk3 HS3.out
      clear c0 c1
      go_region_law (first
        | (refine step_push (w5 := w5) (by rfl) (.tmp 16) (.tmp 23) (by rfl) (by rfl) (by rfl) HK5.out HO5.out HRX.out.1 HRX.out.2 HL.out HZ5.out ((Below.refl _ _).alloc (Nat.le_refl _) _) (Blk.new _ _ _) ?_; intro v9 w9 hk9 hb9 hu9; (obtain ⟨A9, n9, c9, rfl⟩ := hk9.form; have HK9 := Lib.hid hk9; have HB9 := Lib.hid hb9; have HS9 : Hid (Blk w9 (w.heap.size + 1) 36 #[vo, .int .i64 fin, .int .i64 wt]) := Lib.hid ((hu9 _ _ _ (by decide) (HS5.out.alloc _).lt (HS5.out.alloc _)).trans (HS5.out.alloc _)); obtain ⟨t0, t1, t2, t3⟩ := blk3 HS9.out; clear hk9 hb9 hu9))
        | (go_simp; go_at_call 16; refine HC.out.mono ?_; rintro e w5 ⟨v5, rfl, ho5, hb5⟩; (obtain ⟨A5, c5, rfl, _⟩ := q_slice ho5.qb; obtain ⟨n5, hn5⟩ : ∃ n, n = x.length := ⟨_, rfl⟩; rw [← hn5] at ho5 ⊢; have hb35 : Below W3.heap.size W3 w5 := ⟨hb5.os, hb5.tape, hb5.output, hb5.size, hb5.block⟩; have hs5 : w.heap.size ≤ W3.heap.size := Nat.le_trans HW.out.size HB3.out.size; have HO5 := Lib.hid (own_mono ho5 hs5); have HB5 := Lib.hid (HW.out.trans ((HB3.out.trans (hb35.mono HB3.out.size)).mono HW.out.size)); have HS5 := Lib.hid (HS3.out.below hb35 HS3.out.lt); have HK5 := Lib.hid ((HRK.out.below HB3.out).below hb35); have HZ5 := Lib.hid HB5.out.size; have hx5 := HX3.out.below hb35 HX3.out.lt; have x0 := hx5.cell 0; obtain ⟨y0, y1, y2, y3⟩ := blk3 HS5.out; have z0 := (blk3 (HS5.out.alloc (.cells #[.int .i64 kw, .slice A5 n5 c5] 46))).1; simp only [List.getElem?_toArray, List.getElem?_cons_zero, List.getElem?_cons_succ] at x0; clear ho5 hb5 hb35 hs5 hx5 hn5; go_wp2)))
      all_goals
        have HFS := Lib.hid (HS9.out.set_ 0 (.slice A9 n9 c9))
        have HFB : Hid (Below w.heap.size w (w9.setCell ⟨w.heap.size + 1, 0, none⟩ (.slice A9 n9 c9))) := Lib.hid (((HB5.out.alloc HZ5.out _).trans HB9.out).setCell (by simp) _)
        have HFK : Hid (RowK (w9.setCell ⟨w.heap.size + 1, 0, none⟩ (.slice A9 n9 c9)) w.heap.size (.slice A9 n9 c9) (l.take (i + 1))) := Lib.hid (by
          rw [HTK.out]
          refine HK9.out.up fun k cells t ht hk hc => Below.heap_setCell w9 ⟨w.heap.size + 1, 0, none⟩ _ k (fun e => ?_)
          have hne : t ≠ 36 := by rcases ht with rfl | rfl <;> decide
          exact Blk.ne_ (t := t) hc HS9.out hne e)
        go_wp2_with fail
        go_roundg (n + 1 - (i + 1))
        case measure => have := HKQ.out; omega
        case rel => exact ⟨i + 1, .slice A9 n9 c9, by omega, by simp, Lib.hid rfl, HFS, HFK, HFB⟩
    · obtain rfl : i = n := by omega
      have HR : Hid (RowK wr w.heap.size vo l) := Lib.hid (by have := HRK.out; rw [List.take_of_length_le (by have := HNN.out; omega)] at this; exact this)
      have g1 : decide ((i : Int) < (i : Int)) = false := by simp
      obtain ⟨A9, n9, c9, rfl⟩ := HR.out.form
      obtain ⟨p0, p1, p2, _⟩ := blk3 HSR.out
      have HF : Hid (Li (wr.alloc (.cells #[.slice A9 n9 c9, .int .i64 fin, .int .i64 wt, .int .i64 0, .int .i64 0, .int .i64 0, .slice none 0 0] 60)) wr.heap.size wr.heap.size ⟨l, fin, wt⟩ ⟨0, 0, 0⟩) := Lib.hid ⟨⟨.slice A9 n9 c9, .slice none 0 0, Blk.new _ _ _, (HR.out.chs).same (by simp) (fun k _ hk => Below.heap_alloc wr _ k hk)⟩, by have := HNN.out; simp only; omega, Nat.zero_le _, Int.le_refl _, by simp, Nat.le_refl _⟩
      clear HRK
      go_wp2
      go_ret
      exact ⟨wr.heap.size, rfl, HW.out.size, by simp, HW.out.alloc HW.out.size _, HF.out⟩
end Go.Proofs.Ytjnfomgehfmllaa.Tk
