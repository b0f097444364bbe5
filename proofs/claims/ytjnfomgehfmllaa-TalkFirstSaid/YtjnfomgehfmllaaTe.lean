/- What comes next of a session. -/
import Derived.Test.YtjnfomgehfmllaaTd
namespace Go.Proofs.Ytjnfomgehfmllaa.Tk
set_option linter.unusedVariables false
set_option linter.unusedSimpArgs false
open Go.RowKit Go.Proofs.Ytjnfomgehfmllaa.Mem Go.Proofs.Ytjnfomgehfmllaa.By Go.Proofs.YtjnfomgehfmllaaW.PrintWords Go.Proofs.YtjnfomgehfmllaaW.PrintLast Go.Proofs.YtjnfomgehfmllaaW.PrintMore

theorem Li.now {w : World} {g N : Nat} {s : Ln} {d : Ld} (h : Li w g N s d) (q : Nat) (x : Int) : Li ((w.drewN q).setCell ⟨g, 4, none⟩ (.int .i64 x)) g N s ⟨d.at_, x, d.last⟩ :=
  h.go (((Kp.refl w (fun k => k = g)).drewN q).set_ (p := ⟨g, 4, none⟩) (fun _ => rfl) _) (fun v sent hb => by
    have := (hb.drewN q).set_ 4 (.int .i64 x)
    simpa using this) h.at_le h.last_ge h.last_le
theorem Li.step {w : World} {g N : Nat} {s : Ln} {d : Ld} (h : Li w g N s d) (q : Nat) (x : Int) (ha : d.at_ < s.chunks.length) (h0 : 0 ≤ x) (h1 : x ≤ d.last + 1000000) : Li (((w.drewN q).setCell ⟨g, 3, none⟩ (.int .i64 ((d.at_ : Int) + 1))).setCell ⟨g, 5, none⟩ (.int .i64 x)) g N s ⟨d.at_ + 1, d.now, x⟩ :=
  h.go ((((Kp.refl w (fun k => k = g)).drewN q).set_ (p := ⟨g, 3, none⟩) (fun _ => rfl) _).set_ (p := ⟨g, 5, none⟩) (fun _ => rfl) _) (fun v sent hb => by
    have := ((hb.drewN q).set_ 3 (.int .i64 ((d.at_ : Int) + 1))).set_ 5 (.int .i64 x)
    simpa using this) ha h0 (by have := h.last_le; push_cast; omega)
theorem due_step {w : World} {g N : Nat} {s : Ln} {d : Ld} (h : Li w g N s d) (h1 : (due s d).2 = 1) : d.at_ < s.chunks.length ∧ 0 ≤ (due s d).1 ∧ (due s d).1 ≤ d.last + 1000000 := by
  unfold due at h1 ⊢
  have h0 := h.last_ge
  split at h1
  · rename_i c hc
    have ht := ticks_rng c.1
    exact ⟨(List.getElem?_eq_some_iff.1 hc).1, by simp only; omega, by simp only; omega⟩
  · exfalso
    repeat' split at h1
    all_goals simp at h1
theorem due_kinds (s : Ln) (d : Ld) : (due s d).2 = 1 ∨ (due s d).2 = 2 ∨ (due s d).2 = 3 ∨ (due s d).2 = 4 := by
  unfold due
  repeat' split
  all_goals simp
/-- What Next leaves. -/
def NextQ (w : World) (g N : Nat) (s : Ln) (d : Ld) (lim : Int) (e : Ending) (w' : World) : Prop :=
  ∃ xv, e = .returned (.tuple #[.int .i64 (nextP s d lim).1, xv]) ∧ Li w' g N s (nextP s d lim).2.2 ∧ Kp w w' (fun k => k = g) ∧ Own w' w.heap.size xv (nextP s d lim).2.1
theorem own_nil (w : World) (B : Nat) : Own w B (.slice none 0 0) [] := ⟨rfl, .inl ⟨rfl, rfl⟩⟩
set_option maxHeartbeats 4000000 in
set_option maxRecDepth 100000 in
theorem next_any {w : World} {g N : Nat} {s : Ln} {d : Ld} (h : Li w g N s d) (lim : Int) : Calls Try.prog 22 #[.pointer (some ⟨g, 0, none⟩), .int .i64 lim] w (NextQ w g N s d lim) := by
  obtain ⟨A, c, sent, hch, hlc, k0, k1, k2, k3, k4, k5, k6, f3, f4, f5⟩ := h.blk0
  have HL := Lib.hid h
  have HD := Lib.hid (due_any h)
  have HS := Lib.hid (due_step h)
  obtain ⟨dd, hdd⟩ : ∃ dd, dd = due s d := ⟨_, rfl⟩
  obtain ⟨wh, wt⟩ := dd
  have HE := Lib.hid hdd
  have hk := due_kinds s d
  rw [← hdd] at HD HS hk
  simp only at HD HS hk
  obtain ⟨now, hnow⟩ : ∃ n, n = d.now := ⟨_, rfl⟩
  have HN := Lib.hid hnow
  rw [← hnow] at k4
  obtain ⟨mx, hmx⟩ : ∃ n, n = max lim now := ⟨_, rfl⟩
  have e0 : max lim now = mx := hmx.symm
  have e1 : max now lim = mx := by omega
  have HM := Lib.hid hmx
  clear h hdd hnow hmx
  by_cases hA : wt = 4 ∨ mx < wh
  · have HF : Hid (∀ q, NextQ w g N s d lim (.returned (.tuple #[.int .i64 4, .slice none 0 0])) ((w.drewN q).setCell ⟨g, 4, none⟩ (.int .i64 mx))) := Lib.hid fun q => by
      have hn : nextP s d lim = (4, [], ⟨d.at_, max d.now lim, d.last⟩) := by
        unfold nextP
        rw [← HE.out, if_pos]
        simp only
        rw [← HN.out, ← HM.out]; exact hA
      refine ⟨_, by rw [hn], ?_, ?_, ?_⟩
      · rw [hn]
        have e : max d.now lim = mx := by rw [← HN.out]; exact e1
        simp only [e]
        exact HL.out.now q mx
      · exact ((Kp.refl w (fun k => k = g)).drewN q).set_ (p := ⟨g, 4, none⟩) (fun _ => rfl) _
      · rw [hn]; exact own_nil _ _
    clear hk HS HE hch
    by_cases h4 : wt = 4
    · subst h4
      clear hA
      go_enter Try.func22, Try.ntmps22
      go_wp2_with (first | (go_at_call 30; refine HD.out.mono ?_; rintro e w1 ⟨rfl, q, rfl⟩))
      go_ret2
      exact HF.out _
    · have g1 : (wt == 4) = false := by simpa using h4
      have g2 : decide (wt = 4) = false := by simpa using h4
      have g3 : mx < wh := hA.resolve_left h4
      have g4 : decide (mx < wh) = true := by simpa using g3
      clear hA
      go_enter Try.func22, Try.ntmps22
      go_wp2_with (first | (go_at_call 30; refine HD.out.mono ?_; rintro e w1 ⟨rfl, q, rfl⟩))
      go_ret2
      exact HF.out _
  · have g0 : wt ≠ 4 := fun e => hA (.inl e)
    have g1 : (wt == 4) = false := by simpa using g0
    have g2 : decide (wt = 4) = false := by simpa using g0
    have g3 : ¬ mx < wh := fun e => hA (.inr e)
    have g4 : decide (mx < wh) = false := by simpa using g3
    have g5 : wh ≤ mx := by omega
    obtain ⟨nw, hnw⟩ : ∃ n, n = max now wh := ⟨_, rfl⟩
    have e2 : max now wh = nw := hnw.symm
    clear hnw
    by_cases h1 : wt = 1
    · subst h1
      obtain ⟨hat, hw0, hw1⟩ := HS.out rfl
      have hn : nextP s d lim = (1, (s.chunks[d.at_]).2, ⟨d.at_ + 1, nw, wh⟩) := by
        unfold nextP
        rw [← HE.out, if_neg (by simp only; rw [← HN.out, ← HM.out]; exact hA), if_neg (by simp), List.getElem?_eq_getElem hat]
        simp only [Option.getD_some]
        rw [← HN.out, e2]
      have HNX := Lib.hid hn
      have HAT := Lib.hid hat
      have HB := Lib.hid (And.intro hw0 hw1)
      clear hn hk HS HE hch hA hw0 hw1 hlc k0 k1 k2 k3 k5 k6 f3 f5 HM
      go_enter Try.func22, Try.ntmps22
      go_wp2_with (first | (go_at_call 30; refine HD.out.mono ?_; rintro e w1 ⟨rfl, q, rfl⟩))
      obtain ⟨W2, hW2⟩ : ∃ W, W = (w.drewN q).setCell ⟨g, 4, none⟩ (.int .i64 nw) := ⟨_, rfl⟩
      rw [← hW2]
      have HL2 : Hid (Li W2 g N s ⟨d.at_, nw, d.last⟩) := Lib.hid (by rw [hW2]; exact HL.out.now q nw)
      have HK2 : Hid (Kp w W2 (fun k => k = g)) := Lib.hid (by rw [hW2]; exact ((Kp.refl w (fun k => k = g)).drewN q).set_ (p := ⟨g, 4, none⟩) (fun _ => rfl) _)
      obtain ⟨A1, c1, sent1, hch, hlc, p0, p1, p2, p3, p4, p5, p6, r3, r4, r5⟩ := HL2.out.blk0
      simp only at p3 p4 p5
      obtain ⟨A', c', he, _, hA, hcell⟩ := hch
      injection he with i1 i2 i3
      subst i1; subst i3

      obtain ⟨gc, rfl, hgN, hgs⟩ := hA (fun e => by rw [e] at hat; simp at hat)
      obtain ⟨bv, b1, b2, b3, b4, b5, b6⟩ := hcell gc rfl d.at_ hat
      obtain ⟨A9, c9, rfl, _, _, _⟩ := id b3
      have HCH : Hid (∀ n, Rd ((((W2.drewN n).setCell ⟨g, 3, none⟩ (.int .i64 ((d.at_ : Int) + 1))).setCell ⟨g, 5, none⟩ (.int .i64 wh))) (.slice A9 (s.chunks[d.at_]).2.length c9) (s.chunks[d.at_]).2) := Lib.hid fun n => b3.move fun k e hk => by
        have h1 := b4 k e
        have h2 := HL.out.ge
        exact ((((Kp.refl W2 (fun k => k = g)).drewN n).set_ (p := ⟨g, 3, none⟩) (fun _ => rfl) _).set_ (p := ⟨g, 5, none⟩) (fun _ => rfl) _).block k hk (by omega)
      have HC := Lib.hid (fun n => clone_any (HCH.out n) b6)
      have HST : Hid (∀ n, Li ((((W2.drewN n).setCell ⟨g, 3, none⟩ (.int .i64 ((d.at_ : Int) + 1))).setCell ⟨g, 5, none⟩ (.int .i64 wh))) g N s ⟨d.at_ + 1, nw, wh⟩) := Lib.hid fun n => HL2.out.step n wh hat HB.out.1 HB.out.2
      have HKT : Hid (∀ n, Kp w ((((W2.drewN n).setCell ⟨g, 3, none⟩ (.int .i64 ((d.at_ : Int) + 1))).setCell ⟨g, 5, none⟩ (.int .i64 wh))) (fun k => k = g)) := Lib.hid fun n => ((HK2.out.drewN n).set_ (p := ⟨g, 3, none⟩) (fun _ => rfl) _).set_ (p := ⟨g, 5, none⟩) (fun _ => rfl) _
      obtain ⟨x, hx⟩ : ∃ x, x = (s.chunks[d.at_]).2 := ⟨_, rfl⟩
      have b2 : W2.cell? ⟨gc, d.at_ * 2 + 1, none⟩ = some (.slice A9 x.length c9) := by rw [hx]; exact b2
      have HNX : Hid (nextP s d lim = (1, x, ⟨d.at_ + 1, nw, wh⟩)) := Lib.hid (by rw [hx]; exact HNX.out)
      rw [← hx] at HC
      have hf := HL.out.few
      obtain ⟨at_, hat_⟩ : ∃ n, n = d.at_ := ⟨_, rfl⟩
      rw [← hat_] at p3 b2 HC HST HKT
      obtain ⟨n, hn⟩ : ∃ n, n = s.chunks.length := ⟨_, rfl⟩
      rw [← hn] at p0
      have s1 : IntKind.i64.wrap ((at_ : Int) + 1) = (at_ : Int) + 1 := IntWalk.i64_in _ (by omega)
      have s2 : (at_ : Int) < (n : Int) := by omega
      have s3 : at_ < n := by omega
      have hFIN : Hid (∀ n1 w1 v, Own w1 ((((W2.drewN n1).setCell ⟨g, 3, none⟩ (.int .i64 ((at_ : Int) + 1))).setCell ⟨g, 5, none⟩ (.int .i64 wh))).heap.size v x → Below ((((W2.drewN n1).setCell ⟨g, 3, none⟩ (.int .i64 ((at_ : Int) + 1))).setCell ⟨g, 5, none⟩ (.int .i64 wh))).heap.size ((((W2.drewN n1).setCell ⟨g, 3, none⟩ (.int .i64 ((at_ : Int) + 1))).setCell ⟨g, 5, none⟩ (.int .i64 wh))) w1 → NextQ w g N s d lim (.returned (.tuple #[.int .i64 1, v])) w1) := Lib.hid fun n1 w1 v ho hb => by
        have hk1 := HKT.out n1
        have hl1 := HST.out n1
        have hsz := hk1.size
        have hlt := HL.out.lt
        have hge := HL.out.ge
        refine ⟨v, by rw [HNX.out], ?_, ?_, ?_⟩
        · rw [HNX.out]; simp only [← hat_]; exact hl1.below hb (by omega)
        · exact hk1.trans (Kp.of_below (ex := fun _ => False) hb (fun k a c => by omega)) (fun k _ e => e.elim)
        · rw [HNX.out]; exact own_mono ho hsz
      clear hcell hA b1 b3 b4 b5 b6 hx hat_ hn hf hgN hgs HCH HST HKT hW2 HL2 HK2 hlc
      go_quiet (fail)
      go_wp2_with (first | (go_at_call 16; refine (HC.out _).mono ?_; rintro e w1 ⟨v1, rfl, ho, hb⟩; (have HO := Lib.hid ho; have HW := Lib.hid hb; clear ho hb)))
      go_ret2
      exact hFIN.out _ _ _ HO.out HW.out
    · have g6 : (wt == 1) = false := by simpa using h1
      have g7 : decide (wt = 1) = false := by simpa using h1
      have HF : Hid (∀ q, NextQ w g N s d lim (.returned (.tuple #[.int .i64 wt, .slice none 0 0])) ((w.drewN q).setCell ⟨g, 4, none⟩ (.int .i64 nw))) := Lib.hid fun q => by
        have hn : nextP s d lim = (wt, [], ⟨d.at_, max d.now wh, d.last⟩) := by
          unfold nextP
          rw [← HE.out, if_neg, if_pos h1]
          simp only
          rw [← HN.out, ← HM.out]; exact hA
        refine ⟨_, by rw [hn], ?_, ?_, ?_⟩
        · rw [hn]
          have e : max d.now wh = nw := by rw [← HN.out]; exact e2
          simp only [e]
          exact HL.out.now q nw
        · exact ((Kp.refl w (fun k => k = g)).drewN q).set_ (p := ⟨g, 4, none⟩) (fun _ => rfl) _
        · rw [hn]; exact own_nil _ _
      clear hk HS HE hch hA
      go_enter Try.func22, Try.ntmps22
      go_wp2_with (first | (go_at_call 30; refine HD.out.mono ?_; rintro e w1 ⟨rfl, q, rfl⟩))
      go_ret2
      exact HF.out _
end Go.Proofs.Ytjnfomgehfmllaa.Tk
