/- A session in memory: Now, Rest, due, Next. -/
import Derived.Test.YtjnfomgehfmllaaTc
namespace Go.Proofs.Ytjnfomgehfmllaa.Tk
set_option linter.unusedVariables false
set_option linter.unusedSimpArgs false
open Go.RowKit Go.Proofs.Ytjnfomgehfmllaa.Mem Go.Proofs.Ytjnfomgehfmllaa.By Go.Proofs.YtjnfomgehfmllaaW.PrintWords Go.Proofs.YtjnfomgehfmllaaW.PrintLast Go.Proofs.YtjnfomgehfmllaaW.PrintMore

/-- A row of chunks that stays: its blocks are below N. -/
def Chs (w : World) (N : Nat) (v : Value) (l : List (Int × List Int)) : Prop :=
  ∃ A c, v = .slice A l.length c ∧ l.length ≤ c ∧ (l ≠ [] → ∃ g, A = some ⟨g, 0, none⟩ ∧ g < N ∧ g < w.heap.size) ∧
    ∀ g, A = some ⟨g, 0, none⟩ → ∀ k (h : k < l.length), ∃ bv, w.cell? ⟨g, k * 2, none⟩ = some (.int .i64 (l[k]).1) ∧ w.cell? ⟨g, k * 2 + 1, none⟩ = some bv ∧ Rd w bv (l[k]).2 ∧ (∀ b, bv.ownBlock = some b → b < N) ∧ Rng (l[k]).2 ∧ (l[k]).2.length ≤ 140737488355328
theorem cell_same {w w' : World} {p : Addr} {v : Value} (h : w.cell? p = some v) (hk : w'.heap[p.block]? = w.heap[p.block]?) : w'.cell? p = some v := by
  rw [← h]; unfold World.cell?; rw [hk]
theorem Chs.same {w w' : World} {N : Nat} {v : Value} {l : List (Int × List Int)} (h : Chs w N v l) (hs : w.heap.size ≤ w'.heap.size) (hk : ∀ k, k < N → k < w.heap.size → w'.heap[k]? = w.heap[k]?) : Chs w' N v l := by
  obtain ⟨A, c, rfl, hc, hA, hcell⟩ := h
  refine ⟨A, c, rfl, hc, fun hn => ?_, fun g hg k hkl => ?_⟩
  · obtain ⟨g, h1, h2, h3⟩ := hA hn
    exact ⟨g, h1, h2, by omega⟩
  · have hn : l ≠ [] := fun e => by subst e; simp at hkl
    obtain ⟨g', h1, h2, h3⟩ := hA hn
    rw [hg] at h1
    injection h1 with h1
    injection h1 with h1
    subst h1
    obtain ⟨bv, c1, c2, c3, c4, c5, c6⟩ := hcell g hg k hkl
    exact ⟨bv, cell_same c1 (hk g h2 h3), cell_same c2 (hk g h2 h3), c3.move (fun b e hb => hk b (c4 b e) hb), c4, c5, c6⟩
/-- A session. -/
structure Li (w : World) (g N : Nat) (s : Ln) (d : Ld) : Prop where
  blk : ∃ v sent, Blk w g 60 #[v, .int .i64 s.fin, .int .i64 s.wt, .int .i64 d.at_, .int .i64 d.now, .int .i64 d.last, sent] ∧ Chs w N v s.chunks
  few : s.chunks.length ≤ 1000
  at_le : d.at_ ≤ s.chunks.length
  last_ge : 0 ≤ d.last
  last_le : d.last ≤ (d.at_ : Int) * 1000000
  ge : N ≤ g
theorem Li.blk0 {w : World} {g N : Nat} {s : Ln} {d : Ld} (h : Li w g N s d) : ∃ A c sent, Chs w N (.slice A s.chunks.length c) s.chunks ∧ s.chunks.length ≤ c ∧ w.cell? ⟨g, 0, none⟩ = some (.slice A s.chunks.length c) ∧ w.cell? ⟨g, 1, none⟩ = some (.int .i64 s.fin) ∧ w.cell? ⟨g, 2, none⟩ = some (.int .i64 s.wt) ∧ w.cell? ⟨g, 3, none⟩ = some (.int .i64 d.at_) ∧ w.cell? ⟨g, 4, none⟩ = some (.int .i64 d.now) ∧ w.cell? ⟨g, 5, none⟩ = some (.int .i64 d.last) ∧ w.cell? ⟨g, 6, none⟩ = some sent ∧ w.frozen? ⟨g, 3, none⟩ = false ∧ w.frozen? ⟨g, 4, none⟩ = false ∧ w.frozen? ⟨g, 5, none⟩ = false := by
  obtain ⟨v, sent, hb, hc⟩ := h.blk
  obtain ⟨A, c, rfl, hlc, hr⟩ := id hc
  have k0 := hb.cell 0; have k1 := hb.cell 1; have k2 := hb.cell 2; have k3 := hb.cell 3; have k4 := hb.cell 4; have k5 := hb.cell 5; have k6 := hb.cell 6
  simp only [List.getElem?_toArray, List.getElem?_cons_zero, List.getElem?_cons_succ] at k0 k1 k2 k3 k4 k5 k6
  exact ⟨A, c, sent, hc, hlc, k0, k1, k2, k3, k4, k5, k6, hb.frozen 3, hb.frozen 4, hb.frozen 5⟩
theorem Li.kp {w w' : World} {ex : Nat → Prop} {g N : Nat} {s : Ln} {d : Ld} (h : Li w g N s d) (hk : Kp w w' ex) (hg : ¬ ex g) (hN : ∀ k, ex k → N ≤ k) : Li w' g N s d := by
  obtain ⟨v, sent, hb, hc⟩ := h.blk
  exact ⟨⟨v, sent, hb.kp hk hg, hc.same hk.size (fun k h1 h2 => hk.block k h2 (fun e => by have := hN k e; omega))⟩, h.few, h.at_le, h.last_ge, h.last_le, h.ge⟩
theorem Li.below {w w' : World} {g N : Nat} {s : Ln} {d : Ld} (h : Li w g N s d) (hb : Below w.heap.size w w') (hN : N ≤ w.heap.size) : Li w' g N s d := by
  obtain ⟨v, sent, hbk, hc⟩ := h.blk
  exact h.kp (Kp.of_below (ex := fun _ => False) hb (fun k a c => by omega)) (fun e => e) (fun k e => e.elim)
theorem Li.lt {w : World} {g N : Nat} {s : Ln} {d : Ld} (h : Li w g N s d) : g < w.heap.size := by
  obtain ⟨v, sent, hb, hc⟩ := h.blk
  exact hb.lt
/-- The numbers move on. -/
theorem Li.go {w w' : World} {g N : Nat} {s : Ln} {d d' : Ld} (h : Li w g N s d) (hk : Kp w w' (fun k => k = g)) (hb : ∀ v sent, Blk w g 60 #[v, .int .i64 s.fin, .int .i64 s.wt, .int .i64 d.at_, .int .i64 d.now, .int .i64 d.last, sent] → Blk w' g 60 #[v, .int .i64 s.fin, .int .i64 s.wt, .int .i64 d'.at_, .int .i64 d'.now, .int .i64 d'.last, sent]) (h1 : d'.at_ ≤ s.chunks.length) (h2 : 0 ≤ d'.last) (h3 : d'.last ≤ (d'.at_ : Int) * 1000000) : Li w' g N s d' := by
  obtain ⟨v, sent, hbk, hc⟩ := h.blk
  exact ⟨⟨v, sent, hb v sent hbk, hc.same hk.size (fun k e1 e2 => hk.block k e2 (fun e => by have := h.ge; omega))⟩, h.few, h1, h2, h3, h.ge⟩
set_option maxHeartbeats 1000000 in
theorem now_any {w : World} {g N : Nat} {s : Ln} {d : Ld} (h : Li w g N s d) : Calls Try.prog 11 #[.pointer (some ⟨g, 0, none⟩)] w fun e w' => e = .returned (.int .i64 d.now) ∧ ∃ q, w' = w.drewN q := by
  obtain ⟨A, c, sent, hch, hlc, k0, k1, k2, k3, k4, k5, k6, f3, f4, f5⟩ := h.blk0
  clear h hch
  go_enter Try.func11, Try.ntmps11
  go_wp2
  go_ret
  exact ⟨rfl, 0, rfl⟩
set_option maxHeartbeats 1000000 in
theorem rest_any {w : World} {g N : Nat} {s : Ln} {d : Ld} (h : Li w g N s d) : Calls Try.prog 14 #[.pointer (some ⟨g, 0, none⟩)] w fun e w' => e = .returned (.int .i64 ((s.chunks.length : Int) - (d.at_ : Int))) ∧ ∃ q, w' = w.drewN q := by
  obtain ⟨A, c, sent, hch, hlc, k0, k1, k2, k3, k4, k5, k6, f3, f4, f5⟩ := h.blk0
  have hf := h.few
  have ha := h.at_le
  have s1 : IntKind.i64.wrap ((s.chunks.length : Int) - (d.at_ : Int)) = (s.chunks.length : Int) - (d.at_ : Int) := IntWalk.i64_in _ (by omega)
  clear h hch
  go_enter Try.func14, Try.ntmps14
  go_wp2
  repeat (go_quiet (fail); try go_wp2)
  go_ret
  exact ⟨rfl, _, rfl⟩
set_option maxHeartbeats 1000000 in
theorem ticks_any (w : World) (n : Int) : Calls Try.prog 46 #[.int .i64 n] w fun e w' => e = .returned (.int .i64 (ticks n)) ∧ ∃ q, w' = w.drewN q := by
  obtain ⟨t, ht⟩ : ∃ t, t = ticks n := ⟨_, rfl⟩
  have s1 : min (max n 0) 1000000 = t := by rw [ht]; rfl
  have s2 : IntKind.i64.wrap t = t := IntWalk.i64_in _ (by have := ticks_rng n; omega)
  rw [← ht]
  clear ht
  go_enter Try.func46, Try.ntmps46
  go_wp2
  go_ret
  exact ⟨rfl, 0, rfl⟩
set_option maxHeartbeats 4000000 in
set_option maxRecDepth 100000 in
theorem due_any {w : World} {g N : Nat} {s : Ln} {d : Ld} (h : Li w g N s d) : Calls Try.prog 30 #[.pointer (some ⟨g, 0, none⟩)] w fun e w' => e = .returned (.tuple #[.int .i64 (due s d).1, .int .i64 (due s d).2]) ∧ ∃ q, w' = w.drewN q := by
  obtain ⟨A, c, sent, hch, hlc, k0, k1, k2, k3, k4, k5, k6, f3, f4, f5⟩ := h.blk0
  have hf := h.few
  have ha := h.at_le
  have hl0 := h.last_ge
  have hl1 := h.last_le
  rcases Nat.lt_or_ge d.at_ s.chunks.length with hlt | hge
  · obtain ⟨A', c', he, _, hA, hcell⟩ := hch
    injection he with e1 e2 e3
    subst e1; subst e3
    obtain ⟨gc, rfl, hgN, hgs⟩ := hA (fun e => by rw [e] at hlt; simp at hlt)
    obtain ⟨bv, c1, c2, c3, c4, c5, c6⟩ := hcell gc rfl d.at_ hlt
    have hd : due s d = (d.last + ticks (s.chunks[d.at_]).1, 1) := by
      unfold due; rw [List.getElem?_eq_getElem hlt]
    rw [hd]
    obtain ⟨cw, hcw⟩ : ∃ n, n = (s.chunks[d.at_]).1 := ⟨_, rfl⟩
    rw [← hcw] at c1 ⊢
    have ht := ticks_rng cw
    have HT := Lib.hid (fun W => ticks_any W cw)
    obtain ⟨t, htt⟩ : ∃ n, n = ticks cw := ⟨_, rfl⟩
    rw [← htt] at ht HT ⊢
    obtain ⟨la, hla⟩ : ∃ n, n = d.last := ⟨_, rfl⟩
    rw [← hla] at k5 hl0 hl1 ⊢
    obtain ⟨at_, hat⟩ : ∃ n, n = d.at_ := ⟨_, rfl⟩
    rw [← hat] at k3 c1 hl1 hlt ha
    obtain ⟨n, hn⟩ : ∃ n, n = s.chunks.length := ⟨_, rfl⟩
    rw [← hn] at k0 hlt hf hlc ha
    have s1 : IntKind.i64.wrap (la + t) = la + t := IntWalk.i64_in _ (by omega)
    have g1 : decide ((at_ : Int) < (n : Int)) = true := by simp; omega
    have g2 : (at_ : Int) < (n : Int) := by omega
    clear h hcell c2 c3 c4 c5 c6 hcw htt hla hat hn hd hl1 hf ha hgs hgN
    go_enter Try.func30, Try.ntmps30
    go_wp2
    go_quiet (fail)
    go_wp2
    obtain ⟨W, hW⟩ : ∃ W, W = w.drewN nq := ⟨_, rfl⟩
    rw [← hW]
    have p0 := (show W.cell? ⟨g, 0, none⟩ = w.cell? ⟨g, 0, none⟩ by rw [hW]; rfl).trans k0
    have p3 := (show W.cell? ⟨g, 3, none⟩ = w.cell? ⟨g, 3, none⟩ by rw [hW]; rfl).trans k3
    have p5 := (show W.cell? ⟨g, 5, none⟩ = w.cell? ⟨g, 5, none⟩ by rw [hW]; rfl).trans k5
    have q1 := (show W.cell? ⟨gc, at_ * 2, none⟩ = w.cell? ⟨gc, at_ * 2, none⟩ by rw [hW]; rfl).trans c1
    have HW := Lib.hid hW
    clear hW k0 k3 k5 c1
    go_quiet (first | (go_at_call 46; refine Calls.quiet_of (HT.out _)))
    go_wp2
    go_ret2
    exact ⟨rfl, _, by rw [HW.out, World.drewN_drewN]⟩
  · have hd : due s d = if s.fin = 1 then (d.last + ticks s.wt, 2) else if s.fin = 2 then (d.last + ticks s.wt, 3) else (0, 4) := by
      unfold due; rw [List.getElem?_eq_none hge]
    rw [hd]
    obtain ⟨cw, hcw⟩ : ∃ n, n = s.wt := ⟨_, rfl⟩
    rw [← hcw] at k2 ⊢
    have ht := ticks_rng cw
    have HT := Lib.hid (fun W => ticks_any W cw)
    obtain ⟨t, htt⟩ : ∃ n, n = ticks cw := ⟨_, rfl⟩
    rw [← htt] at ht HT ⊢
    obtain ⟨la, hla⟩ : ∃ n, n = d.last := ⟨_, rfl⟩
    rw [← hla] at k5 hl0 hl1 ⊢
    obtain ⟨fin, hfin⟩ : ∃ n, n = s.fin := ⟨_, rfl⟩
    rw [← hfin] at k1 ⊢
    obtain ⟨at_, hat⟩ : ∃ n, n = d.at_ := ⟨_, rfl⟩
    rw [← hat] at k3 hl1 hge ha
    obtain ⟨n, hn⟩ : ∃ n, n = s.chunks.length := ⟨_, rfl⟩
    rw [← hn] at k0 hge hf hlc ha
    have s1 : IntKind.i64.wrap (la + t) = la + t := IntWalk.i64_in _ (by omega)
    have g1 : decide ((at_ : Int) < (n : Int)) = false := by simp; omega
    have g2 : (n : Int) ≤ (at_ : Int) := by omega
    obtain ⟨W, hW⟩ : ∃ W, W = fun nq => w.drewN nq := ⟨_, rfl⟩
    have HG : Hid (∀ nq, (w.drewN nq).cell? ⟨g, 1, none⟩ = some (.int .i64 fin) ∧ (w.drewN nq).cell? ⟨g, 2, none⟩ = some (.int .i64 cw) ∧ (w.drewN nq).cell? ⟨g, 5, none⟩ = some (.int .i64 la)) := Lib.hid (fun nq => ⟨k1, k2, k5⟩)
    clear h hcw htt hla hat hn hd hl1 hf ha hch hfin hW W
    by_cases e1 : fin = 1
    · rw [if_pos e1]
      have g3 : (fin == 1) = true := by simpa using e1
      have g4 : decide (fin = 1) = true := by simpa using e1
      subst e1
      go_enter Try.func30, Try.ntmps30
      go_wp2
      go_quiet (fail)
      obtain ⟨p1, p2, p5⟩ := HG.out nq
      obtain ⟨W, hW⟩ : ∃ W, W = w.drewN nq := ⟨_, rfl⟩
      rw [← hW] at p1 p2 p5 ⊢
      have HW := Lib.hid hW
      clear hW k1 k2 k5
      go_wp2
      go_quiet (first | (go_at_call 46; refine Calls.quiet_of (HT.out _)))
      go_wp2
      go_ret2
      exact ⟨rfl, _, by rw [HW.out, World.drewN_drewN]⟩
    · rw [if_neg e1]
      have g3 : (fin == 1) = false := by simpa using e1
      have g4 : decide (fin = 1) = false := by simpa using e1
      by_cases e2 : fin = 2
      · rw [if_pos e2]
        have g5 : (fin == 2) = true := by simpa using e2
        have g6 : decide (fin = 2) = true := by simpa using e2
        subst e2
        go_enter Try.func30, Try.ntmps30
        go_wp2
        go_quiet (fail)
        obtain ⟨p1, p2, p5⟩ := HG.out nq
        obtain ⟨W, hW⟩ : ∃ W, W = w.drewN nq := ⟨_, rfl⟩
        rw [← hW] at p1 p2 p5 ⊢
        have HW := Lib.hid hW
        clear hW k1 k2 k5
        go_wp2
        go_quiet (first | (go_at_call 46; refine Calls.quiet_of (HT.out _)))
        go_wp2
        go_ret2
        exact ⟨rfl, _, by rw [HW.out, World.drewN_drewN]⟩
      · rw [if_neg e2]
        have g5 : (fin == 2) = false := by simpa using e2
        have g6 : decide (fin = 2) = false := by simpa using e2
        go_enter Try.func30, Try.ntmps30
        go_wp2
        go_quiet (fail)
        obtain ⟨p1, p2, p5⟩ := HG.out nq
        go_wp2
        go_ret2
        exact ⟨rfl, _, rfl⟩
end Go.Proofs.Ytjnfomgehfmllaa.Tk
