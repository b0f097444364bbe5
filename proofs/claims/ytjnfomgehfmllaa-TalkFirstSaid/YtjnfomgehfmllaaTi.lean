/- talk.Wait. -/
import Derived.Test.YtjnfomgehfmllaaTh
import Derived.ScopeJumps
import Derived.WalkMore
import Derived.Deep.RegionHeld3
namespace Go.Proofs.Ytjnfomgehfmllaa.Tk
set_option linter.unusedVariables false
set_option linter.unusedSimpArgs false
open Go.RowKit Go.Proofs.Ytjnfomgehfmllaa.Mem Go.Proofs.Ytjnfomgehfmllaa.By Go.Proofs.YtjnfomgehfmllaaW.PrintWords Go.Proofs.YtjnfomgehfmllaaW.PrintLast Go.Proofs.YtjnfomgehfmllaaW.PrintMore

abbrev zeroOut : Array Value := #[.int .i64 0, .int .i64 0, .slice none 0 0, .int .i64 0]
/-- What is so at each pass. -/
structure WaitI (w : World) (gL gB gR gW N most : Nat) (s : Ln) (l : List Cl) (cv bv0 : Value) (un bo : Int) (R : Out × Ld × List Int) (w' : World) (d : Ld) (b : List Int) (bv : Value) (gone : Int) (came : Bool) : Prop where
  line : Li w' gL N s d
  bu : Bu w' gB N most bv b
  wt : Wt w' gW (.pointer (some ⟨gL, 0, none⟩)) (.pointer (some ⟨gB, 0, none⟩)) cv gone came
  cls : Cls w' N cv l
  res : Blk w' gR 41 zeroOut
  resGe : w.heap.size ≤ gR
  wtGe : w.heap.size ≤ gW
  kp : Kp w w' (fun k => k = gL ∨ k = gB ∨ bv0.ownBlock = some k)
  own : ∀ k, bv.ownBlock = some k → bv0.ownBlock = some k ∨ w.heap.size ≤ k
  glob : ∃ m, w'.cell? ⟨0, 0, none⟩ = some (.int .i64 m)
  n0 : 0 < N
  nle : N ≤ w.heap.size
  lb : gL ≠ gB
  goneGe : 0 ≤ gone
  goneLe : gone ≤ (d.at_ : Int) * 140737488357328
  plan : ∃ fuel, s.chunks.length < d.at_ + fuel ∧ waitP s l most un bo fuel d b came gone = R
/-- What a wait leaves. -/
def WaitQ (w : World) (gL gB N most : Nat) (s : Ln) (bv0 : Value) (R : Out × Ld × List Int) (e : Ending) (w' : World) : Prop :=
  ∃ A n c bv', e = .returned (.agg #[.int .i64 R.1.kind, .int .i64 R.1.clause, .slice A n c, .int .i64 R.1.gone]) ∧ Own w' w.heap.size (.slice A n c) R.1.text ∧ Li w' gL N s R.2.1 ∧ Bu w' gB N most bv' R.2.2 ∧ Kp w w' (fun k => k = gL ∨ k = gB ∨ bv0.ownBlock = some k) ∧ (∀ k, bv'.ownBlock = some k → bv0.ownBlock = some k ∨ w.heap.size ≤ k)
/-- How many chunks are still to come. -/
def left (gL n : Nat) (w : World) : Nat := match w.cell? ⟨gL, 3, none⟩ with
  | some (.int _ x) => n - x.toNat
  | _ => 0
theorem left_at {w : World} {gL N : Nat} {s : Ln} {d : Ld} (h : Li w gL N s d) : left gL s.chunks.length w = s.chunks.length - d.at_ := by
  obtain ⟨A, c, sent, hch, hlc, k0, k1, k2, k3, k4, k5, k6, f3, f4, f5⟩ := h.blk0
  unfold left
  rw [k3]
  simp
theorem WaitI.done {w wr W : World} {gL gB gR gW N most : Nat} {s : Ln} {l : List Cl} {cv bv0 : Value} {un bo : Int} {R : Out × Ld × List Int} {d d' : Ld} {b b' text : List Int} {bv bv' : Value} {gone kind clause : Int} {came : Bool} {A : Option Addr} {n c : Nat} (HI : WaitI w gL gB gR gW N most s l cv bv0 un bo R wr d b bv gone came)
    (hk : Kp wr W (fun k => k = gL ∨ k = gB ∨ bv.ownBlock = some k ∨ k = gR)) (ho : Own W wr.heap.size (.slice A n c) text) (hl : Li W gL N s d') (hb : Bu W gB N most bv' b') (hbv : ∀ k, bv'.ownBlock = some k → bv.ownBlock = some k ∨ wr.heap.size ≤ k) (hR : R = (⟨kind, clause, text, gone⟩, d', b')) :
    WaitQ w gL gB N most s bv0 R (.returned (.agg #[.int .i64 kind, .int .i64 clause, .slice A n c, .int .i64 gone])) W := by
  subst hR
  have hs := HI.kp.size
  refine ⟨A, n, c, bv', rfl, own_mono ho hs, hl, hb, HI.kp.trans hk (fun k h1 h2 => ?_), fun k e => ?_⟩
  · rcases h2 with h2 | h2 | h2 | h2
    · exact .inl h2
    · exact .inr (.inl h2)
    · rcases HI.own k h2 with h3 | h3
      · exact .inr (.inr h3)
      · omega
    · have := HI.resGe; omega
  · rcases hbv k e with h1 | h1
    · exact HI.own k h1
    · exact .inr (by omega)
theorem kp4 {w w' : World} {ex : Nat → Prop} {g : Nat} (h : Kp w w' ex) (hg : ex g) (a b c d : Value) : Kp w ((((w'.setCell ⟨g, 0, none⟩ a).setCell ⟨g, 1, none⟩ b).setCell ⟨g, 2, none⟩ c).setCell ⟨g, 3, none⟩ d) ex := (((h.set_ (p := ⟨g, 0, none⟩) (fun _ => hg) _).set_ (p := ⟨g, 1, none⟩) (fun _ => hg) _).set_ (p := ⟨g, 2, none⟩) (fun _ => hg) _).set_ (p := ⟨g, 3, none⟩) (fun _ => hg) _
theorem wait_some {s : Ln} {l : List Cl} {most : Nat} {un bo : Int} {n : Nat} {d : Ld} {b : List Int} {came : Bool} {gone : Int} {q : Nat × Int × Int} (h : some q = lookP l b 0) (hn : 0 < n) : waitP s l most un bo n d b came gone = (⟨1, (q.1 : Int), (b.take q.2.2.toNat).drop q.2.1.toNat, gone⟩, d, b.drop q.2.2.toNat) := by
  obtain ⟨k, rfl⟩ : ∃ k, n = k + 1 := ⟨n - 1, by omega⟩
  rw [waitP, ← h]
theorem WaitI.ne {w wr : World} {gL gB gR gW N most : Nat} {s : Ln} {l : List Cl} {cv bv0 : Value} {un bo : Int} {R : Out × Ld × List Int} {d : Ld} {b : List Int} {bv : Value} {gone : Int} {came : Bool} (HI : WaitI w gL gB gR gW N most s l cv bv0 un bo R wr d b bv gone came) :
    gR ≠ gB ∧ gR ≠ gL ∧ gW ≠ gB ∧ gW ≠ gL ∧ gR ≠ gW ∧ (∀ k, bv.ownBlock = some k → k ≠ gR ∧ k ≠ gL ∧ k ≠ gW ∧ k ≠ gB) := by
  obtain ⟨g2, hB⟩ := HI.bu.blk
  obtain ⟨v, sent, hL, _⟩ := HI.line.blk
  refine ⟨fun e => ?_, fun e => ?_, fun e => ?_, fun e => ?_, fun e => ?_, fun k hk => ?_⟩
  · subst e; exact Blk.ne_ (t := 41) HI.res hB (by decide) rfl
  · subst e; exact Blk.ne_ (t := 41) HI.res hL (by decide) rfl
  · subst e; exact Blk.ne_ (t := 65) HI.wt.blk hB (by decide) rfl
  · subst e; exact Blk.ne_ (t := 65) HI.wt.blk hL (by decide) rfl
  · subst e; exact Blk.ne_ (t := 41) HI.res HI.wt.blk (by decide) rfl
  · obtain ⟨_, cells, hc⟩ := q_typed HI.bu.row k hk
    refine ⟨fun e => ?_, fun e => ?_, fun e => ?_, fun e => ?_⟩
    · subst e; exact Blk.ne_ (t := 5) hc HI.res (by decide) rfl
    · subst e; exact Blk.ne_ (t := 5) hc hL (by decide) rfl
    · subst e; exact Blk.ne_ (t := 5) hc HI.wt.blk (by decide) rfl
    · subst e; exact Blk.ne_ (t := 5) hc hB (by decide) rfl
theorem WaitI.below {w wr W : World} {gL gB gR gW N most : Nat} {s : Ln} {l : List Cl} {cv bv0 : Value} {un bo : Int} {R : Out × Ld × List Int} {d : Ld} {b : List Int} {bv : Value} {gone : Int} {came : Bool} (HI : WaitI w gL gB gR gW N most s l cv bv0 un bo R wr d b bv gone came) (hb : Below wr.heap.size wr W) : WaitI w gL gB gR gW N most s l cv bv0 un bo R W d b bv gone came := by
  have hs := HI.kp.size
  have hn := HI.nle
  obtain ⟨m, hm⟩ := HI.glob
  exact ⟨HI.line.below hb (by omega), HI.bu.below hb, HI.wt.same (hb.block gW HI.wt.lt), HI.cls.below hb (by omega), HI.res.below hb HI.res.lt, HI.resGe, HI.wtGe, HI.kp.trans (Kp.of_below (ex := fun _ => False) hb (fun k a c => by omega)) (fun k _ e => e.elim), HI.own, ⟨m, cell_same hm (hb.block 0 (World.block_lt_of_cell? wr _ hm))⟩, HI.n0, hn, HI.lb, HI.goneGe, HI.goneLe, HI.plan⟩
theorem WaitI.fin {w wr W : World} {gL gB gR gW N most : Nat} {s : Ln} {l : List Cl} {cv bv0 : Value} {un bo : Int} {R : Out × Ld × List Int} {d d' : Ld} {b b' text : List Int} {bv bv' : Value} {gone kind clause : Int} {came : Bool} {A : Option Addr} {n c : Nat} (HI : WaitI w gL gB gR gW N most s l cv bv0 un bo R wr d b bv gone came)
    (hk : Kp wr W (fun k => k = gL ∨ k = gB ∨ bv.ownBlock = some k)) (ho : Own W wr.heap.size (.slice A n c) text) (hl : Li W gL N s d') (hb : Bu W gB N most bv' b') (hbv : ∀ k, bv'.ownBlock = some k → bv.ownBlock = some k ∨ wr.heap.size ≤ k) (hR : R = (⟨kind, clause, text, gone⟩, d', b')) :
    WaitQ w gL gB N most s bv0 R (.returned (.agg #[.int .i64 kind, .int .i64 clause, .slice A n c, .int .i64 gone])) ((((W.setCell ⟨gR, 0, none⟩ (.int .i64 kind)).setCell ⟨gR, 1, none⟩ (.int .i64 clause)).setCell ⟨gR, 2, none⟩ (.slice A n c)).setCell ⟨gR, 3, none⟩ (.int .i64 gone)) := by
  obtain ⟨n1, n2, n3, n4, n5, n6⟩ := HI.ne
  have hrl : gR < wr.heap.size := HI.res.lt
  have hs := hk.size
  have hK1 := kp4 (Kp.refl W (fun k => k = gR)) rfl (.int .i64 kind) (.int .i64 clause) (.slice A n c) (.int .i64 gone)
  have hNR : N ≤ gR := by have := HI.resGe; have := HI.nle; omega
  refine HI.done ((hk.mono (fun k _ e => e.elim .inl (fun e => e.elim (fun e => .inr (.inl e)) (fun e => .inr (.inr (.inl e)))))).trans hK1 (fun k _ e => .inr (.inr (.inr e)))) (own_kp ho hK1 (fun k e c => by have := ownsRow_ge ho e; omega)) (hl.kp hK1 (fun e => n2 e.symm) (fun k e => by omega)) (hb.kp hK1 (fun e => n1 e.symm) (fun k e c => ?_)) hbv hR
  rcases hbv k e with e1 | e1
  · exact (n6 k e1).1 c
  · omega
theorem Li.next_rng {w : World} {g N : Nat} {s : Ln} {d : Ld} (h : Li w g N s d) (lim : Int) (h1 : (nextP s d lim).1 = 1) : Rng (nextP s d lim).2.1 ∧ (nextP s d lim).2.1.length ≤ 140737488355328 ∧ (nextP s d lim).2.2.at_ = d.at_ + 1 ∧ d.at_ < s.chunks.length := by
  obtain ⟨hlt, ha⟩ := next_at s d lim h1
  refine ⟨?_, ?_, ha, hlt⟩
  all_goals
    have e : (nextP s d lim).2.1 = (s.chunks[d.at_]).2 := by
      unfold nextP at h1 ⊢
      by_cases h2 : (due s d).2 = 4 ∨ max lim d.now < (due s d).1
      · rw [if_pos h2] at h1; cases h1
      · rw [if_neg h2] at h1 ⊢
        by_cases h3 : (due s d).2 ≠ 1
        · rw [if_pos h3] at h1; exact (h3 h1).elim
        · rw [if_neg h3, List.getElem?_eq_getElem hlt]
          rfl
    rw [e]
    obtain ⟨v, sent, hb, hc⟩ := h.blk
    obtain ⟨A', c', he, _, hA, hcell⟩ := hc
    obtain ⟨gc, rfl, hgN, hgs⟩ := hA (fun e => by rw [e] at hlt; simp at hlt)
    obtain ⟨bv, b1, b2, b3, b4, b5, b6⟩ := hcell gc rfl d.at_ hlt
    first | exact b5 | exact b6
theorem Wt.came {w : World} {gW : Nat} {gl gb cv : Value} {gone : Int} {came : Bool} (h : Wt w gW gl gb cv gone came) (g' : Int) : Wt ((w.setCell ⟨gW, 3, none⟩ (.int .i64 g')).setCell ⟨gW, 4, none⟩ (.bool true)) gW gl gb cv g' true := by
  refine ⟨?_⟩
  have := (h.blk.set_ 3 (.int .i64 g')).set_ 4 (.bool true)
  simpa using this
theorem WaitI.step {w wr W : World} {gL gB gR gW N most : Nat} {s : Ln} {l : List Cl} {cv bv0 : Value} {un bo : Int} {R : Out × Ld × List Int} {d d' : Ld} {b b' : List Int} {bv bv' : Value} {gone g' : Int} {came : Bool} (HI : WaitI w gL gB gR gW N most s l cv bv0 un bo R wr d b bv gone came)
    (hk : Kp wr W (fun k => k = gL ∨ k = gB ∨ bv.ownBlock = some k)) (hl : Li W gL N s d') (hb : Bu W gB N most bv' b') (hbv : ∀ k, bv'.ownBlock = some k → bv.ownBlock = some k ∨ wr.heap.size ≤ k) (h0 : gone ≤ g') (h1 : g' ≤ gone + 140737488357328) (h2 : d'.at_ = d.at_ + 1) (hp : ∃ fuel, s.chunks.length < d'.at_ + fuel ∧ waitP s l most un bo fuel d' b' true g' = R) :
    WaitI w gL gB gR gW N most s l cv bv0 un bo R ((W.setCell ⟨gW, 3, none⟩ (.int .i64 g')).setCell ⟨gW, 4, none⟩ (.bool true)) d' b' bv' g' true := by
  obtain ⟨n1, n2, n3, n4, n5, n6⟩ := HI.ne
  have hrl : gR < wr.heap.size := HI.res.lt
  have hwl : gW < wr.heap.size := HI.wt.lt
  have hs := hk.size
  have hws := HI.kp.size
  have hK1 : Kp W ((W.setCell ⟨gW, 3, none⟩ (.int .i64 g')).setCell ⟨gW, 4, none⟩ (.bool true)) (fun k => k = gW) := ((Kp.refl W (fun k => k = gW)).set_ (p := ⟨gW, 3, none⟩) (fun _ => rfl) _).set_ (p := ⟨gW, 4, none⟩) (fun _ => rfl) _
  have hNW : N ≤ gW := by have := HI.wtGe; have := HI.nle; omega
  have hex : ∀ k, (k = gL ∨ k = gB ∨ bv.ownBlock = some k) → N ≤ k := by
    intro k e
    rcases e with rfl | rfl | e
    · exact HI.line.ge
    · exact HI.bu.ge
    · exact (q_typed HI.bu.row k e).1
  have hnW : ∀ k, (k = gL ∨ k = gB ∨ bv.ownBlock = some k) → k ≠ gW ∧ k ≠ gR := by
    intro k e
    rcases e with rfl | rfl | e
    · exact ⟨fun c => n4 c.symm, fun c => n2 c.symm⟩
    · exact ⟨fun c => n3 c.symm, fun c => n1 c.symm⟩
    · exact ⟨(n6 k e).2.2.1, (n6 k e).1⟩
  obtain ⟨m, hm⟩ := HI.glob
  refine ⟨hl.kp hK1 (fun e => n4 e.symm) (fun k e => by omega), hb.kp hK1 (fun e => n3 e.symm) (fun k e c => ?_), (HI.wt.same (hk.block gW hwl (fun e => (hnW gW e).1 rfl))).came g', (HI.cls.kp hk hex).kp hK1 (fun k e => by omega), (HI.res.kp hk (fun e => (hnW gR e).2 rfl)).kp hK1 n5, HI.resGe, HI.wtGe, ?_, fun k e => ?_, ⟨m, ?_⟩, HI.n0, HI.nle, HI.lb, by have := HI.goneGe; omega, by have := HI.goneLe; rw [h2]; push_cast; omega, hp⟩
  · rcases hbv k e with e1 | e1
    · exact (n6 k e1).2.2.1 c
    · omega
  · refine (HI.kp.trans hk (fun k h1 h2 => ?_)).trans hK1 (fun k h1 h2 => ?_)
    · rcases h2 with h2 | h2 | h2
      · exact .inl h2
      · exact .inr (.inl h2)
      · rcases HI.own k h2 with h3 | h3
        · exact .inr (.inr h3)
        · omega
    · have := HI.wtGe; omega
  · rcases hbv k e with h1 | h1
    · exact HI.own k h1
    · exact .inr (by omega)
  · refine cell_same (cell_same hm (hk.block 0 (World.block_lt_of_cell? wr _ hm) (fun e => ?_))) (hK1.block 0 (Nat.lt_of_lt_of_le (World.block_lt_of_cell? wr _ hm) hs) (fun e => ?_))
    · have := hex 0 e; have := HI.n0; omega
    · have := HI.n0; omega
theorem wait_none {s : Ln} {l : List Cl} {most : Nat} {un bo : Int} {n : Nat} {d : Ld} {b : List Int} {came : Bool} {gone : Int} (h : none = lookP l b 0) : waitP s l most un bo (n + 1) d b came gone =
      if came = true ∧ 0 ≤ firstK l 7 0 ∧ b.length = most then (⟨2, firstK l 7 0, b, gone⟩, d, [])
      else if (nextP s d (min un bo)).1 = 1 then waitP s l most un bo n (nextP s d (min un bo)).2.2 (putP most b (nextP s d (min un bo)).2.1) true (gone + ((over most b (nextP s d (min un bo)).2.1 : Nat) : Int))
      else if (nextP s d (min un bo)).1 = 2 then (⟨3, firstK l 5 0, [], gone⟩, (nextP s d (min un bo)).2.2, b)
      else if (nextP s d (min un bo)).1 = 3 then (⟨4, firstK l 6 0, [], gone⟩, (nextP s d (min un bo)).2.2, b)
      else if bo < un then (⟨6, -1, [], gone⟩, (nextP s d (min un bo)).2.2, b)
      else (⟨5, firstK l 4 0, [], gone⟩, (nextP s d (min un bo)).2.2, b) := by
  rw [waitP, ← h]
/-- What holds at the label. -/
def WaitJ (w : World) (gL gB gR gW N most : Nat) (s : Ln) (l : List Cl) (cv bv0 : Value) (un bo fu : Int) (R : Out × Ld × List Int) (a : Act) (w' : World) : Prop :=
  ∃ (u : Nat → Value), a = { tmps := #[.pointer (some ⟨gL, 0, none⟩), .pointer (some ⟨gB, 0, none⟩), cv, .int .i64 un, .int .i64 bo, u 5, u 6, u 7, u 8, u 9, .pointer (some ⟨gR, 0, none⟩), .pointer (some ⟨gW, 0, none⟩), .int .i64 fu, u 13, u 14, u 15, u 16, u 17, u 18, u 19, u 20, u 21, u 22, u 23, u 24, u 25, u 26, u 27, u 28, u 29, u 30, u 31, u 32, u 33, u 34, u 35, u 36, u 37, u 38, u 39, u 40, u 41, u 42, u 43, u 44, u 45, u 46, u 47, u 48, u 49, u 50, u 51, u 52, u 53, u 54, u 55, u 56, u 57, u 58, u 59, u 60, u 61, u 62, u 63, u 64, u 65, u 66, u 67, u 68, u 69, u 70, u 71, u 72, u 73, u 74, u 75, u 76, u 77, u 78, u 79, u 80, u 81, u 82, u 83, u 84, u 85, u 86, u 87, u 88, u 89, u 90, u 91, u 92, u 93, u 94, u 95], defers := [] } ∧
    ∃ d b bv gone came, WaitI w gL gB gR gW N most s l cv bv0 un bo R w' d b bv gone came
theorem WaitJ.of {w : World} {gL gB gR gW N most : Nat} {s : Ln} {l : List Cl} {cv bv0 : Value} {un bo fu : Int} {R : Out × Ld × List Int} {a : Act} {w' : World} {d : Ld} {b : List Int} {bv : Value} {gone : Int} {came : Bool} (h : a = { tmps := #[.pointer (some ⟨gL, 0, none⟩), .pointer (some ⟨gB, 0, none⟩), cv, .int .i64 un, .int .i64 bo, a.tmps.getD 5 undef, a.tmps.getD 6 undef, a.tmps.getD 7 undef, a.tmps.getD 8 undef, a.tmps.getD 9 undef, .pointer (some ⟨gR, 0, none⟩), .pointer (some ⟨gW, 0, none⟩), .int .i64 fu, a.tmps.getD 13 undef, a.tmps.getD 14 undef, a.tmps.getD 15 undef, a.tmps.getD 16 undef, a.tmps.getD 17 undef, a.tmps.getD 18 undef, a.tmps.getD 19 undef, a.tmps.getD 20 undef, a.tmps.getD 21 undef, a.tmps.getD 22 undef, a.tmps.getD 23 undef, a.tmps.getD 24 undef, a.tmps.getD 25 undef, a.tmps.getD 26 undef, a.tmps.getD 27 undef, a.tmps.getD 28 undef, a.tmps.getD 29 undef, a.tmps.getD 30 undef, a.tmps.getD 31 undef, a.tmps.getD 32 undef, a.tmps.getD 33 undef, a.tmps.getD 34 undef, a.tmps.getD 35 undef, a.tmps.getD 36 undef, a.tmps.getD 37 undef, a.tmps.getD 38 undef, a.tmps.getD 39 undef, a.tmps.getD 40 undef, a.tmps.getD 41 undef, a.tmps.getD 42 undef, a.tmps.getD 43 undef, a.tmps.getD 44 undef, a.tmps.getD 45 undef, a.tmps.getD 46 undef, a.tmps.getD 47 undef, a.tmps.getD 48 undef, a.tmps.getD 49 undef, a.tmps.getD 50 undef, a.tmps.getD 51 undef, a.tmps.getD 52 undef, a.tmps.getD 53 undef, a.tmps.getD 54 undef, a.tmps.getD 55 undef, a.tmps.getD 56 undef, a.tmps.getD 57 undef, a.tmps.getD 58 undef, a.tmps.getD 59 undef, a.tmps.getD 60 undef, a.tmps.getD 61 undef, a.tmps.getD 62 undef, a.tmps.getD 63 undef, a.tmps.getD 64 undef, a.tmps.getD 65 undef, a.tmps.getD 66 undef, a.tmps.getD 67 undef, a.tmps.getD 68 undef, a.tmps.getD 69 undef, a.tmps.getD 70 undef, a.tmps.getD 71 undef, a.tmps.getD 72 undef, a.tmps.getD 73 undef, a.tmps.getD 74 undef, a.tmps.getD 75 undef, a.tmps.getD 76 undef, a.tmps.getD 77 undef, a.tmps.getD 78 undef, a.tmps.getD 79 undef, a.tmps.getD 80 undef, a.tmps.getD 81 undef, a.tmps.getD 82 undef, a.tmps.getD 83 undef, a.tmps.getD 84 undef, a.tmps.getD 85 undef, a.tmps.getD 86 undef, a.tmps.getD 87 undef, a.tmps.getD 88 undef, a.tmps.getD 89 undef, a.tmps.getD 90 undef, a.tmps.getD 91 undef, a.tmps.getD 92 undef, a.tmps.getD 93 undef, a.tmps.getD 94 undef, a.tmps.getD 95 undef], defers := [] }) (HI : WaitI w gL gB gR gW N most s l cv bv0 un bo R w' d b bv gone came) : WaitJ w gL gB gR gW N most s l cv bv0 un bo fu R a w' := ⟨fun i => a.tmps.getD i undef, h, d, b, bv, gone, came, HI⟩
theorem scope_back {P : Program} {a : Act} {w : World} {Q : Exit → Act → World → Prop} {c X : Code} (l : Nat) (J : Act → World → Prop) (μ : Act → World → Nat) (hf : findLabel c l = some (Code.skip.seq X)) (core : ∀ a w, J a w → X.wp P (Exit.jump l (fun a' w' => J a' w' ∧ μ a' w' < μ a w) Q) a w) (first : (∀ a w, J a w → X.wp P (Exit.jump l J Q) a w) → c.wp P (Exit.jump l J Q) a w) : (Code.scope c).wp P Q a w := by
  refine wp_scope_jumps l J μ hf (first fun a w h => wp_mono (core a w h) fun e a' w' hq => ?_) (fun a w h => wp_seq (wp_skip (core a w h)))
  cases e with
  | goto l' => exact ⟨hq.1, hq.2.1⟩
  | _ => exact hq
set_option maxHeartbeats 1000000 in
set_option maxRecDepth 100000 in
theorem wait_any {w : World} {gL gB N most : Nat} {s : Ln} {l : List Cl} {d : Ld} {b : List Int} {bv cv : Value} {m : Int} (hL : Li w gL N s d) (hB : Bu w gB N most bv b) (hC : Cls w N cv l) (hN : N ≤ w.heap.size) (h0 : 0 < N) (hm : w.cell? ⟨0, 0, none⟩ = some (.int .i64 m)) (un bo : Int) (fuel : Nat) (hf : s.chunks.length < d.at_ + fuel) : Calls Try.prog 10 #[.pointer (some ⟨gL, 0, none⟩), .pointer (some ⟨gB, 0, none⟩), cv, .int .i64 un, .int .i64 bo] w (WaitQ w gL gB N most s bv (waitP s l most un bo fuel d b false 0)) := by
  obtain ⟨R, hR⟩ : ∃ R, R = waitP s l most un bo fuel d b false 0 := ⟨_, rfl⟩
  rw [← hR]
  obtain ⟨fu, hfu⟩ : ∃ x, x = firstK l 7 0 := ⟨_, rfl⟩
  have HFU := Lib.hid hfu
  clear hfu
  go_enter Try.func10, Try.ntmps10
  go_wp2
  refine scope_back 0 (fun a w' => ∃ gR gW, WaitJ w gL gB gR gW N most s l cv bv un bo fu R a w') (fun _ w' => left gL s.chunks.length w') rfl ?core ?first
  case first =>
    intro core
    obtain ⟨A0, c0, rfl, hlc0, _, _, _⟩ := id hC
    obtain ⟨Wb, hWb⟩ : ∃ W, W = w.alloc (.cells zeroOut 41) := ⟨_, rfl⟩
    have hBb : Below w.heap.size w Wb := by rw [hWb]; exact (Below.refl _ _).alloc (Nat.le_refl _) _
    have hzb : Wb.heap.size = w.heap.size + 1 := by rw [hWb]; simp
    have HZR := Lib.hid (show Blk Wb w.heap.size 41 zeroOut by rw [hWb]; exact Blk.new _ _ _)
    obtain ⟨Wc, hWc⟩ : ∃ W, W = Wb.alloc (.cells #[.pointer (some ⟨gL, 0, none⟩), .pointer (some ⟨gB, 0, none⟩), .slice A0 l.length c0, .int .i64 0, .bool false] 65) := ⟨_, rfl⟩
    have hBc : Below Wb.heap.size Wb Wc := by rw [hWc]; exact (Below.refl _ _).alloc (Nat.le_refl _) _
    have HWT : Hid (Wt Wc Wb.heap.size (.pointer (some ⟨gL, 0, none⟩)) (.pointer (some ⟨gB, 0, none⟩)) (.slice A0 l.length c0) 0 false) := Lib.hid ⟨by rw [hWc]; exact Blk.new _ _ _⟩
    have HBB := Lib.hid hBb
    have HBC := Lib.hid hBc
    have HB0c : Hid (Below w.heap.size w Wc) := Lib.hid (hBb.trans (hBc.mono hBb.size))
    have HFR := Lib.hid (first_any HWT.out (hC.below HB0c.out hN) (by have := HB0c.out.size; omega) 7)
    have HWb := Lib.hid hWb
    have HWc := Lib.hid hWc
    have HLi := Lib.hid hL
    have HBu := Lib.hid hB
    have HCl := Lib.hid hC
    have HCore := Lib.hid core
    have HN := Lib.hid hN
    have H0 := Lib.hid h0
    have HM := Lib.hid hm
    have HF := Lib.hid hf
    have HRR := Lib.hid hR
    have HZB := Lib.hid hzb
    clear hWb hBb hWc hBc hL hB hC core hN h0 hm hf hR hzb
    rw [show w.alloc (.cells #[.int .i64 0, .int .i64 0, .slice none 0 0, .int .i64 0] 41) = Wb from HWb.out.symm]
    go_wp2_with (first | (go_at_call 17; refine Hid.out ?_))
    refine Lib.hid ?_
    rw [← HWc.out]
    rw [← HFU.out] at HFR
    refine HFR.out.mono ?_
    rintro e w3 ⟨rfl, hb3⟩
    have HB3 := Lib.hid hb3
    clear hb3
    go_wp2
    refine wp_label ?_
    have HK : Hid (WaitI w gL gB w.heap.size Wb.heap.size N most s l (.slice A0 l.length c0) bv un bo R w3 d b bv 0 false) := Lib.hid (by
      have hb3 := HB3.out
      have h1 := HB0c.out
      have h2 := HBC.out
      have h3 := HZB.out
      have h03 : Below w.heap.size w w3 := h1.trans (hb3.mono h1.size)
      have hs1 := h1.size
      have hs2 := h2.size
      have hs3 := hb3.size
      refine ⟨HLi.out.below h03 HN.out, HBu.out.below h03, HWT.out.same (hb3.block _ HWT.out.lt), HCl.out.below h03 HN.out, (HZR.out.below h2 HZR.out.lt).below hb3 (Nat.lt_of_lt_of_le HZR.out.lt h2.size), Nat.le_refl _, by omega, Kp.of_below h03 (fun k a c => by omega), fun k e => .inl e, ⟨m, cell_same HM.out (h03.block 0 (World.block_lt_of_cell? w _ HM.out))⟩, H0.out, HN.out, ?_, Int.le_refl _, by omega, fuel, HF.out, HRR.out.symm⟩
      intro e
      subst e
      obtain ⟨v, sent, hb, _⟩ := HLi.out.blk
      obtain ⟨gone, hb2⟩ := HBu.out.blk
      exact Blk.ne_ (t := 60) hb hb2 (by decide) rfl)
    dsimp only [Exit.then]
    rename_i K hK
    refine hK _ _ ?_
    refine HCore.out _ _ ⟨w.heap.size, Wb.heap.size, ?_⟩
    exact WaitJ.of rfl HK.out
  case core =>
    clear hL hB hC hN h0 hm hf hR
    rintro a wr ⟨gR, gW, hJ⟩
    obtain ⟨u, rfl, d, b, bv, gone, came, HI⟩ := hJ
    have HLK := Lib.hid (look_any HI.wt HI.bu HI.cls (by have := HI.nle; have := HI.kp.size; omega) HI.n0 HI.glob.choose_spec (by
      intro e
      subst e
      obtain ⟨gone, hb2⟩ := HI.bu.blk
      exact Blk.ne_ (t := 65) HI.wt.blk hb2 (by decide) rfl))
    obtain ⟨k0, k1, k2, k3, k4, f3, f4⟩ := HI.wt.cells
    have HH := Lib.hid HI
    obtain ⟨fuel1, hf1, hp1⟩ := HI.plan
    have HP := Lib.hid (And.intro hf1 hp1)
    clear HI hf1 hp1
    obtain ⟨lk, hlk⟩ : ∃ x, x = lookP l b 0 := ⟨_, rfl⟩
    rw [← hlk] at HLK
    have HLE := Lib.hid hlk
    clear hlk
    cases lk with
    | some q =>
      go_wp2_with (first | (go_at_call 18; refine Hid.out ?_))
      refine Lib.hid ?_
      refine HLK.out.mono ?_
      rintro e w1 ⟨A1, n1, c1, bv1, rfl, ho, hbu, hk, hbv⟩
      have HO1 := Lib.hid ho
      have HBU1 := Lib.hid hbu
      have HK1 := Lib.hid hk
      have HBV1 := Lib.hid hbv
      have hgR : gR ≠ gB := by
        intro e
        subst e
        obtain ⟨gone2, hb2⟩ := HH.out.bu.blk
        exact Blk.ne_ (t := 41) HH.out.res hb2 (by decide) rfl
      have HR1 : Hid (∀ o, Blk (w1.alloc o) gR 41 zeroOut) := Lib.hid (fun o => (HH.out.res.kp (hk.alloc o) hgR))
      have HGR := Lib.hid hgR
      obtain ⟨⟨y0, y1, y2, y3⟩, z0, z1, z2, z3⟩ := blk4 (HR1.out (.cells #[.int .i64 1, .int .i64 (q.1 : Int), .slice A1 n1 c1, .int .i64 gone] 41))
      clear ho hbu hk hbv hgR k0 k1 k2 k3 k4 f3 f4
      go_wp2
      refine (show bodyPost Try.prog Try.f10 _ Exit.ret _ _ from ?_)
      have hst := store4 (HR1.out (.cells #[.int .i64 1, .int .i64 (q.1 : Int), .slice A1 n1 c1, .int .i64 gone] 41)) (.int .i64 1) (.int .i64 (q.1 : Int)) (.slice A1 n1 c1) (.int .i64 gone)
      obtain ⟨⟨h0, h1, h2, h3⟩, _⟩ := blk4 hst
      refine bodyPost_ret (v := .agg #[.int .i64 1, .int .i64 (q.1 : Int), .slice A1 n1 c1, .int .i64 gone]) (by simp [results, Try.results10, go_sem, h0, h1, h2, h3]) rfl ?_
      obtain ⟨n1', n2, n3, n4, n5, n6⟩ := HH.out.ne
      have hrl : gR < wr.heap.size := HH.out.res.lt
      have hK : Kp wr _ (fun k => k = gB ∨ k = gR) := kp4 ((HK1.out.mono (ex' := fun k => k = gB ∨ k = gR) (fun k _ e => .inl e)).alloc (.cells #[.int .i64 1, .int .i64 (q.1 : Int), .slice A1 n1 c1, .int .i64 gone] 41)) (.inr rfl) (.int .i64 1) (.int .i64 (q.1 : Int)) (.slice A1 n1 c1) (.int .i64 gone)
      have hK1 : Kp w1 _ (fun k => k = gR) := kp4 ((Kp.refl w1 (fun k => k = gR)).alloc (.cells #[.int .i64 1, .int .i64 (q.1 : Int), .slice A1 n1 c1, .int .i64 gone] 41)) rfl (.int .i64 1) (.int .i64 (q.1 : Int)) (.slice A1 n1 c1) (.int .i64 gone)
      refine HH.out.done (hK.mono (fun k _ e => e.elim (fun e => .inr (.inl e)) (fun e => .inr (.inr (.inr e))))) (own_kp HO1.out hK1 (fun k e c => by have := ownsRow_ge HO1.out e; omega)) (HH.out.line.kp hK (fun e => e.elim HH.out.lb (fun e => n2 e.symm)) (fun k e => ?_)) (HBU1.out.kp hK1 (fun e => n1' e.symm) (fun k e c => ?_)) (fun k e => .inl (by rw [← HBV1.out]; exact e)) ?_
      · rcases e with e | e
        · have := HH.out.bu.ge; omega
        · have := HH.out.resGe; have := HH.out.nle; omega
      · exact (n6 k (by rw [← HBV1.out]; exact e)).1 c
      · rw [← HP.out.2]; exact wait_some HLE.out (by have := HP.out.1; have := HH.out.line.at_le; omega)
    | none =>
      go_upto_region 6 with (first | (go_at_call 18; refine HLK.out.mono ?_; rintro e w1 ⟨rfl, hb⟩; (have HB1 := Lib.hid hb; clear hb)))
      obtain ⟨W6, hW6⟩ : ∃ W, W = w1.alloc (.cells #[.int .i64 0, .int .i64 0, .slice none 0 0, .int .i64 0] 41) := ⟨_, rfl⟩
      rw [← hW6]
      have HI6 := Lib.hid (HH.out.below (show Below wr.heap.size wr W6 by rw [hW6]; exact HB1.out.alloc HB1.out.size _))
      have HLT : Hid (left gL s.chunks.length wr = s.chunks.length - d.at_) := Lib.hid (left_at HH.out.line)
      clear hW6 k0 k1 k2 k3 k4 f3 f4 HH HLK HB1
      obtain ⟨k0, k1, k2, k3, k4, f3, f4⟩ := HI6.out.wt.cells
      obtain ⟨fuel2, hfe⟩ : ∃ k, fuel1 = k + 1 := ⟨fuel1 - 1, by have := HP.out.1; have := HI6.out.line.at_le; omega⟩
      subst hfe
      have HR2 := Lib.hid (HP.out.2.symm.trans (wait_none HLE.out))
      have HFL := Lib.hid (full_any HI6.out.bu)
      go_cut [42] from 13 to 95 (fun s42 wc => ∃ q, s42 = .bool (decide (came = true ∧ 0 ≤ fu ∧ b.length = most)) ∧ wc = W6.drewN q)
      case first =>
        cases came
        · go_wp2
          go_meet
          case rel => exact ⟨0, by simp, rfl⟩
        · by_cases hfu : 0 ≤ fu
          · have g1 : decide (0 ≤ fu) = true := by simpa using hfu
            go_wp2_with (first | (go_at_call 19; refine HFL.out.mono ?_; rintro e w7 ⟨rfl, q, rfl⟩))
            go_meet
            case rel => exact ⟨q, by simp [hfu], rfl⟩
          · have g1 : decide (0 ≤ fu) = false := by simpa using hfu
            go_wp2
            go_meet
            case rel => exact ⟨0, by rw [decide_eq_false (fun h => absurd h.2.1 (by omega))], rfl⟩
      case rest =>
        obtain ⟨q7, rfl, hwc⟩ := hcut
        have HI7 : Hid (WaitI w gL gB gR gW N most s l cv _ un bo R wc d b bv gone came) := Lib.hid (by rw [hwc]; exact HI6.out.below (below_drewN (Below.refl _ _) q7))
        clear hwc HI6 k0 k1 k2 k3 k4 f3 f4 HFL
        obtain ⟨k0, k1, k2, k3, k4, f3, f4⟩ := HI7.out.wt.cells
        by_cases hc : came = true ∧ 0 ≤ fu ∧ b.length = most
        · have e1 : decide (came = true ∧ 0 ≤ fu ∧ b.length = most) = true := by simpa using hc
          simp only [e1]
          obtain ⟨hcm, hfu, hbm⟩ := hc
          have HR3 : Hid (R = (⟨2, fu, b, gone⟩, d, [])) := Lib.hid (by rw [HR2.out, if_pos ⟨hcm, by rw [← HFU.out]; exact hfu, hbm⟩, ← HFU.out])
          have HTK := Lib.hid (take_any (n := 2000) (k := b.length) HI7.out.bu (Nat.le_refl _) (by have := HI7.out.bu.most_le; have := HI7.out.bu.fit; omega))
          clear hcm hfu hbm e1 HR2
          go_wp2_with (first | (go_at_call 21; refine Hid.out ?_))
          refine Lib.hid ?_
          refine HTK.out.mono ?_
          rintro e w8 ⟨v8, bv8, rfl, ho8, hbu8, hk8, hbv8⟩
          obtain ⟨A8, c8, rfl, _⟩ := q_slice ho8.qb
          obtain ⟨n8, hn8⟩ : ∃ n, n = (b.take b.length).length := ⟨_, rfl⟩
          rw [← hn8] at ho8 ⊢
          have HO8 := Lib.hid ho8
          have HBU8 := Lib.hid hbu8
          have HK8 := Lib.hid hk8
          have HBV8 := Lib.hid hbv8
          have HW8 : Hid (Wt w8 gW _ _ _ gone came) := Lib.hid (HI7.out.wt.same (hk8.block gW HI7.out.wt.lt HI7.out.ne.2.2.1))
          have HEN := Lib.hid (ends_any HW8.out 2 fu A8 n8 c8)
          have HR8 : Hid (Blk w8 gR 41 zeroOut) := Lib.hid (HI7.out.res.kp hk8 HI7.out.ne.1)
          clear k0 k1 k2 k3 k4 f3 f4 ho8 hbu8 hk8 hbv8 HTK hn8
          go_wp2_with (first | (go_at_call 20; refine Hid.out ?_))
          refine Lib.hid ?_
          refine HEN.out.mono ?_
          rintro e w9 ⟨rfl, hb9⟩
          have HB9 := Lib.hid hb9
          obtain ⟨⟨y0, y1, y2, y3⟩, z0, z1, z2, z3⟩ := blk4 (HR8.out.below hb9 HR8.out.lt)
          clear hb9
          go_wp2
          refine (show bodyPost Try.prog Try.f10 _ Exit.ret _ _ from ?_)
          obtain ⟨⟨h0, h1, h2, h3⟩, _⟩ := blk4 (store4 (HR8.out.below HB9.out HR8.out.lt) (.int .i64 2) (.int .i64 fu) (.slice A8 n8 c8) (.int .i64 gone))
          refine bodyPost_ret (v := .agg #[.int .i64 2, .int .i64 fu, .slice A8 n8 c8, .int .i64 gone]) (by simp [results, Try.results10, go_sem, h0, h1, h2, h3]) rfl ?_
          have ho9 := own_kp HO8.out (Kp.of_below (ex := fun _ => False) HB9.out (fun k a c => by omega)) (fun k e c => c)
          have hs8 := HK8.out.size
          have hws := HI7.out.kp.size
          have hnl := HI7.out.nle
          have hb9 := HBU8.out.below HB9.out
          rw [List.take_length] at ho9
          rw [List.drop_length] at hb9
          exact HI7.out.fin ((HK8.out.mono (fun k _ e => .inr (.inl e))).trans (Kp.of_below (ex := fun _ => False) HB9.out (fun k a c => by omega)) (fun k _ e => e.elim)) ho9 ((HI7.out.line.kp HK8.out HI7.out.lb (fun k e => by rw [e]; exact HI7.out.bu.ge)).below HB9.out (by omega)) hb9 (fun k e => .inl (by rw [← HBV8.out]; exact e)) HR3.out
        · have e1 : decide (came = true ∧ 0 ≤ fu ∧ b.length = most) = false := by simpa using hc
          simp only [e1]
          have HR3 := Lib.hid (HR2.out.trans (if_neg (fun h => hc ⟨h.1, by rw [HFU.out]; exact h.2.1, h.2.2⟩)))
          have HNX := Lib.hid (next_any HI7.out.line (min un bo))
          have HRG := Lib.hid (HI7.out.line.next_rng (min un bo))
          unfold NextQ at HNX
          obtain ⟨p, hp⟩ : ∃ p, p = nextP s d (min un bo) := ⟨_, rfl⟩
          rw [← hp] at HNX HR3 HRG
          obtain ⟨kd, x, d'⟩ := p
          simp only at HNX HR3 HRG
          clear hp e1 hc HR2
          go_upto_region 8 with fail
          go_wp2_with (first | (go_at_call 22; refine Hid.out ?_))
          refine Lib.hid ?_
          refine HNX.out.mono ?_
          rintro e w8 ⟨xv, rfl, hl8, hk8, ho8⟩
          obtain ⟨A8, c8, rfl, _⟩ := q_slice ho8.qb
          obtain ⟨n8, hn8⟩ : ∃ n, n = x.length := ⟨_, rfl⟩
          rw [← hn8] at ho8 ⊢
          have HO8 := Lib.hid ho8
          have HL8 := Lib.hid hl8
          have HK8 := Lib.hid hk8
          have HNE := Lib.hid HI7.out.ne
          have HW8 : Hid (Wt w8 gW _ _ _ gone came) := Lib.hid (HI7.out.wt.same (hk8.block gW HI7.out.wt.lt HNE.out.2.2.2.1))
          have HBU8 : Hid (Bu w8 gB N most bv b) := Lib.hid (HI7.out.bu.kp hk8 (fun e => HI7.out.lb e.symm) (fun k e c => (HNE.out.2.2.2.2.2 k e).2.1 c))
          have HR8 : Hid (Blk w8 gR 41 zeroOut) := Lib.hid (HI7.out.res.kp hk8 HNE.out.2.1)
          have HC8 : Hid (Cls w8 N cv l) := Lib.hid (HI7.out.cls.kp hk8 (fun k e => by rw [e]; exact HI7.out.line.ge))
          have HN8 : Hid (N ≤ w8.heap.size) := Lib.hid (by have := hk8.size; have := HI7.out.kp.size; have := HI7.out.nle; omega)
          have HK8x : Hid (Kp wc w8 (fun k => k = gL ∨ k = gB ∨ bv.ownBlock = some k)) := Lib.hid (hk8.mono (fun k _ e => .inl e))
          clear k0 k1 k2 k3 k4 f3 f4 ho8 hl8 hk8 hn8 HNX
          obtain ⟨k0, k1, k2, k3, k4, f3, f4⟩ := HW8.out.cells
          by_cases e1 : kd = 1
          · subst e1
            obtain ⟨hr1, hr2, hr3, hr4⟩ := HRG.out rfl
            have HR4 := Lib.hid (HR3.out.trans (if_pos rfl))
            have HGB : Hid (gB < w8.heap.size) := Lib.hid (by obtain ⟨_, hbk⟩ := HBU8.out.blk; exact hbk.lt)
            have hovl : over most b x ≤ 140737488355328 := by unfold over; have := HBU8.out.fit; omega
            obtain ⟨ov, hov⟩ : ∃ n, n = over most b x := ⟨_, rfl⟩
            obtain ⟨b', hb'⟩ : ∃ n, n = putP most b x := ⟨_, rfl⟩
            have HGO : Hid (0 ≤ gone ∧ gone ≤ 140737488357328000) := Lib.hid (by have h1 := HI7.out.goneGe; have h2 := HI7.out.goneLe; have h3 := HI7.out.line.at_le; have h4 := HI7.out.line.few; constructor <;> omega)
            have HPUT : Hid (∀ n, Calls Try.prog 23 #[.pointer (some ⟨gB, 0, none⟩), .slice A8 n8 c8] (w8.drewN n) fun e w' => ∃ bv', e = .returned (.int .i64 (ov : Int)) ∧ Bu w' gB N most bv' b' ∧ Kp w8 w' (fun k => k = gB ∨ bv.ownBlock = some k) ∧ (∀ k, bv'.ownBlock = some k → bv.ownBlock = some k ∨ w8.heap.size ≤ k)) := Lib.hid fun n => by
              refine (put_any (HBU8.out.drewN n) HN8.out (HO8.out.rd.move (fun _ _ _ => rfl)) hr1 hr2 (fun k e => by have h1 := ownsRow_ge HO8.out e; have h2 := HK8x.out.size; have h3 := HI7.out.bu.blk; obtain ⟨_, hbk⟩ := h3; have := hbk.lt; omega)).mono ?_
              rintro e w' ⟨bv', h1, h2, h3, h4⟩
              refine ⟨bv', by rw [hov]; exact h1, by rw [hb']; exact h2, ((Kp.refl w8 _).drewN n).trans h3 (fun k _ e => e), h4⟩
            rw [← hov, ← hb'] at HR4
            rw [← hov] at hovl
            have s1 : IntKind.i64.wrap (gone + (ov : Int)) = gone + (ov : Int) := IntWalk.i64_in _ (by have := HGO.out; omega)
            have HOV := Lib.hid hovl
            have HR5 := Lib.hid (And.intro hr3 hr4)
            clear hov hb' hovl hr1 hr2 hr3 hr4 HRG HR3
            go_upto_region 11 with fail
            go_region_with (first | (go_at_call 23; refine (HPUT.out _).mono ?_; rintro e w9 ⟨bv9, rfl, hb9, hk9, ho9⟩; (have HB9 := Lib.hid hb9; have HK9 := Lib.hid hk9; have HV9 := Lib.hid ho9; have HW9 : Hid (Wt w9 gW _ _ _ gone came) := Lib.hid (HW8.out.same (hk9.block gW HW8.out.lt (fun e => e.elim HNE.out.2.2.1 (fun e => (HNE.out.2.2.2.2.2 gW e).2.2.1 rfl)))); obtain ⟨q0, q1, q2, k3b, q4, q5, q6⟩ := HW9.out.cells; clear hb9 hk9 ho9)))
            all_goals
              go_wp2
              have HS := HI7.out.step (HK8x.out.trans HK9.out (fun k _ e => .inr e)) (HL8.out.kp HK9.out (fun e => e.elim HI7.out.lb (fun e => (HNE.out.2.2.2.2.2 gL e).2.1 rfl)) (fun k e => by
                rcases e with rfl | e
                · exact HBU8.out.ge
                · exact (q_typed HBU8.out.row k e).1)) HB9.out (fun k e => (HV9.out k e).imp id (fun h => Nat.le_trans HK8x.out.size h)) (show gone ≤ gone + (ov : Int) by omega) (by have := HOV.out; omega) HR5.out.1 ⟨fuel2, by have := HP.out.1; have := HR5.out.1; omega, HR4.out.symm⟩
              refine wp_goto (show (0 : Nat) = 0 ∧ (∃ gR gW, WaitJ w gL gB gR gW N most s l cv _ un bo fu R _ _) ∧ left gL s.chunks.length _ < left gL s.chunks.length wr from ⟨rfl, ⟨gR, gW, WaitJ.of rfl HS⟩, ?_⟩)
              rw [HLT.out, left_at HS.line, HR5.out.1]
              have := HR5.out.2
              omega
          · have t1 : (kd == 1) = false := by simpa using e1
            by_cases e2 : kd = 2
            · subst e2
              have HR4 : Hid (R = (⟨3, firstK l 5 0, [], gone⟩, d', b)) := Lib.hid (HR3.out.trans (by rw [if_neg (by decide), if_pos rfl]))
              obtain ⟨fk, hfk⟩ : ∃ x, x = firstK l 5 0 := ⟨_, rfl⟩
              have HFR := Lib.hid (first_any HW8.out HC8.out HN8.out 5)
              rw [← hfk] at HFR HR4
              clear hfk
              clear HR3
              go_wp2_with (first | (go_at_call 17; refine HFR.out.mono ?_; rintro e w9 ⟨rfl, hb9⟩; (have HB9 := Lib.hid hb9; clear hb9)) | (go_at_call 20; refine Hid.out ?_))
              refine Lib.hid ?_
              refine (ends_any (HW8.out.same (HB9.out.block gW HW8.out.lt)) 3 fk none 0 0).mono ?_
              rintro e w10 ⟨rfl, hb10⟩
              have HB10 : Hid (Below w8.heap.size w8 w10) := Lib.hid (HB9.out.trans (hb10.mono HB9.out.size))
              obtain ⟨⟨y0, y1, y2, y3⟩, z0, z1, z2, z3⟩ := blk4 (HR8.out.below HB10.out HR8.out.lt)
              clear hb10 k0 k1 k2 k3 k4 f3 f4
              go_wp2
              refine (show bodyPost Try.prog Try.f10 _ Exit.ret _ _ from ?_)
              obtain ⟨⟨h0, h1, h2, h3⟩, _⟩ := blk4 (store4 (HR8.out.below HB10.out HR8.out.lt) (.int .i64 3) (.int .i64 fk) (.slice none 0 0) (.int .i64 gone))
              refine bodyPost_ret (v := .agg #[.int .i64 3, .int .i64 fk, .slice none 0 0, .int .i64 gone]) (by simp [results, Try.results10, go_sem, h0, h1, h2, h3]) rfl ?_
              exact HI7.out.fin (HK8x.out.trans (Kp.of_below (ex := fun _ => False) HB10.out (fun k a c => by omega)) (fun k _ e => e.elim)) (own_nil _ _) (HL8.out.below HB10.out HN8.out) (HBU8.out.below HB10.out) (fun k e => .inl e) HR4.out
            · have t2 : (kd == 2) = false := by simpa using e2
              by_cases e3 : kd = 3
              · subst e3
                have HR4 : Hid (R = (⟨4, firstK l 6 0, [], gone⟩, d', b)) := Lib.hid (HR3.out.trans (by rw [if_neg (by decide), if_neg (by decide), if_pos rfl]))
                obtain ⟨fk, hfk⟩ : ∃ x, x = firstK l 6 0 := ⟨_, rfl⟩
                have HFR := Lib.hid (first_any HW8.out HC8.out HN8.out 6)
                rw [← hfk] at HFR HR4
                clear hfk
                clear HR3
                go_wp2_with (first | (go_at_call 17; refine HFR.out.mono ?_; rintro e w9 ⟨rfl, hb9⟩; (have HB9 := Lib.hid hb9; clear hb9)) | (go_at_call 20; refine Hid.out ?_))
                refine Lib.hid ?_
                refine (ends_any (HW8.out.same (HB9.out.block gW HW8.out.lt)) 4 fk none 0 0).mono ?_
                rintro e w10 ⟨rfl, hb10⟩
                have HB10 : Hid (Below w8.heap.size w8 w10) := Lib.hid (HB9.out.trans (hb10.mono HB9.out.size))
                obtain ⟨⟨y0, y1, y2, y3⟩, z0, z1, z2, z3⟩ := blk4 (HR8.out.below HB10.out HR8.out.lt)
                clear hb10 k0 k1 k2 k3 k4 f3 f4
                go_wp2
                refine (show bodyPost Try.prog Try.f10 _ Exit.ret _ _ from ?_)
                obtain ⟨⟨h0, h1, h2, h3⟩, _⟩ := blk4 (store4 (HR8.out.below HB10.out HR8.out.lt) (.int .i64 4) (.int .i64 fk) (.slice none 0 0) (.int .i64 gone))
                refine bodyPost_ret (v := .agg #[.int .i64 4, .int .i64 fk, .slice none 0 0, .int .i64 gone]) (by simp [results, Try.results10, go_sem, h0, h1, h2, h3]) rfl ?_
                exact HI7.out.fin (HK8x.out.trans (Kp.of_below (ex := fun _ => False) HB10.out (fun k a c => by omega)) (fun k _ e => e.elim)) (own_nil _ _) (HL8.out.below HB10.out HN8.out) (HBU8.out.below HB10.out) (fun k e => .inl e) HR4.out
              · have t3 : (kd == 3) = false := by simpa using e3
                by_cases e4 : bo < un
                · have t4 : decide (bo < un) = true := by simpa using e4
                  have HR4 : Hid (R = (⟨6, -1, [], gone⟩, d', b)) := Lib.hid (HR3.out.trans (by rw [if_neg e1, if_neg e2, if_neg e3, if_pos e4]))
                  clear e1 e2 e3
                  clear HR3
                  have HB9 : Hid (Below w8.heap.size w8 w8) := Lib.hid (Below.refl _ _)
                  go_wp2_with (first | (go_at_call 20; refine Hid.out ?_))
                  refine Lib.hid ?_
                  refine (ends_any (HW8.out.same (HB9.out.block gW HW8.out.lt)) 6 (-1) none 0 0).mono ?_
                  rintro e w10 ⟨rfl, hb10⟩
                  have HB10 : Hid (Below w8.heap.size w8 w10) := Lib.hid (HB9.out.trans (hb10.mono HB9.out.size))
                  obtain ⟨⟨y0, y1, y2, y3⟩, z0, z1, z2, z3⟩ := blk4 (HR8.out.below HB10.out HR8.out.lt)
                  clear hb10 k0 k1 k2 k3 k4 f3 f4
                  go_wp2
                  refine (show bodyPost Try.prog Try.f10 _ Exit.ret _ _ from ?_)
                  obtain ⟨⟨h0, h1, h2, h3⟩, _⟩ := blk4 (store4 (HR8.out.below HB10.out HR8.out.lt) (.int .i64 6) (.int .i64 (-1)) (.slice none 0 0) (.int .i64 gone))
                  refine bodyPost_ret (v := .agg #[.int .i64 6, .int .i64 (-1), .slice none 0 0, .int .i64 gone]) (by simp [results, Try.results10, go_sem, h0, h1, h2, h3]) rfl ?_
                  exact HI7.out.fin (HK8x.out.trans (Kp.of_below (ex := fun _ => False) HB10.out (fun k a c => by omega)) (fun k _ e => e.elim)) (own_nil _ _) (HL8.out.below HB10.out HN8.out) (HBU8.out.below HB10.out) (fun k e => .inl e) HR4.out
                · have t4 : decide (bo < un) = false := by simpa using e4
                  have HR4 : Hid (R = (⟨5, firstK l 4 0, [], gone⟩, d', b)) := Lib.hid (HR3.out.trans (by rw [if_neg e1, if_neg e2, if_neg e3, if_neg e4]))
                  obtain ⟨fk, hfk⟩ : ∃ x, x = firstK l 4 0 := ⟨_, rfl⟩
                  have HFR := Lib.hid (first_any HW8.out HC8.out HN8.out 4)
                  rw [← hfk] at HFR HR4
                  clear hfk
                  clear e1 e2 e3
                  clear HR3
                  go_wp2_with (first | (go_at_call 17; refine HFR.out.mono ?_; rintro e w9 ⟨rfl, hb9⟩; (have HB9 := Lib.hid hb9; clear hb9)) | (go_at_call 20; refine Hid.out ?_))
                  refine Lib.hid ?_
                  refine (ends_any (HW8.out.same (HB9.out.block gW HW8.out.lt)) 5 fk none 0 0).mono ?_
                  rintro e w10 ⟨rfl, hb10⟩
                  have HB10 : Hid (Below w8.heap.size w8 w10) := Lib.hid (HB9.out.trans (hb10.mono HB9.out.size))
                  obtain ⟨⟨y0, y1, y2, y3⟩, z0, z1, z2, z3⟩ := blk4 (HR8.out.below HB10.out HR8.out.lt)
                  clear hb10 k0 k1 k2 k3 k4 f3 f4
                  go_wp2
                  refine (show bodyPost Try.prog Try.f10 _ Exit.ret _ _ from ?_)
                  obtain ⟨⟨h0, h1, h2, h3⟩, _⟩ := blk4 (store4 (HR8.out.below HB10.out HR8.out.lt) (.int .i64 5) (.int .i64 fk) (.slice none 0 0) (.int .i64 gone))
                  refine bodyPost_ret (v := .agg #[.int .i64 5, .int .i64 fk, .slice none 0 0, .int .i64 gone]) (by simp [results, Try.results10, go_sem, h0, h1, h2, h3]) rfl ?_
                  exact HI7.out.fin (HK8x.out.trans (Kp.of_below (ex := fun _ => False) HB10.out (fun k a c => by omega)) (fun k _ e => e.elim)) (own_nil _ _) (HL8.out.below HB10.out HN8.out) (HBU8.out.below HB10.out) (fun k e => .inl e) HR4.out
end Go.Proofs.Ytjnfomgehfmllaa.Tk
