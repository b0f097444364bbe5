/- A look into the buffer. -/
import Derived.Test.YtjnfomgehfmllaaTg
namespace Go.Proofs.Ytjnfomgehfmllaa.Tk
set_option linter.unusedVariables false
set_option linter.unusedSimpArgs false
open Go.RowKit Go.Proofs.Ytjnfomgehfmllaa.Mem Go.Proofs.Ytjnfomgehfmllaa.By Go.Proofs.YtjnfomgehfmllaaW.PrintWords Go.Proofs.YtjnfomgehfmllaaW.PrintLast Go.Proofs.YtjnfomgehfmllaaW.PrintMore

theorem Wt.same {w w' : World} {gW : Nat} {gl gb cv : Value} {gone : Int} {came : Bool} (h : Wt w gW gl gb cv gone came) (hk : w'.heap[gW]? = w.heap[gW]?) : Wt w' gW gl gb cv gone came := ⟨hk.trans h.blk⟩
theorem Wt.lt {w : World} {gW : Nat} {gl gb cv : Value} {gone : Int} {came : Bool} (h : Wt w gW gl gb cv gone came) : gW < w.heap.size := h.blk.lt
set_option maxHeartbeats 1000000 in
theorem ends_any {w : World} {gW : Nat} {gl gb cv : Value} {gone : Int} {came : Bool} (h : Wt w gW gl gb cv gone came) (kind clause : Int) (A : Option Addr) (n c : Nat) : Calls Try.prog 20 #[.pointer (some ⟨gW, 0, none⟩), .int .i64 kind, .int .i64 clause, .slice A n c] w fun e w' => e = .returned (.agg #[.int .i64 kind, .int .i64 clause, .slice A n c, .int .i64 gone]) ∧ Below w.heap.size w w' := by
  obtain ⟨k0, k1, k2, k3, k4, f3, f4⟩ := h.cells
  have hlt := h.lt
  have HB : Hid (∀ o, Below w.heap.size w (w.alloc o)) := Lib.hid (fun o => (Below.refl _ _).alloc (Nat.le_refl _) o)
  have HB2 : Hid (∀ o p u, w.heap.size ≤ p.block → Below w.heap.size w ((w.alloc o).setCell p u)) := Lib.hid (fun o p u hp => ((Below.refl _ _).alloc (Nat.le_refl _) o).setCell hp u)
  clear h
  go_enter Try.func20, Try.ntmps20
  go_wp2
  have hb := Blk.new w 41 #[.int .i64 kind, .int .i64 clause, .slice A n c, .int .i64 gone]
  have h0 := hb.cell 0; have h1 := hb.cell 1; have h2 := hb.cell 2; have h3 := hb.cell 3
  simp only [List.getElem?_toArray, List.getElem?_cons_zero, List.getElem?_cons_succ] at h0 h1 h2 h3
  refine bodyPost_ret (v := .agg #[.int .i64 kind, .int .i64 clause, .slice A n c, .int .i64 gone]) (by simp [results, Try.results20, go_sem, h0, h1, h2, h3]) rfl ?_
  exact ⟨rfl, HB.out _⟩
/-- What a look leaves. -/
def LookQ (w : World) (gB N most : Nat) (bv : Value) (b : List Int) (gone : Int) (r : Option (Nat × Int × Int)) (e : Ending) (w' : World) : Prop :=
  match r with
  | none => e = .returned (.tuple #[.agg #[.int .i64 0, .int .i64 0, .slice none 0 0, .int .i64 0], .bool false]) ∧ Below w.heap.size w w'
  | some q => ∃ A n c bv', e = .returned (.tuple #[.agg #[.int .i64 1, .int .i64 q.1, .slice A n c, .int .i64 gone], .bool true]) ∧ Own w' w.heap.size (.slice A n c) ((b.take q.2.2.toNat).drop q.2.1.toNat) ∧ Bu w' gB N most bv' (b.drop q.2.2.toNat) ∧ Kp w w' (fun k => k = gB) ∧ bv'.ownBlock = bv.ownBlock
def look1 (o : Option ByteArray) (b : List Int) (i : Nat) (rest : Option (Nat × Int × Int)) : Option (Nat × Int × Int) :=
  match o with
  | none => rest
  | some x => if 0 ≤ ix b x then some (i, ix b x, ix b x + (x.size : Int)) else rest
theorem lookP_drop {l : List Cl} {b : List Int} {i : Nat} (h : i < l.length) : lookP (l.drop i) b i = look1 (l[i]).2 b i (lookP (l.drop (i + 1)) b (i + 1)) := by
  rw [List.drop_eq_getElem_cons h, lookP]
  cases (l[i]).2 <;> rfl
theorem store4 {w : World} {g : Nat} {t : TypeId} {a b c d : Value} (h : Blk w g t #[a, b, c, d]) (a' b' c' d' : Value) : Blk ((((w.setCell ⟨g, 0, none⟩ a').setCell ⟨g, 1, none⟩ b').setCell ⟨g, 2, none⟩ c').setCell ⟨g, 3, none⟩ d') g t #[a', b', c', d'] := by
  have := (((h.set_ 0 a').set_ 1 b').set_ 2 c').set_ 3 d'
  simpa using this
theorem below4 {w w' : World} {B g : Nat} (h : Below B w w') (hg : B ≤ g) (a b c d : Value) : Below B w ((((w'.setCell ⟨g, 0, none⟩ a).setCell ⟨g, 1, none⟩ b).setCell ⟨g, 2, none⟩ c).setCell ⟨g, 3, none⟩ d) := (((h.setCell hg _).setCell hg _).setCell hg _).setCell hg _
theorem blk4 {w : World} {g : Nat} {t : TypeId} {a b c d : Value} (h : Blk w g t #[a, b, c, d]) : (w.cell? ⟨g, 0, none⟩ = some a ∧ w.cell? ⟨g, 1, none⟩ = some b ∧ w.cell? ⟨g, 2, none⟩ = some c ∧ w.cell? ⟨g, 3, none⟩ = some d) ∧ w.frozen? ⟨g, 0, none⟩ = false ∧ w.frozen? ⟨g, 1, none⟩ = false ∧ w.frozen? ⟨g, 2, none⟩ = false ∧ w.frozen? ⟨g, 3, none⟩ = false := by
  have h0 := h.cell 0; have h1 := h.cell 1; have h2 := h.cell 2; have h3 := h.cell 3
  simp only [List.getElem?_toArray, List.getElem?_cons_zero, List.getElem?_cons_succ] at h0 h1 h2 h3
  exact ⟨⟨h0, h1, h2, h3⟩, h.frozen 0, h.frozen 1, h.frozen 2, h.frozen 3⟩
theorem Rd.mid {w : World} {A : Option Addr} {n c : Nat} {x : List Int} (h : Rd w (.slice A n c) x) (hn : n = x.length) (f t : Int) (h0 : 0 ≤ f) (h1 : f ≤ t) (h2 : t ≤ (x.length : Int)) : ∃ A7 n7 c7, (∀ W : World, (Instr.slice 39 (.slice A n c) (some (.int .i64 f)) (some (.int .i64 t)) none).run Try.prog W = .ok (.slice A7 n7 c7) W) ∧ ∀ w', (∀ k, (Value.slice A n c).ownBlock = some k → k < w.heap.size → w'.heap[k]? = w.heap[k]?) → Rd w' (.slice A7 n7 c7) ((x.take t.toNat).drop f.toNat) := by
  subst hn
  have h0' := h
  obtain ⟨A', c', he, hc, hA, hr⟩ := h
  injection he with e1 e2 e3
  subst e1; subst e3
  obtain ⟨i5, hi5, hsz5⟩ := info5s
  have hcut := cut_mid (P := Try.prog) 39 5 .i64 .i64 Try.underlying39 hi5 1 hsz5 A x.length c f t h0 h1 h2 hc
  refine ⟨_, _, _, hcut, fun w' hb => ?_⟩
  obtain ⟨A9, c9, he9, _, _, hr9⟩ := h0'.move hb
  injection he9 with e1 e2 e3
  subst e1; subst e3
  have hlen : ((x.take t.toNat).drop f.toNat).length = t.toNat - f.toNat := by rw [List.length_drop, List.length_take]; omega
  have hrd : ReadsInt w' .u8 (if c = f.toNat then A else A.map (·.add (f.toNat * 1))) (t.toNat - f.toNat) ((x.take t.toNat).drop f.toNat) := by
    have h1 := hr9.take_ t.toNat (by omega)
    have h2 := h1.drop_ f.toNat (c := if c = f.toNat then t.toNat else max t.toNat (f.toNat + 1)) (by omega) (by split <;> omega)
    by_cases e : c = f.toNat
    · rw [if_pos e] at h2 ⊢
      rw [if_pos (by omega)] at h2
      exact h2
    · rw [if_neg e] at h2 ⊢
      rw [if_neg (by omega)] at h2
      simpa using h2
  refine ⟨_, _, by rw [hlen], by rw [hlen]; omega, fun hn => ?_, by rw [hlen]; exact hrd⟩
  by_cases e : c = f.toNat
  · omega
  · rw [if_neg e] at hn
    cases A with
    | none => have := hA rfl; omega
    | some a => simp at hn
set_option maxHeartbeats 4000000 in
set_option maxRecDepth 100000 in
theorem look_any {w : World} {gW gB N most : Nat} {gl bv cv : Value} {b : List Int} {gone : Int} {came : Bool} {l : List Cl} {m : Int} (hw : Wt w gW gl (.pointer (some ⟨gB, 0, none⟩)) cv gone came) (hB : Bu w gB N most bv b) (h : Cls w N cv l) (hN : N ≤ w.heap.size) (h0 : 0 < N) (hm : w.cell? ⟨0, 0, none⟩ = some (.int .i64 m)) (hne : gW ≠ gB) : Calls Try.prog 18 #[.pointer (some ⟨gW, 0, none⟩)] w (LookQ w gB N most bv b gone (lookP l b 0)) := by
  have HC := Lib.hid h
  have HN := Lib.hid hN
  have HB := Lib.hid hB
  have HW := Lib.hid hw
  have HM := Lib.hid hm
  have HNE := Lib.hid hne
  have HZ := Lib.hid h0
  obtain ⟨k0, k1, k2, k3, k4, f3, f4⟩ := hw.cells
  obtain ⟨A, c, rfl, hlc, h1000, _, _⟩ := id h
  obtain ⟨r, hr⟩ : ∃ r, r = lookP l b 0 := ⟨_, rfl⟩
  have HR := Lib.hid hr
  rw [← hr]
  obtain ⟨n, hn⟩ : ∃ n, n = l.length := ⟨_, rfl⟩
  have HNN := Lib.hid hn
  rw [← hn] at k2 hlc h1000
  obtain ⟨W, hW⟩ : ∃ W, W = w.alloc (.cells #[.int .i64 0, .int .i64 0, .slice none 0 0, .int .i64 0] 41) := ⟨_, rfl⟩
  have HWE := Lib.hid hW
  have hBW : Below w.heap.size w W := by rw [hW]; exact (Below.refl _ _).alloc (Nat.le_refl _) _
  have hOut : Blk W w.heap.size 41 #[.int .i64 0, .int .i64 0, .slice none 0 0, .int .i64 0] := by rw [hW]; exact Blk.new _ _ _
  have HO := Lib.hid hOut
  have HBW := Lib.hid hBW
  have HBY := Lib.hid (bytes_any (hB.below hBW))
  obtain ⟨k0, k1, k2, k3, k4, f3, f4⟩ := (hw.same (hBW.block gW hw.lt)).cells
  clear h hN hB hw hm hne h0 hr hn hW hBW hOut
  go_enter Try.func18, Try.ntmps18
  go_upto_region 1 with fail
  rw [← HWE.out]
  go_wp2_with (first | (go_at_call 12; refine Hid.out ?_))
  refine Lib.hid ?_
  refine HBY.out.mono ?_
  rintro e w1 ⟨v1, rfl, ho, hb⟩
  obtain ⟨A1, c1, rfl, hc1⟩ := q_slice ho.qb
  clear hc1
  obtain ⟨n1, hn1⟩ : ∃ n, n = b.length := ⟨_, rfl⟩
  rw [← hn1] at ho ⊢
  have HN1 := Lib.hid hn1
  have HOW := Lib.hid ho
  have HB1 := Lib.hid hb
  have HW1 : Hid (Wt w1 gW gl (.pointer (some ⟨gB, 0, none⟩)) (.slice A l.length c) gone came) := Lib.hid ((HW.out.same (HBW.out.block gW HW.out.lt)).same (HB1.out.block gW (Nat.lt_of_lt_of_le HW.out.lt HBW.out.size)))
  clear k0 k1 k2 k3 k4 f3 f4
  obtain ⟨k0, k1, k2, k3, k4, f3, f4⟩ := HW1.out.cells
  rw [← HNN.out] at k2
  clear hn1 ho hb
  go_wp2
  go_loopg [20] (n + 1) (fun kq v20 wr => ∃ i : Nat, i ≤ n ∧ v20 = .int .i64 i ∧ Hid (kq = n + 1 - i) ∧ Hid (r = lookP (l.drop i) b i) ∧ Hid (Below w1.heap.size w1 wr))
  case atStart => exact ⟨0, by omega, rfl, Lib.hid rfl, Lib.hid (by rw [List.drop_zero]; exact HR.out), Lib.hid (Below.refl _ _)⟩
  case round =>
    obtain ⟨i, hi, rfl, HKQ, HF, HWR⟩ := hrel
    have hs1 : w.heap.size < W.heap.size ∧ W.heap.size ≤ w1.heap.size ∧ w1.heap.size ≤ wr.heap.size := ⟨HO.out.lt, HB1.out.size, HWR.out.size⟩
    have HB0 : Hid (Below w.heap.size w wr) := Lib.hid ((HBW.out.trans (HB1.out.mono HBW.out.size)).trans (HWR.out.mono (by omega)))
    have HOR : Hid (Blk wr w.heap.size 41 #[.int .i64 0, .int .i64 0, .slice none 0 0, .int .i64 0]) := Lib.hid ((HO.out.below HB1.out HO.out.lt).below HWR.out (by omega))
    have HS1 := Lib.hid hs1
    clear hs1
    rcases Nat.lt_or_ge i n with hlt | hge
    · have hlt' : i < l.length := by have := HNN.out; omega
      obtain ⟨A', c', he, _, _, hA, hcell⟩ := HC.out.below HB0.out HN.out
      injection he with i1 i2 i3
      subst i1; subst i3
      obtain ⟨gc, rfl, hgN, hgs⟩ := hA (fun e => by rw [e] at hlt'; simp at hlt')
      obtain ⟨pv, q1o, q2, q3⟩ := hcell gc rfl i hlt'
      have HFD := Lib.hid (HF.out.trans (lookP_drop hlt'))
      obtain ⟨kd, hkd⟩ : ∃ x, x = (l[i]).1 := ⟨_, rfl⟩
      have q1 : wr.cell? ⟨gc, i * 2, none⟩ = some (.int .i64 kd) := by rw [hkd]; exact q1o
      obtain ⟨po, hpo⟩ : ∃ x, x = (l[i]).2 := ⟨_, rfl⟩
      have HFD : Hid (r = look1 po b i (lookP (l.drop (i + 1)) b (i + 1))) := Lib.hid (by rw [hpo]; exact HFD.out)
      have hpv : PatV wr N pv po := by rw [hpo]; exact q3
      have g1 : decide ((i : Int) < (n : Int)) = true := by simp; omega
      have g2 : (i : Int) < (n : Int) := by omega
      have s1 : IntKind.i64.wrap ((i : Int) + 1) = (i : Int) + 1 := IntWalk.i64_in _ (by omega)
      clear hcell hA hkd hpo q3 q1o HF hgN hgs
      cases po with
      | none =>
        have hpv' : pv = .pointer none := hpv
        subst hpv'
        have HR1 : Hid (r = lookP (l.drop (i + 1)) b (i + 1)) := Lib.hid HFD.out
        clear hpv HFD
        go_wp2
        go_roundg (n + 1 - (i + 1))
        case measure => have := HKQ.out; omega
        case rel => exact ⟨i + 1, by omega, by simp, Lib.hid rfl, HR1, Lib.hid (HWR.out.alloc HS1.out.2.2 _)⟩
      | some x =>
        obtain ⟨gp, kd2, rfl, hp1, hp2, hp3⟩ := hpv
        have hb3 : Below wr.heap.size wr (wr.alloc (.cells #[.int .i64 kd, .pointer (some ⟨gp, 0, none⟩)] 55)) := (Below.refl _ _).alloc (Nat.le_refl _) _
        have HRD : Hid (∀ W, Below wr.heap.size wr W → Rd W (.slice A1 n1 c1) b) := Lib.hid fun W hW => ((HOW.out.rd.below (by have := HOW.out; exact HWR.out)).below hW)
        have hbl : b.length ≤ 2000 := by have := HB.out.fit; have := HB.out.most_le; omega
        have hmr : wr.cell? ⟨0, 0, none⟩ = some (.int .i64 m) := cell_same HM.out (HB0.out.block 0 (by have := HZ.out; have := HN.out; show 0 < _; omega))
        have HFI := find_ix (hp3.below hb3 hp3.lt) hp2 (HRD.out _ hb3) HB.out.rng (by omega) (cell_same hmr (hb3.block 0 (World.block_lt_of_cell? wr _ hmr)))
        have HB3 := Lib.hid hb3
        have HBL := Lib.hid hbl
        have hrg := ix_rng b x
        clear hb3 hp1 hp2 hp3 hmr hbl
        obtain ⟨f, hf⟩ : ∃ f, f = ix b x := ⟨_, rfl⟩
        have hfv : FindV b x = if f < 0 then .tuple #[.int .i64 0, .int .i64 0, .bool false] else .tuple #[.int .i64 f, .int .i64 (f + (x.size : Int)), .bool true] := by rw [hf]; rfl
        rw [hfv] at HFI
        have HR1 : Hid (r = if 0 ≤ f then some (i, f, f + (x.size : Int)) else lookP (l.drop (i + 1)) b (i + 1)) := Lib.hid (by rw [HFD.out, hf]; rfl)
        rw [← hf] at hrg
        clear hfv hf HFD
        by_cases hn : f < 0
        · rw [if_pos hn] at HFI
          have HR2 : Hid (r = lookP (l.drop (i + 1)) b (i + 1)) := Lib.hid (by rw [HR1.out, if_neg (by omega)])
          have HFI := Lib.hid HFI
          clear hrg hn HR1
          go_wp2_with (first | (go_at_call 29; refine HFI.out.mono ?_; rintro e w4 ⟨rfl, hb⟩; (have HB4 := Lib.hid hb; clear hb)))
          go_roundg (n + 1 - (i + 1))
          case measure => have := HKQ.out; omega
          case rel => exact ⟨i + 1, by omega, by simp, Lib.hid rfl, HR2, Lib.hid (HWR.out.trans ((HB3.out.trans (HB4.out.mono HB3.out.size)).mono HWR.out.size))⟩
        · rw [if_neg hn] at HFI
          obtain ⟨t, ht⟩ : ∃ t, t = f + (x.size : Int) := ⟨_, rfl⟩
          have hr2 := hrg.2 (by omega)
          rw [← ht] at HFI HR1 hr2
          obtain rfl : r = some (i, f, t) := by rw [HR1.out, if_pos (by omega)]
          have hft : 0 ≤ f ∧ f ≤ t := by omega
          have HFT := Lib.hid (And.intro hft hr2)
          have HFI := Lib.hid HFI
          clear hrg hn HR1 ht hr2 hft
          go_wp2_with (first | (go_at_call 29; refine Hid.out ?_))
          refine Lib.hid ?_
          refine HFI.out.mono ?_
          rintro e w4 ⟨rfl, hb4⟩
          have HB14 : Hid (Below wr.heap.size wr w4) := Lib.hid (HB3.out.trans (hb4.mono HB3.out.size))
          have HB04 : Hid (Below w.heap.size w w4) := Lib.hid (HB0.out.trans (HB14.out.mono HB0.out.size))
          have HW4 : Hid (Wt w4 gW gl (.pointer (some ⟨gB, 0, none⟩)) (.slice (some ⟨gc, 0, none⟩) l.length c) gone came) := Lib.hid (HW.out.same (HB04.out.block gW HW.out.lt))
          have HBU4 : Hid (Bu w4 gB N most bv b) := Lib.hid (HB.out.below HB04.out)
          have hft := HFT.out
          have HTK := Lib.hid (take_any (n := t) (k := t.toNat) HBU4.out (by omega) (.inl (by omega)))
          have HGB : Hid (gB < w.heap.size) := Lib.hid (by obtain ⟨_, hbk⟩ := HB.out.blk; exact hbk.lt)
          obtain ⟨A7, n7, c7, hcut, hrd7⟩ := Rd.mid (HRD.out w4 HB14.out) HN1.out f t hft.1.1 hft.1.2 hft.2
          have HR7 := Lib.hid hrd7
          have HO4 : Hid (Blk w4 w.heap.size 41 #[.int .i64 0, .int .i64 0, .slice none 0 0, .int .i64 0]) := Lib.hid (HOR.out.below HB14.out HOR.out.lt)
          clear k0 k1 k2 k3 k4 f3 f4 hft hrd7 hb4
          obtain ⟨k0, k1, k2, k3, k4, f3, f4⟩ := HW4.out.cells
          go_wp2_with (first | (go_at_call 21; refine Hid.out ?_))
          refine Lib.hid ?_
          refine HTK.out.mono ?_
          rintro e w5 ⟨v5, bv', rfl, ho5, hbu5, hk5, hbv⟩
          obtain ⟨A5, c5, rfl, _⟩ := q_slice ho5.qb
          have HBU5 := Lib.hid hbu5
          have HK5 := Lib.hid hk5
          have HBV := Lib.hid hbv
          have HW5 : Hid (Wt w5 gW gl (.pointer (some ⟨gB, 0, none⟩)) (.slice (some ⟨gc, 0, none⟩) l.length c) gone came) := Lib.hid (HW4.out.same (hk5.block gW HW4.out.lt HNE.out))
          have HO5 : Hid (Blk w5 w.heap.size 41 #[.int .i64 0, .int .i64 0, .slice none 0 0, .int .i64 0]) := Lib.hid (HO4.out.kp hk5 (by have := HGB.out; omega))
          have HR5 : Hid (Rd w5 (.slice A7 n7 c7) ((b.take t.toNat).drop f.toNat)) := Lib.hid (HR7.out w5 fun k e hk => hk5.block k hk (by have h1 := ownsRow_ge HOW.out e; have h2 := HGB.out; have h3 := HBW.out.size; omega))
          have HCL := Lib.hid (clone_any HR5.out (by rw [List.length_drop, List.length_take]; have := HBL.out; omega))
          clear k0 k1 k2 k3 k4 f3 f4 ho5 hbu5 hk5 hbv
          obtain ⟨k0, k1, k2, k3, k4, f3, f4⟩ := HW5.out.cells
          go_wp2_with (first | (go_at_call 16; refine Hid.out ?_))
          refine Lib.hid ?_
          refine HCL.out.mono ?_
          rintro e w6 ⟨v6, rfl, ho6, hb6⟩
          obtain ⟨A6, c6, rfl, _⟩ := q_slice ho6.qb
          obtain ⟨n6, hn6⟩ : ∃ n, n = ((b.take t.toNat).drop f.toNat).length := ⟨_, rfl⟩
          rw [← hn6] at ho6 ⊢
          have HO6 := Lib.hid ho6
          have HB6 := Lib.hid hb6
          have HEN := Lib.hid (ends_any (HW5.out.same (hb6.block gW HW5.out.lt)) 1 (i : Int) A6 n6 c6)
          clear k0 k1 k2 k3 k4 f3 f4 ho6 hb6 hn6
          go_wp2_with (first | (go_at_call 20; refine Hid.out ?_))
          refine Lib.hid ?_
          refine HEN.out.mono ?_
          rintro e w7 ⟨rfl, hb7⟩
          have HO7 : Hid (Blk w7 w.heap.size 41 #[.int .i64 0, .int .i64 0, .slice none 0 0, .int .i64 0]) := Lib.hid ((HO5.out.below HB6.out HO5.out.lt).below hb7 (Nat.lt_of_lt_of_le HO5.out.lt HB6.out.size))
          have HB7 := Lib.hid hb7
          obtain ⟨⟨y0, y1, y2, y3⟩, z0, z1, z2, z3⟩ := blk4 HO7.out
          clear hb7
          go_wp2
          obtain ⟨⟨h0, h1, h2, h3⟩, _⟩ := blk4 (store4 HO7.out (.int .i64 1) (.int .i64 (i : Int)) (.slice A6 n6 c6) (.int .i64 gone))
          refine bodyPost_ret (v := .tuple #[.agg #[.int .i64 1, .int .i64 (i : Int), .slice A6 n6 c6, .int .i64 gone], .bool true]) (by simp [results, Try.results18, go_sem, h0, h1, h2, h3]) rfl ?_
          have hs4 := HB04.out.size
          have hs5 := HK5.out.size
          have hs6 := HB6.out.size
          have hgb := HGB.out
          have hkf : Kp w7 ((((w7.setCell ⟨w.heap.size, 0, none⟩ (.int .i64 1)).setCell ⟨w.heap.size, 1, none⟩ (.int .i64 (i : Int))).setCell ⟨w.heap.size, 2, none⟩ (.slice A6 n6 c6)).setCell ⟨w.heap.size, 3, none⟩ (.int .i64 gone)) (fun k => k = w.heap.size) := ((((Kp.refl w7 (fun k => k = w.heap.size)).set_ (p := ⟨w.heap.size, 0, none⟩) (fun _ => rfl) _).set_ (p := ⟨w.heap.size, 1, none⟩) (fun _ => rfl) _).set_ (p := ⟨w.heap.size, 2, none⟩) (fun _ => rfl) _).set_ (p := ⟨w.heap.size, 3, none⟩) (fun _ => rfl) _
          have hlo : w.heap.size < w4.heap.size := HO4.out.lt
          have hk57 : Kp w5 ((((w7.setCell ⟨w.heap.size, 0, none⟩ (.int .i64 1)).setCell ⟨w.heap.size, 1, none⟩ (.int .i64 (i : Int))).setCell ⟨w.heap.size, 2, none⟩ (.slice A6 n6 c6)).setCell ⟨w.heap.size, 3, none⟩ (.int .i64 gone)) (fun k => k = w.heap.size) := ((Kp.of_below (ex := fun k => k = w.heap.size) HB6.out (fun k a c => by omega)).trans (Kp.of_below (ex := fun k => k = w.heap.size) HB7.out (fun k a c => by omega)) (fun k _ e => e)).trans hkf (fun k _ e => e)
          refine ⟨A6, n6, c6, bv', rfl, ?_, HBU5.out.kp hk57 (by omega) (fun k e c => ?_), ?_, HBV.out⟩
          · refine own_kp (own_kp (own_mono HO6.out (by omega)) (Kp.of_below (ex := fun k => k = w.heap.size) HB7.out (fun k a c => by omega)) (fun k e c => ?_)) hkf (fun k e c => ?_)
            · have := ownsRow_ge HO6.out e; omega
            · have := ownsRow_ge HO6.out e; omega
          · subst c
            rw [HBV.out] at e
            have := q_lt HB.out.row _ e
            omega
          · refine ((Kp.of_below (ex := fun k => k = gB) HB04.out (fun k a c => by omega)).trans HK5.out (fun k _ e => e)).trans hk57 (fun k h e => by omega)
    · obtain rfl : i = n := by omega
      have HR1 : Hid (r = none) := Lib.hid (by rw [HF.out, HNN.out, List.drop_length]; rfl)
      have g1 : decide ((i : Int) < (i : Int)) = false := by simp
      obtain rfl := HR1.out
      obtain ⟨⟨y0, y1, y2, y3⟩, z0, z1, z2, z3⟩ := blk4 HOR.out
      clear HF
      go_wp2
      obtain ⟨⟨h0, h1, h2, h3⟩, _⟩ := blk4 (store4 HOR.out (.int .i64 0) (.int .i64 0) (.slice none 0 0) (.int .i64 0))
      refine bodyPost_ret (v := .tuple #[.agg #[.int .i64 0, .int .i64 0, .slice none 0 0, .int .i64 0], .bool false]) (by simp [results, Try.results18, go_sem, h0, h1, h2, h3]) rfl ?_
      exact ⟨rfl, below4 HB0.out (Nat.le_refl _) _ _ _ _⟩
end Go.Proofs.Ytjnfomgehfmllaa.Tk
