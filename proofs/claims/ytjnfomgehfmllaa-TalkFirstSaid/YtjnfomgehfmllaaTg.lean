/- The first clause of a kind. -/
import Derived.Test.YtjnfomgehfmllaaTf
import Derived.Conc.PipeWords
namespace Go.Proofs.Ytjnfomgehfmllaa.Tk
set_option linter.unusedVariables false
set_option linter.unusedSimpArgs false
open Go.RowKit Go.Proofs.Ytjnfomgehfmllaa.Mem Go.Proofs.Ytjnfomgehfmllaa.By Go.Proofs.YtjnfomgehfmllaaW.PrintWords Go.Proofs.YtjnfomgehfmllaaW.PrintLast Go.Proofs.YtjnfomgehfmllaaW.PrintMore

theorem firstK_drop {l : List Cl} {k : Int} {i : Nat} (h : i < l.length) : firstK (l.drop i) k i = if (l[i]).1 = k then (i : Int) else firstK (l.drop (i + 1)) k (i + 1) := by
  rw [List.drop_eq_getElem_cons h, firstK]
set_option maxHeartbeats 4000000 in
set_option maxRecDepth 100000 in
theorem func_any {w : World} {N q : Nat} {v : Value} {l : List Cl} {k : Int} (h : Cls w N v l) (hN : N ≤ w.heap.size) (hq : w.cell? ⟨q, 0, none⟩ = some (.int .i64 k)) : Calls Try.prog 27 #[v, .func (.func 28) #[] #[.pointer (some ⟨q, 0, none⟩)]] w fun e w' => e = .returned (.int .i64 (firstK l k 0)) ∧ Below w.heap.size w w' := by
  have HC := Lib.hid h
  obtain ⟨A, c, rfl, hlc, hl1000, _, _⟩ := h
  have HL := Lib.hid hl1000
  have HQ := Lib.hid hq
  have hql : q < w.heap.size := World.block_lt_of_cell? w _ hq
  have HQL := Lib.hid hql
  have HN := Lib.hid hN
  obtain ⟨r, hr⟩ : ∃ r, r = firstK l k 0 := ⟨_, rfl⟩
  have HRR := Lib.hid hr
  rw [← hr]
  clear hr
  obtain ⟨n, hn⟩ : ∃ n, n = l.length := ⟨_, rfl⟩
  have HNN := Lib.hid hn
  rw [← hn] at hlc hl1000 ⊢
  clear hq hql hN hn
  go_enter Try.func27, Try.ntmps27
  go_wp2
  go_loopg [8] (n + 1) (fun kq v8 wr => ∃ i : Nat, i ≤ n ∧ v8 = .int .i64 i ∧ Hid (kq = n + 1 - i) ∧ Hid (r = firstK (l.drop i) k i) ∧ Hid (Below w.heap.size w wr))
  case atStart => exact ⟨0, by omega, rfl, Lib.hid rfl, Lib.hid (by rw [List.drop_zero]; exact HRR.out), Lib.hid (Below.refl _ _)⟩
  case round =>
    obtain ⟨i, hi, rfl, HKQ, HF, HW⟩ := hrel
    rcases Nat.lt_or_ge i n with hlt | hge
    · have hlt' : i < l.length := by have := HNN.out; omega
      obtain ⟨A', c', he, _, _, hA, hcell⟩ := HC.out.below HW.out HN.out
      injection he with i1 i2 i3
      subst i1; subst i3
      obtain ⟨gc, rfl, hgN, hgs⟩ := hA (fun e => by rw [e] at hlt'; simp at hlt')
      obtain ⟨pv, c1o, c2, c3⟩ := hcell gc rfl i hlt'
      have HFD : Hid (r = if (l[i]).1 = k then (i : Int) else firstK (l.drop (i + 1)) k (i + 1)) := Lib.hid (by rw [HF.out, firstK_drop hlt'])
      obtain ⟨kd, hkd⟩ : ∃ x, x = (l[i]).1 := ⟨_, rfl⟩
      have c1 : wr.cell? ⟨gc, i * 2, none⟩ = some (.int .i64 kd) := by rw [hkd]; exact c1o
      have HFD : Hid (r = if kd = k then (i : Int) else firstK (l.drop (i + 1)) k (i + 1)) := Lib.hid (by rw [hkd]; exact HFD.out)
      have hqr : wr.cell? ⟨q, 0, none⟩ = some (.int .i64 k) := cell_same HQ.out (HW.out.block q HQL.out)
      have HKA := Lib.hid (kind_any (pv := pv) (n := kd) hqr)
      have g1 : decide ((i : Int) < (n : Int)) = true := by simp; omega
      have g2 : (i : Int) < (n : Int) := by omega
      have s1 : IntKind.i64.wrap ((i : Int) + 1) = (i : Int) + 1 := IntWalk.i64_in _ (by omega)
      clear hcell hA hkd hqr c3 hgN hgs c1o
      by_cases hkk : kd = k
      · have e1 : decide (kd = k) = true := by simpa using hkk
        rw [e1] at HKA
        have HR : Hid (r = (i : Int)) := Lib.hid (by rw [HFD.out, if_pos hkk])
        obtain rfl := HR.out
        clear hkk e1 HFD HF
        go_wp2_with (first | (go_at_call 28; refine HKA.out.mono ?_; rintro e w2 ⟨rfl, hb⟩; (have HB2 := Lib.hid hb; clear hb)))
        go_ret
        exact ⟨rfl, HW.out.trans (HB2.out.mono HW.out.size)⟩
      · have e1 : decide (kd = k) = false := by simpa using hkk
        rw [e1] at HKA
        have HR : Hid (r = firstK (l.drop (i + 1)) k (i + 1)) := Lib.hid (by rw [HFD.out, if_neg hkk])
        clear hkk e1 HFD HF
        go_wp2_with (first | (go_at_call 28; refine HKA.out.mono ?_; rintro e w2 ⟨rfl, hb⟩; (have HB2 := Lib.hid hb; clear hb)))
        go_roundg (n + 1 - (i + 1))
        case measure => have := HKQ.out; omega
        case rel => exact ⟨i + 1, by omega, by simp, Lib.hid rfl, HR, Lib.hid (HW.out.trans (HB2.out.mono HW.out.size))⟩
    · obtain rfl : i = n := by omega
      have HR : Hid (r = -1) := Lib.hid (by rw [HF.out, HNN.out, List.drop_length]; rfl)
      have g1 : decide ((i : Int) < (i : Int)) = false := by simp
      obtain rfl := HR.out
      clear HF
      go_wp2
      go_ret
      exact ⟨rfl, HW.out⟩
/-- A wait in memory. -/
structure Wt (w : World) (gW : Nat) (gl gb : Value) (cv : Value) (gone : Int) (came : Bool) : Prop where
  blk : Blk w gW 65 #[gl, gb, cv, .int .i64 gone, .bool came]
theorem Wt.cells {w : World} {gW : Nat} {gl gb cv : Value} {gone : Int} {came : Bool} (h : Wt w gW gl gb cv gone came) : w.cell? ⟨gW, 0, none⟩ = some gl ∧ w.cell? ⟨gW, 1, none⟩ = some gb ∧ w.cell? ⟨gW, 2, none⟩ = some cv ∧ w.cell? ⟨gW, 3, none⟩ = some (.int .i64 gone) ∧ w.cell? ⟨gW, 4, none⟩ = some (.bool came) ∧ w.frozen? ⟨gW, 3, none⟩ = false ∧ w.frozen? ⟨gW, 4, none⟩ = false := by
  have hb := h.blk
  have k0 := hb.cell 0; have k1 := hb.cell 1; have k2 := hb.cell 2; have k3 := hb.cell 3; have k4 := hb.cell 4
  simp only [List.getElem?_toArray, List.getElem?_cons_zero, List.getElem?_cons_succ] at k0 k1 k2 k3 k4
  exact ⟨k0, k1, k2, k3, k4, hb.frozen 3, hb.frozen 4⟩
set_option maxHeartbeats 4000000 in
set_option maxRecDepth 100000 in
theorem first_any {w : World} {gW N : Nat} {gl gb cv : Value} {gone : Int} {came : Bool} {l : List Cl} (hw : Wt w gW gl gb cv gone came) (h : Cls w N cv l) (hN : N ≤ w.heap.size) (k : Int) : Calls Try.prog 17 #[.pointer (some ⟨gW, 0, none⟩), .int .i64 k] w fun e w' => e = .returned (.int .i64 (firstK l k 0)) ∧ Below w.heap.size w w' := by
  have HC := Lib.hid h
  have HN := Lib.hid hN
  obtain ⟨k0, k1, k2, k3, k4, f3, f4⟩ := hw.cells
  obtain ⟨A, c, rfl, _, _, _, _⟩ := id h
  have hwl : gW < w.heap.size := World.block_lt_of_cell? w _ k0
  obtain ⟨W, hW⟩ : ∃ W, W = w.alloc (.cells #[.int .i64 k] 3) := ⟨_, rfl⟩
  have hB : Below w.heap.size w W := by rw [hW]; exact (Below.refl _ _).alloc (Nat.le_refl _) _
  have p2 : W.cell? ⟨gW, 2, none⟩ = some (.slice A l.length c) := cell_same k2 (hB.block gW hwl)
  have hq : W.cell? ⟨w.heap.size, 0, none⟩ = some (.int .i64 k) := by
    rw [hW]
    exact (Blk.new w 3 #[.int .i64 k]).cell 0
  have HF := Lib.hid (func_any (h.below hB hN) (by have := hB.size; omega) hq)
  obtain ⟨r, hr⟩ : ∃ r, r = firstK l k 0 := ⟨_, rfl⟩
  rw [← hr] at HF ⊢
  clear hr
  have HB := Lib.hid hB
  have HWE := Lib.hid hW
  clear h hw hN hW hB hwl hq
  go_enter Try.func17, Try.ntmps17
  go_upto_region 1 with fail
  rw [← HWE.out]
  go_wp2_with (first | (go_at_call 27; refine HF.out.mono ?_; rintro e w2 ⟨rfl, hb⟩; (have HB2 := Lib.hid hb; clear hb)))
  go_ret
  exact ⟨rfl, HB.out.trans (HB2.out.mono HB.out.size)⟩
end Go.Proofs.Ytjnfomgehfmllaa.Tk
