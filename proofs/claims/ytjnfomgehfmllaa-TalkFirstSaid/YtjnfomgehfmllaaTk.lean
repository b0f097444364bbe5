/- talk.Compile, of clauses that are exact or of no text. -/
import Derived.Test.YtjnfomgehfmllaaTj
namespace Go.Proofs.Ytjnfomgehfmllaa.Tk
set_option linter.unusedVariables false
set_option linter.unusedSimpArgs false
open Go.RowKit Go.Proofs.Ytjnfomgehfmllaa.Mem Go.Proofs.Ytjnfomgehfmllaa.By Go.Proofs.YtjnfomgehfmllaaW.PrintWords Go.Proofs.YtjnfomgehfmllaaW.PrintLast Go.Proofs.YtjnfomgehfmllaaW.PrintMore

def okC (c : Int × ByteArray) : Prop := (c.1 = 1 ∧ c.2.size ≤ 256) ∨ (4 ≤ c.1 ∧ c.1 ≤ 7)
set_option maxHeartbeats 4000000 in
set_option maxRecDepth 100000 in
theorem tcomp_any {w : World} {v : Value} {cs : List (Int × ByteArray)} (h : CIn w v cs) (hok : ∀ c ∈ cs, okC c) : Calls Try.prog 7 #[v] w fun e w' => ∃ v', e = .returned (.tuple #[v', .int .i64 0]) ∧ Cls w' w'.heap.size v' (cs.map toCl) ∧ Below w.heap.size w w' := by
  have HI := Lib.hid h
  have HOK := Lib.hid hok
  obtain ⟨A, c, rfl, hlc, hl1000, _, _⟩ := id h
  obtain ⟨n, hn⟩ : ∃ n, n = cs.length := ⟨_, rfl⟩
  have HNN := Lib.hid hn
  rw [← hn] at hlc hl1000 ⊢
  clear h hok hn
  go_enter Try.func7, Try.ntmps7
  go_wp2
  go_loopg [4, 13] (n + 1) (fun kq v4 v13 wr => ∃ (i : Nat) (vo : Value), i ≤ n ∧ v13 = .int .i64 i ∧ vo = v4 ∧ Hid (kq = n + 1 - i) ∧ Hid (RowC wr w.heap.size vo ((cs.map toCl).take i)) ∧ Hid (Below w.heap.size w wr))
  case atStart => exact ⟨0, _, by omega, rfl, rfl, Lib.hid rfl, Lib.hid (RowC.nil _ _), Lib.hid (Below.refl _ _)⟩
  case round =>
    obtain ⟨i, vo, hi, rfl, rfl, HKQ, HRC, HW⟩ := hrel
    rcases Nat.lt_or_ge i n with hlt | hge
    · have hlt' : i < cs.length := by have := HNN.out; omega
      obtain ⟨A', c', he, _, _, hA, hcell⟩ := HI.out.below HW.out
      injection he with i1 i2 i3
      subst i1; subst i3
      obtain ⟨gc, rfl, hgs⟩ := hA (fun e => by rw [e] at hlt'; simp at hlt')
      obtain ⟨c0, c1, c2, c3⟩ := hcell gc rfl i hlt'
      obtain ⟨⟨k, t⟩, hkt⟩ : ∃ x, x = cs[i] := ⟨_, rfl⟩
      have hokc : okC (k, t) := by rw [hkt]; exact HOK.out _ (List.getElem_mem hlt')
      rw [← hkt] at c0 c1
      simp only at c0 c1
      have HTK : Hid ((cs.map toCl).take (i + 1) = (cs.map toCl).take i ++ [(k, if k ≤ 3 then some t else none)]) := Lib.hid (by
        rw [List.take_succ_eq_append_getElem (by simpa using hlt'), List.getElem_map, ← hkt]; rfl)
      have g1 : decide ((i : Int) < (n : Int)) = true := by simp; omega
      have g2 : (i : Int) < (n : Int) := by omega
      have s1 : IntKind.i64.wrap ((i : Int) + 1) = (i : Int) + 1 := IntWalk.i64_in _ (by omega)
      have HL : Hid (((cs.map toCl).take i).length ≤ 1000) := Lib.hid (by rw [List.length_take]; omega)
      obtain ⟨W, hW⟩ : ∃ W, W = (wr.alloc (.cells #[.int .i64 k, .string t, .bool false, .slice none 0 0] 30)).alloc (.cells #[.int .i64 k, .pointer none] 55) := ⟨_, rfl⟩
      have HBW : Hid (Below wr.heap.size wr W) := Lib.hid (by rw [hW]; exact ((Below.refl _ _).alloc (Nat.le_refl _) _).alloc (by simp) _)
      have HXB : Hid (Blk W (wr.heap.size + 1) 55 #[.int .i64 k, .pointer none]) := Lib.hid (by rw [hW]; exact Blk.last _ _ _ (by simp))
      have HCB : Hid (Blk W wr.heap.size 30 #[.int .i64 k, .string t, .bool false, .slice none 0 0]) := Lib.hid (by rw [hW]; exact (Blk.new _ _ _).alloc _)
      have HWE := Lib.hid hW
      clear hcell hA hkt hgs hW
      rcases hokc with ⟨rfl, ht⟩ | ⟨hk4, hk7⟩
      · have HPC := Lib.hid (pcomp_any W t ht)
        go_upto_region 6 with fail
        rw [← HWE.out]
        clear c0 c1 c2 c3
        obtain ⟨p0, p1, p2, p3⟩ := (blk4 HCB.out).1
        have q0 := HXB.out.cell 0; have q1 := HXB.out.cell 1; have qf := HXB.out.frozen 1
        simp only [List.getElem?_toArray, List.getElem?_cons_zero, List.getElem?_cons_succ] at q0 q1
        go_wp2_with (first | (go_at_call 15; refine Hid.out ?_))
        refine Lib.hid ?_
        refine HPC.out.mono ?_
        rintro e w5 ⟨rfl, hb5, hp5, hl5⟩
        have HB5 := Lib.hid hb5
        have HP5 := Lib.hid hp5
        have HX5 : Hid (Blk w5 (wr.heap.size + 1) 55 #[.int .i64 1, .pointer none]) := Lib.hid (HXB.out.below hb5 HXB.out.lt)
        have HL5 := Lib.hid hl5
        clear p0 p1 p2 p3 q0 q1 qf hb5 hp5 hl5
        have q0 := HX5.out.cell 0; have q1 := HX5.out.cell 1; have qf := HX5.out.frozen 1
        simp only [List.getElem?_toArray, List.getElem?_cons_zero, List.getElem?_cons_succ] at q0 q1
        go_upto_region 13 with fail
        obtain ⟨W6, hW6⟩ : ∃ W', W' = w5.setCell ⟨wr.heap.size + 1, 1, none⟩ (.pointer (some ⟨W.heap.size, 0, none⟩)) := ⟨_, rfl⟩
        rw [← hW6]
        have HB6 : Hid (Below wr.heap.size wr W6) := Lib.hid (by rw [hW6]; exact (HBW.out.trans (HB5.out.mono HBW.out.size)).setCell (by simp) _)
        have HX6 : Hid (Blk W6 (wr.heap.size + 1) 55 #[.int .i64 1, .pointer (some ⟨W.heap.size, 0, none⟩)]) := Lib.hid (by rw [hW6]; have := HX5.out.set_ 1 (.pointer (some ⟨W.heap.size, 0, none⟩)); simpa using this)
        have HP6 : Hid (PatV W6 W6.heap.size (.pointer (some ⟨W.heap.size, 0, none⟩)) (some t)) := Lib.hid (by
          have hne : W.heap.size ≠ wr.heap.size + 1 := by have := HXB.out.lt; omega
          have hb : Blk W6 W.heap.size 77 #[.int .i64 1, .string t, .pointer none] := by rw [hW6]; exact HP5.out.far hne _
          exact ⟨W.heap.size, 1, rfl, hb.lt, ht, hb⟩)
        clear hW6 q0 q1 qf
        have HB6w : Hid (Below w.heap.size w W6) := Lib.hid (HW.out.trans (HB6.out.mono HW.out.size))
        have hrc6 := HRC.out.below HB6.out
        have hbz : Below W6.heap.size W6 (W6.alloc (.cells #[.int .i64 1, .pointer (some ⟨W.heap.size, 0, none⟩)] 55)) := (Below.refl _ _).alloc (Nat.le_refl _) _
        have hnb := Blk.new W6 55 #[.int .i64 1, .pointer (some ⟨W.heap.size, 0, none⟩)]
        have hn0 := hnb.cell 0; have hn1 := hnb.cell 1
        simp only [List.getElem?_toArray, List.getElem?_cons_zero, List.getElem?_cons_succ] at hn0 hn1
        obtain ⟨v1, w1, hrun, hrc1, hb1⟩ := (hrc6.below hbz).push (by have := HB6w.out.size; have := hbz.size; omega) HL.out (HP6.out.up hbz.size (fun k cells hk _ => hbz.block k hk)) 1 hn0 hn1 24
        have HRC1 := Lib.hid hrc1
        have HB1 : Hid (Below w.heap.size w w1) := Lib.hid ((HB6w.out.alloc HB6w.out.size _).trans hb1)
        have q0 := HX6.out.cell 0; have q1 := HX6.out.cell 1
        simp only [List.getElem?_toArray, List.getElem?_cons_zero, List.getElem?_cons_succ] at q0 q1
        clear hrc6 hbz hnb hn0 hn1 hrc1 hb1
        go_wp2_with (first | ((with_reducible refine gate_builtin (b := .append) (xs := #[.tmp 46, .tmp 48]) rfl ?_); at_builtin; refine Lib.wpList_append_run_sl _ rfl _ _ 24 rfl _ _ rfl rfl hrun ?_))
        go_roundg (n + 1 - (i + 1))
        case measure => have := HKQ.out; omega
        case rel => exact ⟨i + 1, v1, by omega, by simp, rfl, Lib.hid rfl, Lib.hid (by rw [HTK.out, if_pos (by decide)]; exact HRC1.out), HB1⟩
      · go_upto_region 13 with fail
        rw [← HWE.out]
        clear c0 c1 c2 c3
        have HB6 := HBW
        have HX6 := HXB
        have HP6 : Hid (PatV W W.heap.size (.pointer none) none) := Lib.hid rfl
        obtain ⟨W6, hW6⟩ : ∃ W', W' = W := ⟨_, rfl⟩
        rw [← hW6] at HB6 HX6 HP6 ⊢
        clear hW6
        have HB6w : Hid (Below w.heap.size w W6) := Lib.hid (HW.out.trans (HB6.out.mono HW.out.size))
        have hrc6 := HRC.out.below HB6.out
        have hbz : Below W6.heap.size W6 (W6.alloc (.cells #[.int .i64 k, .pointer none] 55)) := (Below.refl _ _).alloc (Nat.le_refl _) _
        have hnb := Blk.new W6 55 #[.int .i64 k, .pointer none]
        have hn0 := hnb.cell 0; have hn1 := hnb.cell 1
        simp only [List.getElem?_toArray, List.getElem?_cons_zero, List.getElem?_cons_succ] at hn0 hn1
        obtain ⟨v1, w1, hrun, hrc1, hb1⟩ := (hrc6.below hbz).push (by have := HB6w.out.size; have := hbz.size; omega) HL.out (HP6.out.up hbz.size (fun k cells hk _ => hbz.block k hk)) 1 hn0 hn1 24
        have HRC1 := Lib.hid hrc1
        have HB1 : Hid (Below w.heap.size w w1) := Lib.hid ((HB6w.out.alloc HB6w.out.size _).trans hb1)
        have q0 := HX6.out.cell 0; have q1 := HX6.out.cell 1
        simp only [List.getElem?_toArray, List.getElem?_cons_zero, List.getElem?_cons_succ] at q0 q1
        clear hrc6 hbz hnb hn0 hn1 hrc1 hb1
        go_wp2_with (first | ((with_reducible refine gate_builtin (b := .append) (xs := #[.tmp 46, .tmp 48]) rfl ?_); at_builtin; refine Lib.wpList_append_run_sl _ rfl _ _ 24 rfl _ _ rfl rfl hrun ?_))
        go_roundg (n + 1 - (i + 1))
        case measure => have := HKQ.out; omega
        case rel => exact ⟨i + 1, v1, by omega, by simp, rfl, Lib.hid rfl, Lib.hid (by rw [HTK.out, if_neg (by omega)]; exact HRC1.out), HB1⟩
    · obtain rfl : i = n := by omega
      have HR : Hid (RowC wr w.heap.size vo (cs.map toCl)) := Lib.hid (by have := HRC.out; rw [List.take_of_length_le (by have := HNN.out; simp; omega)] at this; exact this)
      have g1 : decide ((i : Int) < (i : Int)) = false := by simp
      clear HRC
      go_wp2
      go_ret2
      exact ⟨_, rfl, HR.out.cls (by have := HNN.out; simp; omega), HW.out⟩
end Go.Proofs.Ytjnfomgehfmllaa.Tk
