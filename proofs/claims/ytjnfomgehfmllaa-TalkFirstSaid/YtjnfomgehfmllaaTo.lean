/- The document's example. -/
import Derived.Test.YtjnfomgehfmllaaTn
import Derived.Lib.SmallJoins
namespace Go.Proofs.Ytjnfomgehfmllaa.Tk
set_option linter.unusedVariables false
set_option linter.unusedSimpArgs false
open Go.RowKit Go.Proofs.Ytjnfomgehfmllaa.Mem Go.Proofs.Ytjnfomgehfmllaa.By Go.Proofs.YtjnfomgehfmllaaW.PrintWords Go.Proofs.YtjnfomgehfmllaaW.PrintLast Go.Proofs.YtjnfomgehfmllaaW.PrintMore

theorem rd_lit {w : World} {g n c : Nat} {cs : Array Value} {fr : Nat × Nat} {l : List Int} (h : w.heap[g]? = some (.cells cs 5 fr)) (hcs : cs = (nums .u8 l).toArray) (hn : n = l.length) (hc : l.length ≤ c) (hl : l.length ≤ 140737488355328) : Rd w (.slice (some ⟨g, 0, none⟩) n c) l := by
  subst hcs; subst hn
  refine ⟨_, c, rfl, hc, (fun e => (by cases e)), rfl, by omega, fun _ => ⟨_, rfl, fun j hj => ?_⟩⟩
  rw [By.add_plain, Nat.zero_add, cell_of_row w g j _ _ fr h, List.getElem?_toArray]
  exact nums_get hj
theorem chin_two {w : World} {gc : Nat} {k1 k2 : Int} {v1 v2 : Value} {x1 x2 : List Int} (h : Blk w gc 46 #[.int .i64 k1, v1, .int .i64 k2, v2]) (h1 : Rd w v1 x1) (h2 : Rd w v2 x2) (r1 : Rng x1) (r2 : Rng x2) (l1 : x1.length ≤ 140737488355328) (l2 : x2.length ≤ 140737488355328) : ChIn w (.slice (some ⟨gc, 0, none⟩) 2 2) [(k1, x1), (k2, x2)] := by
  refine ⟨_, 2, rfl, Nat.le_refl _, by simp, fun _ => ⟨gc, 0, rfl, h.lt⟩, fun g o hg k hk => ?_⟩
  injection hg with hg
  injection hg with hg ho
  subst hg; subst ho
  obtain ⟨⟨c0, c1, c2, c3⟩, _⟩ := blk4 h
  rcases k with _ | _ | k
  · exact ⟨v1, c0, c1, h1, r1, l1⟩
  · exact ⟨v2, c2, c3, h2, r2, l2⟩
  · have : k + 1 + 1 < 2 := hk
    omega
set_option maxHeartbeats 4000000 in
set_option maxRecDepth 100000 in
theorem alive_any {w : World} {m : Int} (hm : w.cell? ⟨0, 0, none⟩ = some (.int .i64 m)) : Calls Try.prog 6 #[] w fun e w' => e = .returned (.bool true) ∧ Below w.heap.size w w' := by
  obtain ⟨W, hW⟩ : ∃ W, W = w.alloc (.cells #[.int .i64 1, .string ⟨#[98]⟩, .bool false, .slice none 0 0, .int .i64 4, .string ⟨#[]⟩, .bool false, .slice none 0 0] 30) := ⟨_, rfl⟩
  have hCI : CIn W (.slice (some ⟨w.heap.size, 0, none⟩) 2 2) [(1, ⟨#[98]⟩), (4, ⟨#[]⟩)] := by
    have hb : Blk W w.heap.size 30 (apCells [(1, ⟨#[98]⟩), (4, ⟨#[]⟩)]).toArray := by rw [hW]; exact Blk.new _ _ _
    exact cin_blk hb (Nat.le_refl _) (by decide)
  have HB1 : Hid (Below w.heap.size w W) := Lib.hid (by rw [hW]; exact (Below.refl _ _).alloc (Nat.le_refl _) _)
  have HCO := Lib.hid (tcomp_any hCI (by intro c hc; simp at hc; rcases hc with rfl | rfl; exact .inl ⟨rfl, by decide⟩; exact .inr ⟨by decide, by decide⟩))
  have HM := Lib.hid hm
  have HWE := Lib.hid hW
  clear hCI hW hm
  go_enter Try.func6, Try.ntmps6
  go_wp2_with (first | (go_at_call 7; refine Hid.out ?_))
  refine Lib.hid ?_
  rw [← HWE.out]
  refine HCO.out.mono ?_
  rintro e w2 ⟨cv, rfl, hcl, hb2⟩
  have HCL := Lib.hid hcl
  have HB2 : Hid (Below w.heap.size w w2) := Lib.hid (HB1.out.trans (hb2.mono HB1.out.size))
  obtain ⟨Acv, ccv, rfl, _, _, _, _⟩ := id hcl
  clear hcl hb2
  obtain ⟨W2, hW2⟩ : ∃ W', W' = ((w2.alloc (.cells #[.int .u8 97] 5 (1, 2))).alloc (.cells #[.int .u8 98, .int .u8 99] 5 (2, 3))).alloc (.cells #[.int .i64 1, .slice (some ⟨w2.heap.size, 0, none⟩) 1 1, .int .i64 2, .slice (some ⟨w2.heap.size + 1, 0, none⟩) 2 2] 46) := ⟨_, rfl⟩
  have HBW2 : Hid (Below w2.heap.size w2 W2) := Lib.hid (by rw [hW2]; exact (((Below.refl _ _).alloc (Nat.le_refl _) _).alloc (by simp) _).alloc (by simp; omega) _)
  have HCH : Hid (ChIn W2 (.slice (some ⟨w2.heap.size + 1 + 1, 0, none⟩) 2 2) [(1, [97]), (2, [98, 99])]) := Lib.hid (by
    have a0 : ∀ (w : World) (o : Obj) (k : Nat), k < w.heap.size → (w.alloc o).heap[k]? = w.heap[k]? := fun w o k hk => Below.heap_alloc w o k hk
    have b1 : W2.heap[w2.heap.size]? = some (.cells #[.int .u8 97] 5 (1, 2)) := by rw [hW2, a0 _ _ _ (by simp; omega), a0 _ _ _ (by simp)]; exact heap_alloc_new w2 _
    have b2 : W2.heap[w2.heap.size + 1]? = some (.cells #[.int .u8 98, .int .u8 99] 5 (2, 3)) := by
      rw [hW2, a0 _ _ _ (by simp)]
      have := heap_alloc_new (w2.alloc (.cells #[.int .u8 97] 5 (1, 2))) (.cells #[.int .u8 98, .int .u8 99] 5 (2, 3))
      simpa using this
    have b3 : Blk W2 (w2.heap.size + 1 + 1) 46 #[.int .i64 1, .slice (some ⟨w2.heap.size, 0, none⟩) 1 1, .int .i64 2, .slice (some ⟨w2.heap.size + 1, 0, none⟩) 2 2] := by rw [hW2]; exact Blk.last _ _ _ (by simp)
    exact chin_two b3 (rd_lit b1 rfl rfl (by decide) (by decide)) (rd_lit b2 rfl rfl (by decide) (by decide)) (by intro x hx; simp at hx; omega) (by intro x hx; simp at hx; omega) (by decide) (by decide))
  have HOP := Lib.hid (open_any HCH.out 0 0)
  have HWE2 := Lib.hid hW2
  have kc1 := Go.Joins.run_convert_bytes_const_at (P := Try.prog) w2 39 5 #[.int .u8 97] 1 1 w2.heap.size rfl Try.underlying39 Try.underlying5
  have kc2 := Go.Joins.run_convert_bytes_const_at (P := Try.prog) (w2.alloc (.cells #[.int .u8 97] 5 (1, 2))) 39 5 #[.int .u8 98, .int .u8 99] 2 2 (w2.heap.size + 1) (by simp) Try.underlying39 Try.underlying5
  clear hW2
  go_wp2_with (first | (go_at_call 8; refine Hid.out ?_))
  refine Lib.hid ?_
  rw [← HWE2.out]
  refine HOP.out.mono ?_
  rintro e w3 ⟨g, rfl, hge, hlt, hb3, hli⟩
  have HNW := Lib.hid (new_any w3 10)
  have HF3 := Lib.hid (And.intro (And.intro hge hlt) (And.intro hb3 hli))
  clear hge hlt hb3 hli kc1 kc2
  go_wp2_with (first | (go_at_call 9; refine Hid.out ?_))
  refine Lib.hid ?_
  refine HNW.out.mono ?_
  rintro e w4 ⟨rfl, hb4, hbu⟩
  obtain ⟨gB, hgB⟩ : ∃ g, g = w3.heap.size := ⟨_, rfl⟩
  have HS : Hid (Ses w w4 g gB g 10 ⟨[(1, [97]), (2, [98, 99])], 0, 0⟩ [(1, some ⟨#[98]⟩), (4, none)] (.slice Acv 2 ccv) ⟨0, 0, 0⟩ []) := Lib.hid (by
    rw [hgB]
    have h1 := HF3.out.1.1
    have h2 := HBW2.out
    have h3 : Below w2.heap.size w2 w3 := h2.trans (HF3.out.2.1.mono h2.size)
    exact Ses.mk' HM.out HCL.out HB2.out h3 (Nat.le_trans h2.size h1) HF3.out.1.2 HF3.out.2.2 hb4 hbu)
  rw [← hgB]
  have HW1 := Lib.hid (HS.out.wait 2 100 3 (by decide) (R := (⟨5, 1, [], 0⟩, ⟨1, 2, 1⟩, [97])) rfl)
  clear hb4 hbu hgB HNW HOP HCH HBW2 HWE2
  go_wp2_with (first | (go_at_call 10; refine Hid.out ?_))
  refine Lib.hid ?_
  refine HW1.out.mono ?_
  rintro e w5 ⟨A5, c5, rfl, ho5, hs5, hz5, _⟩
  have HS5 := Lib.hid hs5
  have HZ5 := Lib.hid hz5
  clear ho5 hs5 hz5
  obtain ⟨W5, hW5⟩ : ∃ W', W' = w5.alloc (.cells #[.int .i64 5, .int .i64 1, .slice A5 0 c5, .int .i64 0] 41) := ⟨_, rfl⟩
  have HS5 : Hid (Ses w W5 g gB g 10 ⟨[(1, [97]), (2, [98, 99])], 0, 0⟩ [(1, some ⟨#[98]⟩), (4, none)] (.slice Acv 2 ccv) ⟨1, 2, 1⟩ [97]) := Lib.hid (HS5.out.far (by rw [hW5]; exact (Below.refl _ _).alloc (Nat.le_refl _) _))
  have HO5 : Hid (Blk W5 w5.heap.size 41 #[.int .i64 5, .int .i64 1, .slice A5 0 c5, .int .i64 0]) := Lib.hid (by rw [hW5]; exact Blk.new _ _ _)
  go_wp2_with (first | (go_at_call 11; refine Hid.out ?_))
  refine Lib.hid ?_
  rw [← hW5]
  clear hW5
  refine HS5.out.now_.mono ?_
  rintro e w6 ⟨rfl, q6, hq6⟩
  have HS6 : Hid (Ses w w6 g gB g 10 ⟨[(1, [97]), (2, [98, 99])], 0, 0⟩ [(1, some ⟨#[98]⟩), (4, none)] (.slice Acv 2 ccv) ⟨1, 2, 1⟩ [97]) := Lib.hid (HS5.out.far (by rw [hq6]; exact below_drewN (Below.refl _ _) _))
  have HO6 : Hid (Blk w6 w5.heap.size 41 #[.int .i64 5, .int .i64 1, .slice A5 0 c5, .int .i64 0]) := Lib.hid (by rw [hq6]; exact HO5.out.drewN q6)
  clear hq6 HO5 HS5
  have HW2 := Lib.hid (HS6.out.wait 9 100 3 (by decide) (R := (⟨1, 0, [98], 0⟩, ⟨2, 3, 3⟩, [99])) rfl)
  go_wp2_with (first | (go_at_call 10; refine Hid.out ?_))
  refine Lib.hid ?_
  refine HW2.out.mono ?_
  rintro e w7 ⟨A7, c7, rfl, ho7, hs7, hz7, hk7⟩
  obtain ⟨W7, hW7⟩ : ∃ W', W' = w7.alloc (.cells #[.int .i64 1, .int .i64 0, .slice A7 1 c7, .int .i64 0] 41) := ⟨_, rfl⟩
  have hB7 : Below w7.heap.size w7 W7 := by rw [hW7]; exact (Below.refl _ _).alloc (Nat.le_refl _) _
  have HS7 : Hid (Ses w W7 g gB g 10 ⟨[(1, [97]), (2, [98, 99])], 0, 0⟩ [(1, some ⟨#[98]⟩), (4, none)] (.slice Acv 2 ccv) ⟨2, 3, 3⟩ [99]) := Lib.hid (hs7.far hB7)
  have HO7 : Hid (Blk W7 w5.heap.size 41 #[.int .i64 5, .int .i64 1, .slice A5 0 c5, .int .i64 0]) := Lib.hid (have h := hk7 _ _ _ (by decide) (by decide) (by decide) HO6.out; h.below hB7 h.lt)
  have HP7 : Hid (Blk W7 w7.heap.size 41 #[.int .i64 1, .int .i64 0, .slice A7 1 c7, .int .i64 0]) := Lib.hid (by rw [hW7]; exact Blk.new _ _ _)
  have HT7 : Hid ((convert 39 9 (.slice A7 1 c7)).run Try.prog W7 = .ok (.string ⟨#[98]⟩) W7) := Lib.hid (by
    obtain ⟨A', c', he, _, _, hr⟩ := ho7.rd.below hB7
    simp only [Value.slice.injEq, true_and] at he
    obtain ⟨rfl, rfl⟩ := he
    exact conv_reads (w := W7) (A := A7) (n := 1) (x := ⟨#[98]⟩) c7 hr)
  clear ho7 hs7 hz7 hk7 hB7 HW2 HO6 HS6
  obtain ⟨⟨x0, x1, x2, x3⟩, _⟩ := blk4 HO7.out
  obtain ⟨⟨y0, y1, y2, y3⟩, _⟩ := blk4 HP7.out
  have hc7 := HT7.out
  have HNO := Lib.hid HS7.out.now_
  go_upto_region 9 with fail
  rw [← hW7]
  clear hW7
  go_wp2_with (first | (go_at_call 11; refine Hid.out ?_))
  refine Lib.hid ?_
  refine HNO.out.mono ?_
  rintro e w8 ⟨rfl, q8, hq8⟩
  have HS8 : Hid (Ses w w8 g gB g 10 ⟨[(1, [97]), (2, [98, 99])], 0, 0⟩ [(1, some ⟨#[98]⟩), (4, none)] (.slice Acv 2 ccv) ⟨2, 3, 3⟩ [99]) := Lib.hid (HS7.out.far (by rw [hq8]; exact below_drewN (Below.refl _ _) _))
  clear hq8
  go_wp2_with (first | (go_at_call 12; refine Hid.out ?_))
  refine Lib.hid ?_
  refine HS8.out.bytes.mono ?_
  rintro e w9 ⟨A9, c9, rfl, hc9, hb9⟩
  have HB9 := Lib.hid hb9
  have hc9 : (convert 39 9 (.slice A9 1 c9)).run Try.prog w9 = .ok (.string ⟨#[99]⟩) w9 := hc9
  clear hb9
  go_wp2
  go_ret
  exact ⟨rfl, HS8.out.below.trans (HB9.out.mono HS8.out.below.size)⟩
end Go.Proofs.Ytjnfomgehfmllaa.Tk
