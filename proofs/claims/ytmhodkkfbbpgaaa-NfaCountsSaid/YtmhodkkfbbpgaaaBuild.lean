/- The walk of Prog.build at every right tree. -/
import Derived.Test.YtmhodkkfbbpgaaaSet
import Derived.Lib.Hide
namespace Go.Proofs.Ytmhodkkfbbpgaaa.Nm
set_option linter.unusedVariables false
set_option linter.unusedSimpArgs false
open Go.RowKit Mem Re Tree Go.Proofs.Ytmhodkkfbbpgaaa.PNfa Go.Proofs.YtmhodkkfbbpgaaaW.PrintWords Go.Proofs.YtmhodkkfbbpgaaaW.PrintLast Go.Proofs.YtmhodkkfbbpgaaaW.PrintMore

theorem PM.not_own {w : World} {base b : Nat} {R : List (St × Option Nat)} {sv : Value} {st en stp : Int} (h : PM w base b R sv st en stp) {g : Nat} {t : TypeId} {cs : Array Value} (hg : Blk w g t cs) (h1 : t ≠ 53) (h2 : t ≠ 57) : ¬ Own b sv g := by
  rintro (rfl | e)
  · exact h.blk.ne_ hg (fun e => h1 e.symm) rfl
  · exact own_blk_ne h.row hg (fun e => h2 e.symm) e

/-- On the way: res are the states so far; bx is the node's own block. -/
def BRel (W w : World) (b : Nat) (sv : Value) (st en stp : Int) (bx : Nat) (box : Array Value) (res : List St) (wr : World) : Prop :=
  ∃ R' sv', PM wr W.heap.size b R' sv' st en stp ∧ R'.map (·.1) = res ∧ (sv'.ownBlock = sv.ownBlock ∨ ∃ k, sv'.ownBlock = some k ∧ w.heap.size ≤ k) ∧ Kp w wr (Own b sv) ∧ Blk wr bx 25 box

theorem own_back {w : World} {b : Nat} {sv sv' : Value} (h : sv'.ownBlock = sv.ownBlock ∨ ∃ k, sv'.ownBlock = some k ∧ w.heap.size ≤ k) : ∀ k, k < w.heap.size → Own b sv' k → Own b sv k := by
  rintro k hk (rfl | e)
  · exact .inl rfl
  · rcases h with h | ⟨k', h1, h2⟩
    · exact .inr (h.symm.trans e)
    · rw [h1] at e
      injection e with e
      omega

theorem BRel.start {W w : World} {b : Nat} {R : List (St × Option Nat)} {sv : Value} {st en stp : Int} (h : PM w W.heap.size b R sv st en stp) (box : Array Value) : BRel W w b sv st en stp w.heap.size box (R.map (·.1)) (w.alloc (.cells box 25)) :=
  ⟨R, sv, h.alloc _, rfl, .inl rfl, (Kp.refl _ _).alloc _, Blk.new _ _ _⟩

theorem BRel.step {W w wr w' : World} {b bx : Nat} {box : Array Value} {R' : List (St × Option Nat)} {sv sv' : Value} {st en stp : Int} {res : List St} {R2 : List (St × Option Nat)} {sv2 : Value} (hM : PM wr W.heap.size b R' sv' st en stp) (hat : sv'.ownBlock = sv.ownBlock ∨ ∃ k, sv'.ownBlock = some k ∧ w.heap.size ≤ k) (hK : Kp w wr (Own b sv)) (hx : Blk wr bx 25 box)
    (hM2 : PM w' W.heap.size b R2 sv2 st en stp) (he : R2.map (·.1) = res) (hat2 : sv2.ownBlock = sv'.ownBlock ∨ ∃ k, sv2.ownBlock = some k ∧ wr.heap.size ≤ k) (hK2 : Kp wr w' (Own b sv')) : BRel W w b sv st en stp bx box res w' := by
  refine ⟨R2, sv2, hM2, he, ?_, hK.trans hK2 (own_back hat), hx.kp hK2 (hM.not_own hx (by decide) (by decide))⟩
  rcases hat2 with e | ⟨k, e, hk⟩
  · rw [e]; exact hat
  · exact .inr ⟨k, e, Nat.le_trans hK.size hk⟩

theorem BRel.alloc {W w wr : World} {b bx : Nat} {box : Array Value} {sv : Value} {st en stp : Int} {res : List St} (h : BRel W w b sv st en stp bx box res wr) (o : Obj) : BRel W w b sv st en stp bx box res (wr.alloc o) := by
  obtain ⟨R', sv', h1, h2, h3, h4, h5⟩ := h
  exact ⟨R', sv', h1.alloc o, h2, h3, h4.alloc o, h5.alloc o⟩

theorem BRel.below {W w wr : World} {b bx : Nat} {box : Array Value} {R : List (St × Option Nat)} {sv : Value} {st en stp : Int} {res : List St} (hb : Below W.heap.size W w) (hM : PM w W.heap.size b R sv st en stp) (h : BRel W w b sv st en stp bx box res wr) : Below W.heap.size W wr := by
  obtain ⟨_, _, _, _, _, h4, _⟩ := h
  refine hb.trans (h4.below hb.size ?_)
  rintro k (rfl | e)
  · exact hM.ge
  · exact (hM.row.lt k e).1

/-- What is known of a call of build. -/
def BuildOk (W : World) (x : Nd) : Prop :=
  ∀ (A1 A2 : Option Addr) (c1 c2 : Nat), Kd.C k64 W A1 x.f1.length x.f1 → Kd.C k25 W A2 x.f2.length x.f2 →
  ∀ (w : World) (b : Nat) (R : List (St × Option Nat)) (sv : Value) (st en stp tgt : Int), Below W.heap.size W w → PM w W.heap.size b R sv st en stp → R.length + 2 * sz x ≤ 1000000 →
    Calls Try.prog 28 #[.pointer (some ⟨b, 0, none⟩), .agg #[.int .i64 x.f0, .slice A1 x.f1.length c1, .slice A2 x.f2.length c2], .int .i64 tgt] w (PostB W w b R sv st en stp (bld (re x) tgt (R.map (·.1))))

set_option maxHeartbeats 1000000 in
set_option maxRecDepth 100000 in
theorem build_cat (W : World) (rs : List Rg) (kids : List Nd) (ih : ∀ y, y ∈ kids → BuildOk W y) : BuildOk W ⟨2, rs, kids⟩ := by
  intro A1 A2 c1 c2 hr1 hr2 w b R sv st en stp tgt hb hM hsz
  have HB : Hid (Below W.heap.size W w) := hb
  have HM : Hid (PM w W.heap.size b R sv st en stp) := hM
  have HR : Hid (Kd.C k25 W A2 kids.length kids) := hr2
  have HI : Hid (∀ y, y ∈ kids → BuildOk W y) := ih
  have hkl := len_le_szL kids
  simp only [sz] at hsz
  have hklb : kids.length ≤ 1000000 := by omega
  have hres : Hid (bld (re ⟨2, rs, kids⟩) tgt (R.map (·.1)) = bldC (reL kids) tgt (R.map (·.1))) := by unfold Hid; simp [re, bld]
  clear hb hM hr1 hr2 ih
  rw [hres.out]
  go_enter Try.func28, Try.ntmps28
  go_wp2
  go_loopw [2, 11] (fun t i wr => ∃ k : Nat, k ≤ kids.length ∧ i = .int .i64 ((k : Int) - 1) ∧ t = .int .i64 (bldC (reL (kids.drop k)) tgt (R.map (·.1))).2 ∧ BRel W w b sv st en stp w.heap.size #[.int .i64 2, .slice A1 rs.length c1, .slice A2 kids.length c2] (bldC (reL (kids.drop k)) tgt (R.map (·.1))).1 wr) (fun _ i _ => (intOf i + 1).toNat)
  case atStart => exact ⟨kids.length, Nat.le_refl _, rfl, by simp [reL, bldC], by simpa [reL, bldC] using BRel.start HM.out _⟩
  case round =>
    obtain ⟨k, hk, rfl, rfl, hrel⟩ := hrel
    by_cases hk0 : 0 < k
    · obtain ⟨j, rfl⟩ : ∃ j, k = j + 1 := ⟨k - 1, by omega⟩
      have hdrop := reL_drop kids j (by omega)
      have hbw := hrel.below HB.out HM.out
      obtain ⟨R', sv', hM', hmap, hat, hK, hbx⟩ := hrel
      obtain ⟨ad, B1, d1, B2, d2, rfl, g0, g1, g2, _, p1, _, p2⟩ := at_T25 HR.out (j : Int) (by omega) (by omega)
      have hmem : rd_T25 kids (j : Int) ∈ kids := by unfold rd_T25; rw [Int.toNat_natCast, getD_lt (by omega)]; exact List.getElem_mem _
      have hy : kids[j] = rd_T25 kids (j : Int) := by unfold rd_T25; rw [Int.toNat_natCast, getD_lt (by omega)]
      have hszy := szL_mem _ hmem
      have hszd := szL_drop kids j (by omega)
      have hszl : szL (kids.drop j) ≤ szL kids := szL_drop_le kids j
      have hlenb := bldC_len (kids.drop (j + 1)) tgt (R.map (·.1))
      have hlR : R'.length = (bldC (reL (kids.drop (j + 1))) tgt (R.map (·.1))).1.length := by rw [← hmap]; simp
      rw [hy] at hdrop hszd
      rw [List.length_map] at hlenb
      have hc := HI.out _ hmem B1 B2 d1 d2 p1 p2 wr b R' sv' st en stp (bldC (reL (kids.drop (j + 1))) tgt (R.map (·.1))).2 hbw hM' (by omega)
      have g0 := (hbw.cell (World.block_lt_of_cell? W _ g0)).trans g0
      have g1 := (hbw.cell (World.block_lt_of_cell? W _ g1)).trans g1
      have g2 := (hbw.cell (World.block_lt_of_cell? W _ g2)).trans g2
      rw [Int.toNat_natCast] at g0 g1 g2
      have b2 := hbx.cell 2
      simp at b2
      have hE : Hid (bldC (reL (kids.drop j)) tgt (R.map (·.1)) = bld (re (rd_T25 kids (j : Int))) (bldC (reL (kids.drop (j + 1))) tgt (R.map (·.1))).2 (R'.map (·.1))) := by
        unfold Hid; rw [hdrop, bldC, hmap]
      generalize rd_T25 kids (j : Int) = y at *
      generalize (bldC (reL (kids.drop (j + 1))) tgt (R.map (·.1))).2 = t2 at *
      have HS : Hid (∀ R2 sv2 w', PM w' W.heap.size b R2 sv2 st en stp → R2.map (·.1) = (bldC (reL (kids.drop j)) tgt (R.map (·.1))).1 → (sv2.ownBlock = sv'.ownBlock ∨ ∃ k, sv2.ownBlock = some k ∧ wr.heap.size ≤ k) → Kp wr w' (Own b sv') → BRel W w b sv st en stp w.heap.size #[.int .i64 2, .slice A1 rs.length c1, .slice (some ad) kids.length c2] (bldC (reL (kids.drop j)) tgt (R.map (·.1))).1 w') :=
        fun R2 sv2 w' h1 h2 h3 h4 => BRel.step hM' hat hK hbx h1 h2 h3 h4
      have HJ : Hid (j + 1 ≤ kids.length) := hk
      clear hdrop hbw hM' hmap hat hK hbx p1 p2 hmem hy hszy hszd hszl hlenb hlR hsz hk hk0
      have hj := HJ.out
      go_wp2_with (go_at_call 28; refine hc.mono ?_; rintro e w' ⟨rfl, R2, sv2, h1, h2, h3, h4⟩)
      go_roundw
      case rel => exact ⟨j, by omega, by go_num, by rw [hE.out], HS.out R2 sv2 _ h1 (by rw [h2, hE.out]) h3 h4⟩
      case measure => simp [intOf]
    · obtain rfl : k = 0 := by omega
      rw [List.drop_zero] at hrel
      rw [List.drop_zero]
      obtain ⟨R', sv', hM', hmap, hat, hK, hbx⟩ := hrel
      have HP : Hid (∃ R' sv', PM wr W.heap.size b R' sv' st en stp ∧ R'.map (·.1) = (bldC (reL kids) tgt (R.map (·.1))).1 ∧ (sv'.ownBlock = sv.ownBlock ∨ ∃ k, sv'.ownBlock = some k ∧ w.heap.size ≤ k) ∧ Kp w wr (Own b sv)) := ⟨R', sv', hM', hmap, hat, hK⟩
      clear hM' hmap hat hK hbx
      go_wp2
      go_ret
      exact ⟨rfl, HP.out⟩

theorem setAt_none (w : World) (base : Nat) (a c : Int) : SetAt w base (⟨none, a, c⟩, none) := rfl

set_option maxHeartbeats 1000000 in
set_option maxRecDepth 100000 in
theorem build_alt (W : World) (rs : List Rg) (kids : List Nd) (ih : ∀ y, y ∈ kids → BuildOk W y) : BuildOk W ⟨3, rs, kids⟩ := by
  intro A1 A2 c1 c2 hr1 hr2 w b R sv st en stp tgt hb hM hsz
  have HB : Hid (Below W.heap.size W w) := hb
  have HM : Hid (PM w W.heap.size b R sv st en stp) := hM
  have HR : Hid (Kd.C k25 W A2 kids.length kids) := hr2
  have HI : Hid (∀ y, y ∈ kids → BuildOk W y) := ih
  have hkl := len_le_szL kids
  simp only [sz] at hsz
  have hklb : kids.length ≤ 1000000 := by omega
  have hres : bld (re ⟨3, rs, kids⟩) tgt (R.map (·.1)) = if (bldA (reL kids) tgt (R.map (·.1))).2 = -1 then ((bldA (reL kids) tgt (R.map (·.1))).1 ++ [⟨none, -1, -1⟩], ((bldA (reL kids) tgt (R.map (·.1))).1.length : Int)) else bldA (reL kids) tgt (R.map (·.1)) := by simp [re, bld]
  rw [hres]
  obtain ⟨res, hE0⟩ : ∃ res, (if (bldA (reL kids) tgt (R.map (·.1))).2 = -1 then ((bldA (reL kids) tgt (R.map (·.1))).1 ++ [⟨none, -1, -1⟩], ((bldA (reL kids) tgt (R.map (·.1))).1.length : Int)) else bldA (reL kids) tgt (R.map (·.1))) = res := ⟨_, rfl⟩
  rw [hE0]
  have HE := Lib.hid hE0
  clear hb hM hr1 hr2 ih hres hE0
  go_enter Try.func28, Try.ntmps28
  go_wp2
  go_loopw [12, 13] (fun t i wr => ∃ k : Nat, k ≤ kids.length ∧ i = .int .i64 ((k : Int) - 1) ∧ t = .int .i64 (bldA (reL (kids.drop k)) tgt (R.map (·.1))).2 ∧ BRel W w b sv st en stp w.heap.size #[.int .i64 3, .slice A1 rs.length c1, .slice A2 kids.length c2] (bldA (reL (kids.drop k)) tgt (R.map (·.1))).1 wr) (fun _ i _ => (intOf i + 1).toNat)
  case atStart => exact ⟨kids.length, Nat.le_refl _, rfl, by simp [reL, bldA], by simpa [reL, bldA] using BRel.start HM.out _⟩
  case round =>
    obtain ⟨k, hk, rfl, rfl, hrel⟩ := hrel
    by_cases hk0 : 0 < k
    · obtain ⟨j, rfl⟩ : ∃ j, k = j + 1 := ⟨k - 1, by omega⟩
      have hdrop := reL_drop kids j (by omega)
      have hbw := hrel.below HB.out HM.out
      obtain ⟨R', sv', hM', hmap, hat, hK, hbx⟩ := hrel
      obtain ⟨ad, B1, d1, B2, d2, rfl, g0, g1, g2, _, p1, _, p2⟩ := at_T25 HR.out (j : Int) (by omega) (by omega)
      have hmem : rd_T25 kids (j : Int) ∈ kids := by unfold rd_T25; rw [Int.toNat_natCast, getD_lt (by omega)]; exact List.getElem_mem _
      have hy : kids[j] = rd_T25 kids (j : Int) := by unfold rd_T25; rw [Int.toNat_natCast, getD_lt (by omega)]
      have hszy := szL_mem _ hmem
      have hszd := szL_drop kids j (by omega)
      have hszl : szL (kids.drop j) ≤ szL kids := szL_drop_le kids j
      have hlenb := bldA_len (kids.drop (j + 1)) tgt (R.map (·.1))
      have hlena := bldA_len (kids.drop j) tgt (R.map (·.1))
      have hlR : R'.length = (bldA (reL (kids.drop (j + 1))) tgt (R.map (·.1))).1.length := by rw [← hmap]; simp
      rw [hy] at hdrop hszd
      rw [List.length_map] at hlenb hlena
      have hc := HI.out _ hmem B1 B2 d1 d2 p1 p2 wr b R' sv' st en stp tgt hbw hM' (by omega)
      have g0 := (hbw.cell (World.block_lt_of_cell? W _ g0)).trans g0
      have g1 := (hbw.cell (World.block_lt_of_cell? W _ g1)).trans g1
      have g2 := (hbw.cell (World.block_lt_of_cell? W _ g2)).trans g2
      rw [Int.toNat_natCast] at g0 g1 g2
      have b2 := hbx.cell 2
      simp at b2
      have hE : Hid (bldA (reL (kids.drop j)) tgt (R.map (·.1)) = ((bld (re (rd_T25 kids (j : Int))) tgt (R'.map (·.1))).1 ++ [⟨none, (bld (re (rd_T25 kids (j : Int))) tgt (R'.map (·.1))).2, (bldA (reL (kids.drop (j + 1))) tgt (R.map (·.1))).2⟩], ((bld (re (rd_T25 kids (j : Int))) tgt (R'.map (·.1))).1.length : Int))) := by
        unfold Hid; rw [hdrop, bldA, hmap]
      have hl2 : (bld (re (rd_T25 kids (j : Int))) tgt (R'.map (·.1))).1.length ≤ 1000000 := by
        rw [hE.out] at hlena
        simp only [List.length_append, List.length_cons, List.length_nil] at hlena
        omega
      have HW : Hid (W.heap.size ≤ wr.heap.size) := hbw.size
      generalize rd_T25 kids (j : Int) = y at *
      generalize (bldA (reL (kids.drop (j + 1))) tgt (R.map (·.1))).2 = t2 at *
      generalize bld (re y) tgt (R'.map (·.1)) = BB at *
      have HS : Hid (∀ R2 sv2 w', PM w' W.heap.size b R2 sv2 st en stp → R2.map (·.1) = (bldA (reL (kids.drop j)) tgt (R.map (·.1))).1 → (sv2.ownBlock = sv'.ownBlock ∨ ∃ k, sv2.ownBlock = some k ∧ wr.heap.size ≤ k) → Kp wr w' (Own b sv') → BRel W w b sv st en stp w.heap.size #[.int .i64 3, .slice A1 rs.length c1, .slice (some ad) kids.length c2] (bldA (reL (kids.drop j)) tgt (R.map (·.1))).1 w') :=
        fun R2 sv2 w' h1 h2 h3 h4 => BRel.step hM' hat hK hbx h1 h2 h3 h4
      have HJ : Hid (j + 1 ≤ kids.length) := hk
      clear hdrop hbw hM' hmap hat hK hbx p1 p2 hmem hy hszy hszd hszl hlenb hlena hlR hsz hk hk0
      have hj := HJ.out
      go_wp2_with (first
        | (go_at_call 28; refine hc.mono ?_; rintro e w1 ⟨rfl, R2, sv2, h1, h2, h3, h4⟩; (have H2 : Hid (R2.map (·.1) = BB.1) := h2; have H1 : Hid (PM w1 W.heap.size b R2 sv2 st en stp) := h1; have H3 := Lib.hid h3; have H4 := Lib.hid h4; have ha := add_pm w1 W.heap.size b R2 sv2 st en stp (⟨none, BB.2, t2⟩, none) h1 (setAt_none _ _ _ _) (Nat.le_trans HW.out h4.size) (by have e := congrArg List.length h2; rw [List.length_map] at e; omega); simp only [stCells, Option.map_none] at ha; clear h1 h2 h3 h4))
        | (go_at_call 27; refine ha.mono ?_; rintro e w2 ⟨rfl, sv3, q1, q2, q3⟩))
      go_roundw
      case rel =>
        refine ⟨j, by omega, by go_num, ?_, HS.out (R2 ++ [(⟨none, BB.2, t2⟩, none)]) sv3 _ q1 ?_ ?_ (H4.out.trans q3 (own_back (H3.out)))⟩
        · rw [hE.out, ← H2.out, List.length_map]
        · rw [hE.out, List.map_append, H2.out]; rfl
        · rcases q2 with e | ⟨k, e, hk⟩
          · rw [e]; exact H3.out
          · exact .inr ⟨k, e, Nat.le_trans H4.out.size hk⟩
      case measure => simp [intOf]
    · obtain rfl : k = 0 := by omega
      rw [List.drop_zero] at hrel
      rw [List.drop_zero]
      have hlena := bldA_len kids tgt (R.map (·.1))
      have hbw := hrel.below HB.out HM.out
      have HW : Hid (W.heap.size ≤ wr.heap.size) := hbw.size
      have hE0 := HE.out
      clear HE
      generalize bldA (reL kids) tgt (R.map (·.1)) = BA at *
      obtain ⟨R', sv', hM', hmap, hat, hK, hbx⟩ := hrel
      have hlR : R'.length = BA.1.length := by rw [← hmap]; simp
      have HP : Hid (∃ R' sv', PM wr W.heap.size b R' sv' st en stp ∧ R'.map (·.1) = BA.1 ∧ (sv'.ownBlock = sv.ownBlock ∨ ∃ k, sv'.ownBlock = some k ∧ w.heap.size ≤ k) ∧ Kp w wr (Own b sv)) := ⟨R', sv', hM', hmap, hat, hK⟩
      by_cases hm1 : BA.2 = -1
      · rw [if_pos hm1] at hE0
        subst hE0
        rw [hm1]
        have ha := add_pm wr W.heap.size b R' sv' st en stp (⟨none, -1, -1⟩, none) hM' (setAt_none _ _ _ _) HW.out (by rw [hlR]; rw [List.length_map] at hlena; omega)
        simp only [stCells, Option.map_none] at ha
        have H2 := Lib.hid hmap
        have H3 := Lib.hid hat
        have H4 := Lib.hid hK
        clear hM' hmap hat hK hbx hm1 hlR hlena hbw HP
        go_wp2_with (go_at_call 27; refine ha.mono ?_; rintro e w2 ⟨rfl, sv3, q1, q2, q3⟩)
        go_ret
        refine ⟨by have e := congrArg List.length H2.out; rw [List.length_map] at e; show Ending.returned (.int .i64 (R'.length : Int)) = _; rw [e], R' ++ [(⟨none, -1, -1⟩, none)], sv3, q1, by rw [List.map_append, H2.out]; rfl, ?_, H4.out.trans q3 (own_back H3.out)⟩
        rcases q2 with e | ⟨k, e, hk⟩
        · rw [e]; exact H3.out
        · exact .inr ⟨k, e, Nat.le_trans H4.out.size hk⟩
      · rw [if_neg hm1] at hE0
        subst hE0
        have hm2 : (BA.2 == -1) = false := by simpa using hm1
        clear hM' hmap hat hK hbx hm1 hlR hlena hbw
        go_wp2
        go_ret
        exact ⟨rfl, HP.out⟩

set_option maxHeartbeats 1000000 in
set_option maxRecDepth 100000 in
theorem build_maybe (W : World) (rs : List Rg) (y : Nd) (kids : List Nd) (ih : BuildOk W y) : BuildOk W ⟨6, rs, y :: kids⟩ := by
  intro A1 A2 c1 c2 hr1 hr2 w b R sv st en stp tgt hb hM hsz
  have hc2 : Kd.C k25 W A2 (y :: kids).length (y :: kids) := hr2
  obtain ⟨ad, B1, d1, B2, d2, rfl, g0, g1, g2, _, p1, _, p2⟩ := at_T25 hc2 0 (by omega) (by simp)
  have hy : rd_T25 (y :: kids) 0 = y := rfl
  rw [hy] at g0 g1 g2 p1 p2
  have HB : Hid (Below W.heap.size W w) := hb
  have HM : Hid (PM w W.heap.size b R sv st en stp) := hM
  simp only [sz, szL] at hsz
  have hlen := bld_len y tgt (R.map (·.1))
  rw [List.length_map] at hlen
  have hres : bld (re ⟨6, rs, y :: kids⟩) tgt (R.map (·.1)) = ((bld (re y) tgt (R.map (·.1))).1 ++ [⟨none, (bld (re y) tgt (R.map (·.1))).2, tgt⟩], ((bld (re y) tgt (R.map (·.1))).1.length : Int)) := by simp [re, reK, bld]
  rw [hres]
  have hc := ih B1 B2 d1 d2 p1 p2 (w.alloc (.cells #[.int .i64 6, .slice A1 rs.length c1, .slice (some ad) (y :: kids).length c2] 25)) b R sv st en stp tgt (hb.trans (((Below.refl _ _).alloc (Nat.le_refl _) _).mono hb.size)) (hM.alloc _) (by omega)
  have hbA : Below W.heap.size W (w.alloc (.cells #[.int .i64 6, .slice A1 rs.length c1, .slice (some ad) (y :: kids).length c2] 25)) := hb.trans (((Below.refl _ _).alloc (Nat.le_refl _) _).mono hb.size)
  have e0 : ad.add ((0 : Int).toNat * 3) = ad := by simp [Addr.add]
  rw [e0] at g0 g1 g2
  have g0 := (hbA.cell (World.block_lt_of_cell? W _ g0)).trans g0
  have g1 := (hbA.cell (World.block_lt_of_cell? W _ g1)).trans g1
  have g2 := (hbA.cell (World.block_lt_of_cell? W _ g2)).trans g2
  have HW : Hid (W.heap.size ≤ w.heap.size) := hb.size
  generalize bld (re y) tgt (R.map (·.1)) = BB at *
  simp only [List.length_cons] at g0 g1 g2 hc
  clear hb hM hr1 hr2 hc2 ih p1 p2 hres hbA e0 hy
  go_enter Try.func28, Try.ntmps28
  go_wp2_with (first
    | (go_at_call 28; refine hc.mono ?_; rintro e w1 ⟨rfl, R2, sv2, h1, h2, h3, h4⟩; (have H2 : Hid (R2.map (·.1) = BB.1) := h2; have H1 : Hid (PM w1 W.heap.size b R2 sv2 st en stp) := h1; have H3 := Lib.hid h3; have H4 := Lib.hid h4; have ha := add_pm w1 W.heap.size b R2 sv2 st en stp (⟨none, BB.2, tgt⟩, none) h1 (setAt_none _ _ _ _) (Nat.le_trans HW.out (Nat.le_trans (by simp) h4.size)) (by have e := congrArg List.length h2; rw [List.length_map] at e; omega); simp only [stCells, Option.map_none] at ha; clear h1 h2 h3 h4))
    | (go_at_call 27; refine ha.mono ?_; rintro e w2 ⟨rfl, sv3, q1, q2, q3⟩))
  go_ret
  refine ⟨by have e := congrArg List.length H2.out; rw [List.length_map] at e; show Ending.returned (.int .i64 (R2.length : Int)) = _; rw [e], R2 ++ [(⟨none, BB.2, tgt⟩, none)], sv3, q1, by rw [List.map_append, H2.out]; rfl, ?_, ?_⟩
  · rcases q2 with e | ⟨k, e, hk⟩
    · rw [e]
      exact H3.out.imp id fun ⟨k, e, hk⟩ => ⟨k, e, Nat.le_trans (by simp) hk⟩
    · exact .inr ⟨k, e, Nat.le_trans (Nat.le_trans (by simp) H4.out.size) hk⟩
  · refine (((Kp.refl w (Own b sv)).alloc _).trans H4.out (fun _ _ c => c)).trans q3 (own_back (H3.out.imp id fun ⟨k, e, hk⟩ => ⟨k, e, Nat.le_trans (by simp) hk⟩))

end Go.Proofs.Ytmhodkkfbbpgaaa.Nm
