/- TalkEnds, walked. -/
import Derived.Test.YtjnfomgehfmllaaTr
namespace Go.Proofs.Ytjnfomgehfmllaa.Tk
set_option linter.unusedVariables false
set_option linter.unusedSimpArgs false
open Go.RowKit Go.Proofs.Ytjnfomgehfmllaa.Mem Go.Proofs.Ytjnfomgehfmllaa.By Go.Proofs.YtjnfomgehfmllaaW.PrintWords Go.Proofs.YtjnfomgehfmllaaW.PrintLast Go.Proofs.YtjnfomgehfmllaaW.PrintMore

/-- A list of clauses that grows. -/
abbrev RowA (w : World) (B : Nat) (v : Value) (cs : List (Int × ByteArray)) : Prop := w.ownsRow B 30 4 v cs.length (apCells cs)
theorem apCells_len (cs : List (Int × ByteArray)) : (apCells cs).length = cs.length * 4 := by
  unfold apCells
  induction cs with
  | nil => rfl
  | cons p ps ih => rw [List.flatMap_cons, List.length_append, ih]; simp; omega
theorem RowA.lit {w : World} {B g n : Nat} {cs : List (Int × ByteArray)} {C : Array Value} (h : Blk w g 30 C) (hC : C = (apCells cs).toArray) (hn : n = cs.length) (hl : cs.length ≤ 1000) (hB : B ≤ g) : RowA w B (.slice (some ⟨g, 0, none⟩) n n) cs := by
  subst hC; subst hn
  exact ⟨apCells_len cs, .inr ⟨g, cs.length, _, rfl, hB, h, Nat.le_refl _, by unfold maxLen; omega, by rw [List.size_toArray, apCells_len], by rw [← apCells_len]; simp⟩⟩
theorem RowA.cin {w : World} {B : Nat} {v : Value} {cs : List (Int × ByteArray)} (h : RowA w B v cs) (hl : cs.length ≤ 1000) : CIn w v cs := by
  rcases h.2 with ⟨rfl, h0⟩ | ⟨g, cap, cur, rfl, hb, hh, hc, hm, hs, ht⟩
  · have : cs = [] := List.eq_nil_of_length_eq_zero h0
    subst this
    exact ⟨none, 0, rfl, Nat.le_refl _, by simp, fun h => absurd rfl h, fun g hg => by cases hg⟩
  · have hgl : g < w.heap.size := (Array.getElem?_eq_some_iff.1 hh).1
    refine ⟨_, cap, rfl, hc, hl, fun _ => ⟨g, rfl, hgl⟩, fun g' hg' k hk => ?_⟩
    injection hg' with hg'
    injection hg' with hg'
    subst hg'
    have hcell : ∀ j u, (apCells cs)[j]? = some u → w.cell? ⟨g, j, none⟩ = some u := fun j u hu => by
      rw [cell_of_row w g _ cur _ (0, 0) hh, ← Array.getElem?_toList]
      rw [← ht, List.getElem?_take] at hu
      split at hu
      · exact hu
      · cases hu
    obtain ⟨c0, c1, c2, c3⟩ := apCells_get cs k hk
    exact ⟨hcell _ _ c0, hcell _ _ c1, hcell _ _ c2, hcell _ _ c3⟩
theorem infoAp : (Try.prog.info? 30).map (fun i => (i.zero, i.size, i.bytes)) = some (some (.agg #[.int .i64 0, .string ⟨#[]⟩, .bool false, .slice none 0 0]), 4, 56) := by kernel_rfl
theorem RowA.push {w : World} {B g1 n c : Nat} {v : Value} {cs ds : List (Int × ByteArray)} (h : RowA w B v cs) (hB : B ≤ w.heap.size) (hl : cs.length ≤ 100) (hl2 : ds.length ≤ 100) {D : Array Value} (hb : Blk w g1 30 D) (hD : D = (apCells ds).toArray) (hn : n = ds.length) (ty : TypeId) :
    ∃ v1 w1, (Builtin.append_ #[31, 31] ty #[v, .slice (some ⟨g1, 0, none⟩) n c]).run Try.prog w = .ok v1 w1 ∧ RowA w1 B v1 (cs ++ ds) ∧ Below B w w1 := by
  subst hD; subst hn
  obtain ⟨i0, hi, hzz⟩ := Option.map_eq_some_iff.1 infoAp
  simp only [Prod.mk.injEq] at hzz
  obtain ⟨hz0, hz1, hz2⟩ := hzz
  obtain ⟨v1, w1, r1, r2, r3, _⟩ := run_append_own (P := Try.prog) w B 31 ty 30 i0 (.agg #[.int .i64 0, .string ⟨#[]⟩, .bool false, .slice none 0 0]) 4 56 Try.underlying31 hi hz0 hz1 hz2 rfl (by decide) v cs.length (apCells cs) h ⟨g1, 0, none⟩ ds.length c (apCells ds) (apCells_len ds) (fun j u hu => by
    rw [By.add_plain, Nat.zero_add, hb.cell j, List.getElem?_toArray]
    exact hu) (fun u hu => by
      simp only [apCells, List.mem_flatMap, List.mem_cons, List.mem_nil_iff, or_false] at hu
      obtain ⟨p, _, rfl | rfl | rfl | rfl⟩ := hu <;> rfl) (by unfold maxLen; omega) (by omega) hB
  refine ⟨v1, w1, r1, ?_, ⟨r3.os, r3.tape, r3.output, r3.size, fun k hk => r3.block k (by omega) (fun e => by have := (q_typed (q_of_own h) k e.symm).1; omega)⟩⟩
  unfold RowA
  rw [List.length_append]
  have : apCells (cs ++ ds) = apCells cs ++ apCells ds := by simp [apCells]
  rw [this]
  exact r2
theorem okE (x : ByteArray) (has twice : Bool) (hx : x.size ≤ 256) : ∀ c ∈ csE x has twice, okC c := by
  intro c hc
  cases has <;> cases twice <;> simp [csE] at hc
  · subst hc; exact .inl ⟨rfl, hx⟩
  · rcases hc with rfl | rfl | rfl
    · exact .inl ⟨rfl, hx⟩
    · exact .inr ⟨by decide, by decide⟩
    · exact .inr ⟨by decide, by decide⟩
  · rcases hc with rfl | rfl | rfl
    · exact .inl ⟨rfl, hx⟩
    · exact .inr ⟨by decide, by decide⟩
    · exact .inr ⟨by decide, by decide⟩
  · rcases hc with rfl | rfl | rfl | rfl
    · exact .inl ⟨rfl, hx⟩
    · exact .inr ⟨by decide, by decide⟩
    · exact .inr ⟨by decide, by decide⟩
    · exact .inr ⟨by decide, by decide⟩
theorem lenE (x : ByteArray) (has twice : Bool) : (csE x has twice).length ≤ 5 := by cases has <;> cases twice <;> simp [csE]
theorem rd_bytes (w : World) (x : ByteArray) (hx : x.size ≤ 140737488355328) : Rd (Lib.bytesWorld w 5 x) (.slice (some ⟨w.heap.size, 0, none⟩) x.size (grownCap w x.size 0 5)) (bI x) := by
  refine ⟨_, _, by rw [bI_len], by rw [bI_len]; exact grownCap_ge w x.size 0 5, (fun e => (by cases e)), rfl, by rw [bI_len]; omega, fun _ => ⟨_, rfl, fun j hj => ?_⟩⟩
  rw [bI_len] at hj
  rw [By.add_plain, Nat.zero_add, Lib.bytesWorld_cell w 5 x j hj]
  simp [bI, List.getD, hj]
theorem chin_one {w : World} {gc : Nat} {k1 : Int} {v1 : Value} {x1 : List Int} (h : Blk w gc 46 #[.int .i64 k1, v1]) (h1 : Rd w v1 x1) (r1 : Rng x1) (l1 : x1.length ≤ 140737488355328) : ChIn w (.slice (some ⟨gc, 0, none⟩) 1 1) [(k1, x1)] := by
  refine ⟨_, 1, rfl, Nat.le_refl _, by simp, fun _ => ⟨gc, 0, rfl, h.lt⟩, fun g o hg k hk => ?_⟩
  injection hg with hg
  injection hg with hg ho
  subst hg; subst ho
  have c0 := h.cell 0; have c1 := h.cell 1
  simp only [List.getElem?_toArray, List.getElem?_cons_zero, List.getElem?_cons_succ] at c0 c1
  rcases k with _ | k
  · exact ⟨v1, c0, c1, h1, r1, l1⟩
  · have : k + 1 < 1 := hk
    omega
set_option maxHeartbeats 4000000 in
set_option maxRecDepth 100000 in
theorem ends_walk {w : World} {m : Int} (fin : Int) (has twice : Bool) (said : ByteArray) (hs0 : said.size ≤ maxLen) (hm : w.cell? ⟨0, 0, none⟩ = some (.int .i64 m)) : Calls Try.prog 4 #[.int .i64 fin, .bool has, .bool twice, .string said] w fun e w' => e = .returned (.bool true) ∧ Below w.heap.size w w' := by
  have HAL := Lib.hid (alive_any hm)
  have HM := Lib.hid hm
  unfold maxLen at hs0
  clear hm
  by_cases h100 : 100 < said.size
  · have g1 : decide (100 < (said.size : Int)) = true := by simp; omega
    have g2 : (100 : Int) < (said.size : Int) := by omega
    go_enter Try.func4, Try.ntmps4
    go_wp2_with (first | (go_at_call 6; refine HAL.out.mono ?_; rintro e w1 ⟨rfl, hb1⟩; (have HB1 := Lib.hid hb1; clear hb1)))
    go_ret
    exact ⟨rfl, HB1.out⟩
  · have g1 : decide (100 < (said.size : Int)) = false := by simp; omega
    have g2 : ¬ (100 : Int) < (said.size : Int) := by omega
    have g3 : decide (9223372036854775807 < said.size + 1) = false := by simp; omega
    obtain ⟨x, hx⟩ : ∃ x, x = said ++ ⟨#[33]⟩ := ⟨_, rfl⟩
    have HX : Hid (x.size = said.size + 1) := Lib.hid (by rw [hx, ByteArray.size_append]; rfl)
    have HXE := Lib.hid hx
    have HSZ : Hid (said.size ≤ 100) := Lib.hid (by omega)
    clear h100 hx
    go_enter Try.func4, Try.ntmps4
    go_wp2_with (first | (go_at_call 6; refine Hid.out ?_))
    refine Lib.hid ?_
    refine HAL.out.mono ?_
    rintro e w1 ⟨rfl, hb1⟩
    have HB1 := Lib.hid hb1
    clear hb1 HAL
    obtain ⟨W1, hW1⟩ : ∃ W, W = w1.alloc (.cells #[.int .i64 1, .string (said ++ ⟨#[33]⟩), .bool false, .slice none 0 0] 30) := ⟨_, rfl⟩
    have HBB : Hid (Below w.heap.size w W1) := Lib.hid (by rw [hW1]; exact HB1.out.alloc HB1.out.size _)
    have HRA : Hid (RowA W1 w.heap.size (.slice (some ⟨w1.heap.size, 0, none⟩) 1 1) [(1, x)]) := Lib.hid (by
      refine RowA.lit (n := 1) (C := #[.int .i64 1, .string x, .bool false, .slice none 0 0]) ?_ rfl rfl (by simp) HB1.out.size
      rw [hW1, ← HXE.out]; exact Blk.new _ _ _)
    go_upto_region 6 with fail
    rw [← hW1]
    clear hW1
    go_upto_if 27 with fail
    go_cut [9] from 28 to 32 (fun s9 wc => ∃ v, v = s9 ∧ Hid (RowA wc w.heap.size v (csE x has false)) ∧ Hid (Below w.heap.size w wc))
    case first =>
      cases has
      · go_wp2
        go_meet
        case rel => exact ⟨_, rfl, HRA, HBB⟩
      · obtain ⟨W2, hW2⟩ : ∃ W, W = W1.alloc (.cells #[.int .i64 6, .string ⟨#[]⟩, .bool false, .slice none 0 0, .int .i64 5, .string ⟨#[]⟩, .bool false, .slice none 0 0] 30) := ⟨_, rfl⟩
        have hb2 : Below W1.heap.size W1 W2 := by rw [hW2]; exact (Below.refl _ _).alloc (Nat.le_refl _) _
        have hr2 := own_kp HRA.out (Kp.of_below (ex := fun _ => False) hb2 (fun k a c => by omega)) (fun k e c => c)
        obtain ⟨v3, w3, hrun, hra3, hb3⟩ := RowA.push (ds := [(6, ⟨#[]⟩), (5, ⟨#[]⟩)]) (c := 2) (n := 2) hr2 (by have := HBB.out.size; have := hb2.size; omega) (by simp) (by simp) (show Blk W2 W1.heap.size _ _ by rw [hW2]; exact Blk.new _ _ _) rfl rfl 31
        have HRA3 := Lib.hid hra3
        have HB3 : Hid (Below w.heap.size w w3) := Lib.hid ((HBB.out.trans (hb2.mono HBB.out.size)).trans hb3)
        clear hb2 hr2 hra3 hb3
        rw [hW2] at hrun
        clear hW2
        go_wp2_with (first | ((with_reducible refine gate_builtin (b := .append) (xs := #[.tmp 28, .tmp 31]) rfl ?_); at_builtin; refine Lib.wpList_append_run_sl _ rfl _ _ 31 rfl _ _ rfl rfl hrun ?_))
        go_meet
        case rel => exact ⟨v3, rfl, Lib.hid (by exact HRA3.out), HB3⟩
    case rest =>
      obtain ⟨v9, rfl, HRA, HBB⟩ := hcut
      obtain ⟨W1, rfl⟩ : ∃ W, W = wc := ⟨_, rfl⟩
      go_upto_region 8 with fail
      go_upto_if 33 with fail
      go_cut [9] from 34 to 38 (fun s9 wc => ∃ v, v = s9 ∧ Hid (RowA wc w.heap.size v (csE x has twice)) ∧ Hid (Below w.heap.size w wc))
      case first =>
        cases twice
        · go_wp2
          go_meet
          case rel => exact ⟨_, rfl, HRA, HBB⟩
        · obtain ⟨W2, hW2⟩ : ∃ W, W = W1.alloc (.cells #[.int .i64 5, .string ⟨#[]⟩, .bool false, .slice none 0 0, .int .i64 6, .string ⟨#[]⟩, .bool false, .slice none 0 0] 30) := ⟨_, rfl⟩
          have hb2 : Below W1.heap.size W1 W2 := by rw [hW2]; exact (Below.refl _ _).alloc (Nat.le_refl _) _
          have hr2 := own_kp HRA.out (Kp.of_below (ex := fun _ => False) hb2 (fun k a c => by omega)) (fun k e c => c)
          obtain ⟨v3, w3, hrun, hra3, hb3⟩ := RowA.push (ds := [(5, ⟨#[]⟩), (6, ⟨#[]⟩)]) (c := 2) (n := 2) hr2 (by have := HBB.out.size; have := hb2.size; omega) (by have := lenE x has false; omega) (by simp) (show Blk W2 W1.heap.size _ _ by rw [hW2]; exact Blk.new _ _ _) rfl rfl 31
          have HRA3 := Lib.hid hra3
          have HB3 : Hid (Below w.heap.size w w3) := Lib.hid ((HBB.out.trans (hb2.mono HBB.out.size)).trans hb3)
          clear hb2 hr2 hra3 hb3
          rw [hW2] at hrun
          clear hW2
          go_wp2_with (first | ((with_reducible refine gate_builtin (b := .append) (xs := #[.tmp 34, .tmp 37]) rfl ?_); at_builtin; refine Lib.wpList_append_run_sl _ rfl _ _ 31 rfl _ _ rfl rfl hrun ?_))
          go_meet
          case rel => exact ⟨v3, rfl, Lib.hid (by have := HRA3.out; cases has <;> exact this), HB3⟩
      case rest =>
        obtain ⟨v9, rfl, HRA, HBB⟩ := hcut
        obtain ⟨W1, rfl⟩ : ∃ W, W = wc := ⟨_, rfl⟩
        have HLE := Lib.hid (lenE x has twice)
        have HTC := Lib.hid (tcomp_any (HRA.out.cin (by have := HLE.out; omega)) (okE x has twice (by have := HX.out; have := HSZ.out; omega)))
        obtain ⟨r, hr⟩ : ∃ r, r = fin % 2 := ⟨_, rfl⟩
        have hand : bits .and .i64 fin 1 = r := by rw [and1, hr]
        have hr01 : r = 0 ∨ r = 1 := by omega
        clear hr
        go_upto_region 10 with fail
        go_wp2_with (first | (go_at_call 7; refine Hid.out ?_))
        refine Lib.hid ?_
        refine HTC.out.mono ?_
        rintro e w2 ⟨cv, rfl, hcl, hb2⟩
        have HCL := Lib.hid hcl
        have HB2 : Hid (Below w.heap.size w w2) := Lib.hid (HBB.out.trans (hb2.mono HBB.out.size))
        obtain ⟨Acv, ccv, rfl, _, _, _, _⟩ := id hcl
        obtain ⟨ncv, hncv⟩ : ∃ n, n = ((csE x has twice).map toCl).length := ⟨_, rfl⟩
        rw [← hncv] at HCL ⊢
        clear hcl hb2 HTC HRA HBB hncv
        have hcv := Lib.run_convert_string_bytes (P := Try.prog) w2 9 39 5 said Try.underlying9 Try.underlying39 Try.underlying5
        obtain ⟨W3, hW3⟩ : ∃ W, W = Lib.bytesWorld w2 5 said := ⟨_, rfl⟩
        have hbw : Below w2.heap.size w2 W3 := by rw [hW3]; exact ⟨rfl, rfl, rfl, by rw [Lib.bytesWorld_size]; omega, fun j hj => Lib.bytesWorld_at_old w2 5 said j hj⟩
        have hrb : Rd W3 (.slice (some ⟨w2.heap.size, 0, none⟩) said.size (grownCap w2 said.size 0 5)) (bI said) := by rw [hW3]; exact rd_bytes w2 said (by have := HSZ.out; omega)
        obtain ⟨cb, hcb⟩ : ∃ c, c = grownCap w2 said.size 0 5 := ⟨_, rfl⟩
        rw [← hW3, ← hcb] at hcv
        rw [← hcb] at hrb
        obtain ⟨W4, hW4⟩ : ∃ W, W = W3.alloc (.cells #[.int .i64 1, .slice (some ⟨w2.heap.size, 0, none⟩) said.size cb] 46) := ⟨_, rfl⟩
        have hb4 : Below W3.heap.size W3 W4 := by rw [hW4]; exact (Below.refl _ _).alloc (Nat.le_refl _) _
        have HB4 : Hid (Below w2.heap.size w2 W4) := Lib.hid (hbw.trans (hb4.mono hbw.size))
        have HCH : Hid (ChIn W4 (.slice (some ⟨W3.heap.size, 0, none⟩) 1 1) [(1, bI said)]) := Lib.hid (chin_one (show Blk W4 W3.heap.size _ _ by rw [hW4]; exact Blk.new _ _ _) (hrb.below hb4) (bI_rng said) (by rw [bI_len]; have := HSZ.out; omega))
        have HWE4 := Lib.hid hW4
        clear hb4 hrb hbw hW3 hcb hW4
        go_upto_region 12 with fail
        -- TAIL
        obtain ⟨ek, hek⟩ : ∃ z, z = 1 + r := ⟨_, rfl⟩
        rw [← hek]
        have he12 : ek = 1 ∨ ek = 2 := by omega
        clear hek hr01 hand
        have HE := Lib.hid he12
        have HOP := Lib.hid (open_any HCH.out ek 2)
        go_wp2_with (first | (go_at_call 8; refine Hid.out ?_))
        refine Lib.hid ?_
        rw [← HWE4.out]
        refine HOP.out.mono ?_
        rintro e w3 ⟨g, rfl, hge, hlt, hb3, hli⟩
        have HNW := Lib.hid (new_any w3 200)
        have HF3 := Lib.hid (And.intro (And.intro hge hlt) (And.intro hb3 hli))
        clear hge hlt hb3 hli HOP hcv he12
        go_wp2_with (first | (go_at_call 9; refine Hid.out ?_))
        refine Lib.hid ?_
        refine HNW.out.mono ?_
        rintro e w4 ⟨rfl, hb4, hbu⟩
        obtain ⟨gB, hgB⟩ : ∃ g, g = w3.heap.size := ⟨_, rfl⟩
        have HS : Hid (Ses w w4 g gB g 200 (lnE (bI said) ek) ((csE x has twice).map toCl) (.slice Acv ncv ccv) ⟨0, 0, 0⟩ []) := Lib.hid (by
          rw [hgB]
          have h2 := HB4.out
          exact Ses.mk' HM.out HCL.out HB2.out (h2.trans (HF3.out.2.1.mono h2.size)) (Nat.le_trans h2.size HF3.out.1.1) HF3.out.1.2 HF3.out.2.2 hb4 hbu)
        have hl1 : (bI said).length < x.size := by rw [bI_len, HX.out]; omega
        have hl2 : (bI said).length ≤ 200 := by rw [bI_len]; have := HSZ.out; omega
        have HWA1 := Lib.hid (wait_E1 (bI said) x has twice ek HE.out hl1 hl2 1)
        have HWA2 := Lib.hid (wait_E2 (bI said) x has twice ek HE.out hl1 2 3 (by omega) false 0 rfl)
        rw [← hgB]
        clear hb4 hbu hgB HNW HF3 HCH HWE4 HB4 HB2 HCL hl1 hl2
        have he12 := HE.out
        clear HE
        rcases he12 with rfl | rfl
        · cases has
          · cases twice
            · have HRS : Hid (waitP _ _ 200 100 1000 3 ⟨0, 0, 0⟩ [] false 0 = (⟨3, -1, [], 0⟩, ⟨1, 3, 1⟩, bI said)) := Lib.hid (HWA1.out.trans rfl)
              have HRS2 : Hid (waitP _ _ 200 100 1000 3 ⟨1, 3, 1⟩ (bI said) false 0 = (⟨3, -1, [], 0⟩, ⟨1, 3, 1⟩, bI said)) := Lib.hid (HWA2.out.trans rfl)
              clear HWA1 HWA2
              go_wp2
              go_loopg [16] 4 (fun kq v16 wr => ∃ (i : Nat) (d : Ld) (b : List Int), i ≤ 3 ∧ v16 = .int .i64 i ∧ Hid (kq = 4 - i) ∧ Hid (waitP _ _ 200 100 1000 3 d b false 0 = (⟨3, -1, [], 0⟩, ⟨1, 3, 1⟩, bI said)) ∧ Hid (Ses w wr g gB g 200 (lnE (bI said) 1) _ (.slice Acv ncv ccv) d b))
              case atStart => exact ⟨0, _, _, by omega, rfl, Lib.hid rfl, HRS, HS⟩
              case round =>
                clear HS HRS
                obtain ⟨i, d, b, hi, rfl, HKQ, HRS, HS⟩ := hrel
                rcases Nat.lt_or_ge i 3 with hlt | hge
                · have g4 : decide ((i : Int) < 3) = true := by simp; omega
                  have g5 : (i : Int) < 3 := by omega
                  have s1 : IntKind.i64.wrap ((i : Int) + 1) = (i : Int) + 1 := IntWalk.i64_in _ (by omega)
                  have HW := Lib.hid (HS.out.wait 100 1000 3 (by simp only [List.length_cons, List.length_nil]; omega) HRS.out)
                  dsimp only [List.length_nil] at HW
                  go_wp2_with (first | (go_at_call 10; refine Hid.out ?_))
                  refine Lib.hid ?_
                  refine HW.out.mono ?_
                  rintro e w7 ⟨A7, c7, rfl, ho7, hs7, hz7, hk7⟩
                  obtain ⟨W7, hW7⟩ : ∃ W', W' = w7.alloc (.cells #[.int .i64 3, .int .i64 (-1), .slice A7 0 c7, .int .i64 0] 41) := ⟨_, rfl⟩
                  have hB7 : Below w7.heap.size w7 W7 := by rw [hW7]; exact (Below.refl _ _).alloc (Nat.le_refl _) _
                  have HS7 := Lib.hid (hs7.far hB7)
                  have HP7 : Hid (Blk W7 w7.heap.size 41 #[.int .i64 3, .int .i64 (-1), .slice A7 0 c7, .int .i64 0]) := Lib.hid (by rw [hW7]; exact Blk.new _ _ _)
                  clear ho7 hs7 hz7 hk7 hB7
                  go_upto_region 31 with fail
                  rw [← hW7]
                  clear hW7
                  obtain ⟨⟨y0, y1, y2, y3⟩, _⟩ := blk4 HP7.out
                  go_wp2_with (first | (go_at_call 11; refine Hid.out ?_))
                  refine Lib.hid ?_
                  refine HS7.out.now_.mono ?_
                  rintro e w8 ⟨rfl, q8, hq8⟩
                  have HS8 := Lib.hid (HS7.out.far (show Below W7.heap.size W7 w8 by rw [hq8]; exact below_drewN (Below.refl _ _) _))
                  clear hq8 y0 y1 y2 y3
                  go_wp2_with (first | (go_at_call 12; refine Hid.out ?_))
                  refine Lib.hid ?_
                  refine HS8.out.bytes.mono ?_
                  rintro e w9 ⟨A9, c9, rfl, hc9, hb9⟩
                  have HS9 := Lib.hid (HS8.out.far hb9)
                  rw [str_bI] at hc9
                  obtain ⟨n9, hn9⟩ : ∃ n, n = (bI said).length := ⟨_, rfl⟩
                  rw [← hn9] at hc9 ⊢
                  clear hb9 hn9
                  go_wp2
                  go_roundg (4 - (i + 1))
                  case measure => have := HKQ.out; omega
                  case rel => exact ⟨i + 1, _, _, by omega, by simp, Lib.hid rfl, HRS2, HS9⟩
                · obtain rfl : i = 3 := by omega
                  go_wp2
                  go_ret
                  exact ⟨rfl, HS.out.below⟩
            · have HRS : Hid (waitP _ _ 200 100 1000 3 ⟨0, 0, 0⟩ [] false 0 = (⟨3, 1, [], 0⟩, ⟨1, 3, 1⟩, bI said)) := Lib.hid (HWA1.out.trans rfl)
              have HRS2 : Hid (waitP _ _ 200 100 1000 3 ⟨1, 3, 1⟩ (bI said) false 0 = (⟨3, 1, [], 0⟩, ⟨1, 3, 1⟩, bI said)) := Lib.hid (HWA2.out.trans rfl)
              clear HWA1 HWA2
              go_wp2
              go_loopg [16] 4 (fun kq v16 wr => ∃ (i : Nat) (d : Ld) (b : List Int), i ≤ 3 ∧ v16 = .int .i64 i ∧ Hid (kq = 4 - i) ∧ Hid (waitP _ _ 200 100 1000 3 d b false 0 = (⟨3, 1, [], 0⟩, ⟨1, 3, 1⟩, bI said)) ∧ Hid (Ses w wr g gB g 200 (lnE (bI said) 1) _ (.slice Acv ncv ccv) d b))
              case atStart => exact ⟨0, _, _, by omega, rfl, Lib.hid rfl, HRS, HS⟩
              case round =>
                clear HS HRS
                obtain ⟨i, d, b, hi, rfl, HKQ, HRS, HS⟩ := hrel
                rcases Nat.lt_or_ge i 3 with hlt | hge
                · have g4 : decide ((i : Int) < 3) = true := by simp; omega
                  have g5 : (i : Int) < 3 := by omega
                  have s1 : IntKind.i64.wrap ((i : Int) + 1) = (i : Int) + 1 := IntWalk.i64_in _ (by omega)
                  have HW := Lib.hid (HS.out.wait 100 1000 3 (by simp only [List.length_cons, List.length_nil]; omega) HRS.out)
                  dsimp only [List.length_nil] at HW
                  go_wp2_with (first | (go_at_call 10; refine Hid.out ?_))
                  refine Lib.hid ?_
                  refine HW.out.mono ?_
                  rintro e w7 ⟨A7, c7, rfl, ho7, hs7, hz7, hk7⟩
                  obtain ⟨W7, hW7⟩ : ∃ W', W' = w7.alloc (.cells #[.int .i64 3, .int .i64 1, .slice A7 0 c7, .int .i64 0] 41) := ⟨_, rfl⟩
                  have hB7 : Below w7.heap.size w7 W7 := by rw [hW7]; exact (Below.refl _ _).alloc (Nat.le_refl _) _
                  have HS7 := Lib.hid (hs7.far hB7)
                  have HP7 : Hid (Blk W7 w7.heap.size 41 #[.int .i64 3, .int .i64 1, .slice A7 0 c7, .int .i64 0]) := Lib.hid (by rw [hW7]; exact Blk.new _ _ _)
                  clear ho7 hs7 hz7 hk7 hB7
                  go_upto_region 31 with fail
                  rw [← hW7]
                  clear hW7
                  obtain ⟨⟨y0, y1, y2, y3⟩, _⟩ := blk4 HP7.out
                  go_wp2_with (first | (go_at_call 11; refine Hid.out ?_))
                  refine Lib.hid ?_
                  refine HS7.out.now_.mono ?_
                  rintro e w8 ⟨rfl, q8, hq8⟩
                  have HS8 := Lib.hid (HS7.out.far (show Below W7.heap.size W7 w8 by rw [hq8]; exact below_drewN (Below.refl _ _) _))
                  clear hq8 y0 y1 y2 y3
                  go_wp2_with (first | (go_at_call 12; refine Hid.out ?_))
                  refine Lib.hid ?_
                  refine HS8.out.bytes.mono ?_
                  rintro e w9 ⟨A9, c9, rfl, hc9, hb9⟩
                  have HS9 := Lib.hid (HS8.out.far hb9)
                  rw [str_bI] at hc9
                  obtain ⟨n9, hn9⟩ : ∃ n, n = (bI said).length := ⟨_, rfl⟩
                  rw [← hn9] at hc9 ⊢
                  clear hb9 hn9
                  go_wp2
                  go_roundg (4 - (i + 1))
                  case measure => have := HKQ.out; omega
                  case rel => exact ⟨i + 1, _, _, by omega, by simp, Lib.hid rfl, HRS2, HS9⟩
                · obtain rfl : i = 3 := by omega
                  go_wp2
                  go_ret
                  exact ⟨rfl, HS.out.below⟩
          · cases twice
            · have HRS : Hid (waitP _ _ 200 100 1000 3 ⟨0, 0, 0⟩ [] false 0 = (⟨3, 2, [], 0⟩, ⟨1, 3, 1⟩, bI said)) := Lib.hid (HWA1.out.trans rfl)
              have HRS2 : Hid (waitP _ _ 200 100 1000 3 ⟨1, 3, 1⟩ (bI said) false 0 = (⟨3, 2, [], 0⟩, ⟨1, 3, 1⟩, bI said)) := Lib.hid (HWA2.out.trans rfl)
              clear HWA1 HWA2
              go_wp2
              go_loopg [16] 4 (fun kq v16 wr => ∃ (i : Nat) (d : Ld) (b : List Int), i ≤ 3 ∧ v16 = .int .i64 i ∧ Hid (kq = 4 - i) ∧ Hid (waitP _ _ 200 100 1000 3 d b false 0 = (⟨3, 2, [], 0⟩, ⟨1, 3, 1⟩, bI said)) ∧ Hid (Ses w wr g gB g 200 (lnE (bI said) 1) _ (.slice Acv ncv ccv) d b))
              case atStart => exact ⟨0, _, _, by omega, rfl, Lib.hid rfl, HRS, HS⟩
              case round =>
                clear HS HRS
                obtain ⟨i, d, b, hi, rfl, HKQ, HRS, HS⟩ := hrel
                rcases Nat.lt_or_ge i 3 with hlt | hge
                · have g4 : decide ((i : Int) < 3) = true := by simp; omega
                  have g5 : (i : Int) < 3 := by omega
                  have s1 : IntKind.i64.wrap ((i : Int) + 1) = (i : Int) + 1 := IntWalk.i64_in _ (by omega)
                  have HW := Lib.hid (HS.out.wait 100 1000 3 (by simp only [List.length_cons, List.length_nil]; omega) HRS.out)
                  dsimp only [List.length_nil] at HW
                  go_wp2_with (first | (go_at_call 10; refine Hid.out ?_))
                  refine Lib.hid ?_
                  refine HW.out.mono ?_
                  rintro e w7 ⟨A7, c7, rfl, ho7, hs7, hz7, hk7⟩
                  obtain ⟨W7, hW7⟩ : ∃ W', W' = w7.alloc (.cells #[.int .i64 3, .int .i64 2, .slice A7 0 c7, .int .i64 0] 41) := ⟨_, rfl⟩
                  have hB7 : Below w7.heap.size w7 W7 := by rw [hW7]; exact (Below.refl _ _).alloc (Nat.le_refl _) _
                  have HS7 := Lib.hid (hs7.far hB7)
                  have HP7 : Hid (Blk W7 w7.heap.size 41 #[.int .i64 3, .int .i64 2, .slice A7 0 c7, .int .i64 0]) := Lib.hid (by rw [hW7]; exact Blk.new _ _ _)
                  clear ho7 hs7 hz7 hk7 hB7
                  go_upto_region 31 with fail
                  rw [← hW7]
                  clear hW7
                  obtain ⟨⟨y0, y1, y2, y3⟩, _⟩ := blk4 HP7.out
                  go_wp2_with (first | (go_at_call 11; refine Hid.out ?_))
                  refine Lib.hid ?_
                  refine HS7.out.now_.mono ?_
                  rintro e w8 ⟨rfl, q8, hq8⟩
                  have HS8 := Lib.hid (HS7.out.far (show Below W7.heap.size W7 w8 by rw [hq8]; exact below_drewN (Below.refl _ _) _))
                  clear hq8 y0 y1 y2 y3
                  go_wp2_with (first | (go_at_call 12; refine Hid.out ?_))
                  refine Lib.hid ?_
                  refine HS8.out.bytes.mono ?_
                  rintro e w9 ⟨A9, c9, rfl, hc9, hb9⟩
                  have HS9 := Lib.hid (HS8.out.far hb9)
                  rw [str_bI] at hc9
                  obtain ⟨n9, hn9⟩ : ∃ n, n = (bI said).length := ⟨_, rfl⟩
                  rw [← hn9] at hc9 ⊢
                  clear hb9 hn9
                  go_wp2
                  go_roundg (4 - (i + 1))
                  case measure => have := HKQ.out; omega
                  case rel => exact ⟨i + 1, _, _, by omega, by simp, Lib.hid rfl, HRS2, HS9⟩
                · obtain rfl : i = 3 := by omega
                  go_wp2
                  go_ret
                  exact ⟨rfl, HS.out.below⟩
            · have HRS : Hid (waitP _ _ 200 100 1000 3 ⟨0, 0, 0⟩ [] false 0 = (⟨3, 2, [], 0⟩, ⟨1, 3, 1⟩, bI said)) := Lib.hid (HWA1.out.trans rfl)
              have HRS2 : Hid (waitP _ _ 200 100 1000 3 ⟨1, 3, 1⟩ (bI said) false 0 = (⟨3, 2, [], 0⟩, ⟨1, 3, 1⟩, bI said)) := Lib.hid (HWA2.out.trans rfl)
              clear HWA1 HWA2
              go_wp2
              go_loopg [16] 4 (fun kq v16 wr => ∃ (i : Nat) (d : Ld) (b : List Int), i ≤ 3 ∧ v16 = .int .i64 i ∧ Hid (kq = 4 - i) ∧ Hid (waitP _ _ 200 100 1000 3 d b false 0 = (⟨3, 2, [], 0⟩, ⟨1, 3, 1⟩, bI said)) ∧ Hid (Ses w wr g gB g 200 (lnE (bI said) 1) _ (.slice Acv ncv ccv) d b))
              case atStart => exact ⟨0, _, _, by omega, rfl, Lib.hid rfl, HRS, HS⟩
              case round =>
                clear HS HRS
                obtain ⟨i, d, b, hi, rfl, HKQ, HRS, HS⟩ := hrel
                rcases Nat.lt_or_ge i 3 with hlt | hge
                · have g4 : decide ((i : Int) < 3) = true := by simp; omega
                  have g5 : (i : Int) < 3 := by omega
                  have s1 : IntKind.i64.wrap ((i : Int) + 1) = (i : Int) + 1 := IntWalk.i64_in _ (by omega)
                  have HW := Lib.hid (HS.out.wait 100 1000 3 (by simp only [List.length_cons, List.length_nil]; omega) HRS.out)
                  dsimp only [List.length_nil] at HW
                  go_wp2_with (first | (go_at_call 10; refine Hid.out ?_))
                  refine Lib.hid ?_
                  refine HW.out.mono ?_
                  rintro e w7 ⟨A7, c7, rfl, ho7, hs7, hz7, hk7⟩
                  obtain ⟨W7, hW7⟩ : ∃ W', W' = w7.alloc (.cells #[.int .i64 3, .int .i64 2, .slice A7 0 c7, .int .i64 0] 41) := ⟨_, rfl⟩
                  have hB7 : Below w7.heap.size w7 W7 := by rw [hW7]; exact (Below.refl _ _).alloc (Nat.le_refl _) _
                  have HS7 := Lib.hid (hs7.far hB7)
                  have HP7 : Hid (Blk W7 w7.heap.size 41 #[.int .i64 3, .int .i64 2, .slice A7 0 c7, .int .i64 0]) := Lib.hid (by rw [hW7]; exact Blk.new _ _ _)
                  clear ho7 hs7 hz7 hk7 hB7
                  go_upto_region 31 with fail
                  rw [← hW7]
                  clear hW7
                  obtain ⟨⟨y0, y1, y2, y3⟩, _⟩ := blk4 HP7.out
                  go_wp2_with (first | (go_at_call 11; refine Hid.out ?_))
                  refine Lib.hid ?_
                  refine HS7.out.now_.mono ?_
                  rintro e w8 ⟨rfl, q8, hq8⟩
                  have HS8 := Lib.hid (HS7.out.far (show Below W7.heap.size W7 w8 by rw [hq8]; exact below_drewN (Below.refl _ _) _))
                  clear hq8 y0 y1 y2 y3
                  go_wp2_with (first | (go_at_call 12; refine Hid.out ?_))
                  refine Lib.hid ?_
                  refine HS8.out.bytes.mono ?_
                  rintro e w9 ⟨A9, c9, rfl, hc9, hb9⟩
                  have HS9 := Lib.hid (HS8.out.far hb9)
                  rw [str_bI] at hc9
                  obtain ⟨n9, hn9⟩ : ∃ n, n = (bI said).length := ⟨_, rfl⟩
                  rw [← hn9] at hc9 ⊢
                  clear hb9 hn9
                  go_wp2
                  go_roundg (4 - (i + 1))
                  case measure => have := HKQ.out; omega
                  case rel => exact ⟨i + 1, _, _, by omega, by simp, Lib.hid rfl, HRS2, HS9⟩
                · obtain rfl : i = 3 := by omega
                  go_wp2
                  go_ret
                  exact ⟨rfl, HS.out.below⟩
        · cases has
          · cases twice
            · have HRS : Hid (waitP _ _ 200 100 1000 3 ⟨0, 0, 0⟩ [] false 0 = (⟨4, -1, [], 0⟩, ⟨1, 3, 1⟩, bI said)) := Lib.hid (HWA1.out.trans rfl)
              have HRS2 : Hid (waitP _ _ 200 100 1000 3 ⟨1, 3, 1⟩ (bI said) false 0 = (⟨4, -1, [], 0⟩, ⟨1, 3, 1⟩, bI said)) := Lib.hid (HWA2.out.trans rfl)
              clear HWA1 HWA2
              go_wp2
              go_loopg [16] 4 (fun kq v16 wr => ∃ (i : Nat) (d : Ld) (b : List Int), i ≤ 3 ∧ v16 = .int .i64 i ∧ Hid (kq = 4 - i) ∧ Hid (waitP _ _ 200 100 1000 3 d b false 0 = (⟨4, -1, [], 0⟩, ⟨1, 3, 1⟩, bI said)) ∧ Hid (Ses w wr g gB g 200 (lnE (bI said) 2) _ (.slice Acv ncv ccv) d b))
              case atStart => exact ⟨0, _, _, by omega, rfl, Lib.hid rfl, HRS, HS⟩
              case round =>
                clear HS HRS
                obtain ⟨i, d, b, hi, rfl, HKQ, HRS, HS⟩ := hrel
                rcases Nat.lt_or_ge i 3 with hlt | hge
                · have g4 : decide ((i : Int) < 3) = true := by simp; omega
                  have g5 : (i : Int) < 3 := by omega
                  have s1 : IntKind.i64.wrap ((i : Int) + 1) = (i : Int) + 1 := IntWalk.i64_in _ (by omega)
                  have HW := Lib.hid (HS.out.wait 100 1000 3 (by simp only [List.length_cons, List.length_nil]; omega) HRS.out)
                  dsimp only [List.length_nil] at HW
                  go_wp2_with (first | (go_at_call 10; refine Hid.out ?_))
                  refine Lib.hid ?_
                  refine HW.out.mono ?_
                  rintro e w7 ⟨A7, c7, rfl, ho7, hs7, hz7, hk7⟩
                  obtain ⟨W7, hW7⟩ : ∃ W', W' = w7.alloc (.cells #[.int .i64 4, .int .i64 (-1), .slice A7 0 c7, .int .i64 0] 41) := ⟨_, rfl⟩
                  have hB7 : Below w7.heap.size w7 W7 := by rw [hW7]; exact (Below.refl _ _).alloc (Nat.le_refl _) _
                  have HS7 := Lib.hid (hs7.far hB7)
                  have HP7 : Hid (Blk W7 w7.heap.size 41 #[.int .i64 4, .int .i64 (-1), .slice A7 0 c7, .int .i64 0]) := Lib.hid (by rw [hW7]; exact Blk.new _ _ _)
                  clear ho7 hs7 hz7 hk7 hB7
                  go_upto_region 31 with fail
                  rw [← hW7]
                  clear hW7
                  obtain ⟨⟨y0, y1, y2, y3⟩, _⟩ := blk4 HP7.out
                  go_wp2_with (first | (go_at_call 11; refine Hid.out ?_))
                  refine Lib.hid ?_
                  refine HS7.out.now_.mono ?_
                  rintro e w8 ⟨rfl, q8, hq8⟩
                  have HS8 := Lib.hid (HS7.out.far (show Below W7.heap.size W7 w8 by rw [hq8]; exact below_drewN (Below.refl _ _) _))
                  clear hq8 y0 y1 y2 y3
                  go_wp2_with (first | (go_at_call 12; refine Hid.out ?_))
                  refine Lib.hid ?_
                  refine HS8.out.bytes.mono ?_
                  rintro e w9 ⟨A9, c9, rfl, hc9, hb9⟩
                  have HS9 := Lib.hid (HS8.out.far hb9)
                  rw [str_bI] at hc9
                  obtain ⟨n9, hn9⟩ : ∃ n, n = (bI said).length := ⟨_, rfl⟩
                  rw [← hn9] at hc9 ⊢
                  clear hb9 hn9
                  go_wp2
                  go_roundg (4 - (i + 1))
                  case measure => have := HKQ.out; omega
                  case rel => exact ⟨i + 1, _, _, by omega, by simp, Lib.hid rfl, HRS2, HS9⟩
                · obtain rfl : i = 3 := by omega
                  go_wp2
                  go_ret
                  exact ⟨rfl, HS.out.below⟩
            · have HRS : Hid (waitP _ _ 200 100 1000 3 ⟨0, 0, 0⟩ [] false 0 = (⟨4, 2, [], 0⟩, ⟨1, 3, 1⟩, bI said)) := Lib.hid (HWA1.out.trans rfl)
              have HRS2 : Hid (waitP _ _ 200 100 1000 3 ⟨1, 3, 1⟩ (bI said) false 0 = (⟨4, 2, [], 0⟩, ⟨1, 3, 1⟩, bI said)) := Lib.hid (HWA2.out.trans rfl)
              clear HWA1 HWA2
              go_wp2
              go_loopg [16] 4 (fun kq v16 wr => ∃ (i : Nat) (d : Ld) (b : List Int), i ≤ 3 ∧ v16 = .int .i64 i ∧ Hid (kq = 4 - i) ∧ Hid (waitP _ _ 200 100 1000 3 d b false 0 = (⟨4, 2, [], 0⟩, ⟨1, 3, 1⟩, bI said)) ∧ Hid (Ses w wr g gB g 200 (lnE (bI said) 2) _ (.slice Acv ncv ccv) d b))
              case atStart => exact ⟨0, _, _, by omega, rfl, Lib.hid rfl, HRS, HS⟩
              case round =>
                clear HS HRS
                obtain ⟨i, d, b, hi, rfl, HKQ, HRS, HS⟩ := hrel
                rcases Nat.lt_or_ge i 3 with hlt | hge
                · have g4 : decide ((i : Int) < 3) = true := by simp; omega
                  have g5 : (i : Int) < 3 := by omega
                  have s1 : IntKind.i64.wrap ((i : Int) + 1) = (i : Int) + 1 := IntWalk.i64_in _ (by omega)
                  have HW := Lib.hid (HS.out.wait 100 1000 3 (by simp only [List.length_cons, List.length_nil]; omega) HRS.out)
                  dsimp only [List.length_nil] at HW
                  go_wp2_with (first | (go_at_call 10; refine Hid.out ?_))
                  refine Lib.hid ?_
                  refine HW.out.mono ?_
                  rintro e w7 ⟨A7, c7, rfl, ho7, hs7, hz7, hk7⟩
                  obtain ⟨W7, hW7⟩ : ∃ W', W' = w7.alloc (.cells #[.int .i64 4, .int .i64 2, .slice A7 0 c7, .int .i64 0] 41) := ⟨_, rfl⟩
                  have hB7 : Below w7.heap.size w7 W7 := by rw [hW7]; exact (Below.refl _ _).alloc (Nat.le_refl _) _
                  have HS7 := Lib.hid (hs7.far hB7)
                  have HP7 : Hid (Blk W7 w7.heap.size 41 #[.int .i64 4, .int .i64 2, .slice A7 0 c7, .int .i64 0]) := Lib.hid (by rw [hW7]; exact Blk.new _ _ _)
                  clear ho7 hs7 hz7 hk7 hB7
                  go_upto_region 31 with fail
                  rw [← hW7]
                  clear hW7
                  obtain ⟨⟨y0, y1, y2, y3⟩, _⟩ := blk4 HP7.out
                  go_wp2_with (first | (go_at_call 11; refine Hid.out ?_))
                  refine Lib.hid ?_
                  refine HS7.out.now_.mono ?_
                  rintro e w8 ⟨rfl, q8, hq8⟩
                  have HS8 := Lib.hid (HS7.out.far (show Below W7.heap.size W7 w8 by rw [hq8]; exact below_drewN (Below.refl _ _) _))
                  clear hq8 y0 y1 y2 y3
                  go_wp2_with (first | (go_at_call 12; refine Hid.out ?_))
                  refine Lib.hid ?_
                  refine HS8.out.bytes.mono ?_
                  rintro e w9 ⟨A9, c9, rfl, hc9, hb9⟩
                  have HS9 := Lib.hid (HS8.out.far hb9)
                  rw [str_bI] at hc9
                  obtain ⟨n9, hn9⟩ : ∃ n, n = (bI said).length := ⟨_, rfl⟩
                  rw [← hn9] at hc9 ⊢
                  clear hb9 hn9
                  go_wp2
                  go_roundg (4 - (i + 1))
                  case measure => have := HKQ.out; omega
                  case rel => exact ⟨i + 1, _, _, by omega, by simp, Lib.hid rfl, HRS2, HS9⟩
                · obtain rfl : i = 3 := by omega
                  go_wp2
                  go_ret
                  exact ⟨rfl, HS.out.below⟩
          · cases twice
            · have HRS : Hid (waitP _ _ 200 100 1000 3 ⟨0, 0, 0⟩ [] false 0 = (⟨4, 1, [], 0⟩, ⟨1, 3, 1⟩, bI said)) := Lib.hid (HWA1.out.trans rfl)
              have HRS2 : Hid (waitP _ _ 200 100 1000 3 ⟨1, 3, 1⟩ (bI said) false 0 = (⟨4, 1, [], 0⟩, ⟨1, 3, 1⟩, bI said)) := Lib.hid (HWA2.out.trans rfl)
              clear HWA1 HWA2
              go_wp2
              go_loopg [16] 4 (fun kq v16 wr => ∃ (i : Nat) (d : Ld) (b : List Int), i ≤ 3 ∧ v16 = .int .i64 i ∧ Hid (kq = 4 - i) ∧ Hid (waitP _ _ 200 100 1000 3 d b false 0 = (⟨4, 1, [], 0⟩, ⟨1, 3, 1⟩, bI said)) ∧ Hid (Ses w wr g gB g 200 (lnE (bI said) 2) _ (.slice Acv ncv ccv) d b))
              case atStart => exact ⟨0, _, _, by omega, rfl, Lib.hid rfl, HRS, HS⟩
              case round =>
                clear HS HRS
                obtain ⟨i, d, b, hi, rfl, HKQ, HRS, HS⟩ := hrel
                rcases Nat.lt_or_ge i 3 with hlt | hge
                · have g4 : decide ((i : Int) < 3) = true := by simp; omega
                  have g5 : (i : Int) < 3 := by omega
                  have s1 : IntKind.i64.wrap ((i : Int) + 1) = (i : Int) + 1 := IntWalk.i64_in _ (by omega)
                  have HW := Lib.hid (HS.out.wait 100 1000 3 (by simp only [List.length_cons, List.length_nil]; omega) HRS.out)
                  dsimp only [List.length_nil] at HW
                  go_wp2_with (first | (go_at_call 10; refine Hid.out ?_))
                  refine Lib.hid ?_
                  refine HW.out.mono ?_
                  rintro e w7 ⟨A7, c7, rfl, ho7, hs7, hz7, hk7⟩
                  obtain ⟨W7, hW7⟩ : ∃ W', W' = w7.alloc (.cells #[.int .i64 4, .int .i64 1, .slice A7 0 c7, .int .i64 0] 41) := ⟨_, rfl⟩
                  have hB7 : Below w7.heap.size w7 W7 := by rw [hW7]; exact (Below.refl _ _).alloc (Nat.le_refl _) _
                  have HS7 := Lib.hid (hs7.far hB7)
                  have HP7 : Hid (Blk W7 w7.heap.size 41 #[.int .i64 4, .int .i64 1, .slice A7 0 c7, .int .i64 0]) := Lib.hid (by rw [hW7]; exact Blk.new _ _ _)
                  clear ho7 hs7 hz7 hk7 hB7
                  go_upto_region 31 with fail
                  rw [← hW7]
                  clear hW7
                  obtain ⟨⟨y0, y1, y2, y3⟩, _⟩ := blk4 HP7.out
                  go_wp2_with (first | (go_at_call 11; refine Hid.out ?_))
                  refine Lib.hid ?_
                  refine HS7.out.now_.mono ?_
                  rintro e w8 ⟨rfl, q8, hq8⟩
                  have HS8 := Lib.hid (HS7.out.far (show Below W7.heap.size W7 w8 by rw [hq8]; exact below_drewN (Below.refl _ _) _))
                  clear hq8 y0 y1 y2 y3
                  go_wp2_with (first | (go_at_call 12; refine Hid.out ?_))
                  refine Lib.hid ?_
                  refine HS8.out.bytes.mono ?_
                  rintro e w9 ⟨A9, c9, rfl, hc9, hb9⟩
                  have HS9 := Lib.hid (HS8.out.far hb9)
                  rw [str_bI] at hc9
                  obtain ⟨n9, hn9⟩ : ∃ n, n = (bI said).length := ⟨_, rfl⟩
                  rw [← hn9] at hc9 ⊢
                  clear hb9 hn9
                  go_wp2
                  go_roundg (4 - (i + 1))
                  case measure => have := HKQ.out; omega
                  case rel => exact ⟨i + 1, _, _, by omega, by simp, Lib.hid rfl, HRS2, HS9⟩
                · obtain rfl : i = 3 := by omega
                  go_wp2
                  go_ret
                  exact ⟨rfl, HS.out.below⟩
            · have HRS : Hid (waitP _ _ 200 100 1000 3 ⟨0, 0, 0⟩ [] false 0 = (⟨4, 1, [], 0⟩, ⟨1, 3, 1⟩, bI said)) := Lib.hid (HWA1.out.trans rfl)
              have HRS2 : Hid (waitP _ _ 200 100 1000 3 ⟨1, 3, 1⟩ (bI said) false 0 = (⟨4, 1, [], 0⟩, ⟨1, 3, 1⟩, bI said)) := Lib.hid (HWA2.out.trans rfl)
              clear HWA1 HWA2
              go_wp2
              go_loopg [16] 4 (fun kq v16 wr => ∃ (i : Nat) (d : Ld) (b : List Int), i ≤ 3 ∧ v16 = .int .i64 i ∧ Hid (kq = 4 - i) ∧ Hid (waitP _ _ 200 100 1000 3 d b false 0 = (⟨4, 1, [], 0⟩, ⟨1, 3, 1⟩, bI said)) ∧ Hid (Ses w wr g gB g 200 (lnE (bI said) 2) _ (.slice Acv ncv ccv) d b))
              case atStart => exact ⟨0, _, _, by omega, rfl, Lib.hid rfl, HRS, HS⟩
              case round =>
                clear HS HRS
                obtain ⟨i, d, b, hi, rfl, HKQ, HRS, HS⟩ := hrel
                rcases Nat.lt_or_ge i 3 with hlt | hge
                · have g4 : decide ((i : Int) < 3) = true := by simp; omega
                  have g5 : (i : Int) < 3 := by omega
                  have s1 : IntKind.i64.wrap ((i : Int) + 1) = (i : Int) + 1 := IntWalk.i64_in _ (by omega)
                  have HW := Lib.hid (HS.out.wait 100 1000 3 (by simp only [List.length_cons, List.length_nil]; omega) HRS.out)
                  dsimp only [List.length_nil] at HW
                  go_wp2_with (first | (go_at_call 10; refine Hid.out ?_))
                  refine Lib.hid ?_
                  refine HW.out.mono ?_
                  rintro e w7 ⟨A7, c7, rfl, ho7, hs7, hz7, hk7⟩
                  obtain ⟨W7, hW7⟩ : ∃ W', W' = w7.alloc (.cells #[.int .i64 4, .int .i64 1, .slice A7 0 c7, .int .i64 0] 41) := ⟨_, rfl⟩
                  have hB7 : Below w7.heap.size w7 W7 := by rw [hW7]; exact (Below.refl _ _).alloc (Nat.le_refl _) _
                  have HS7 := Lib.hid (hs7.far hB7)
                  have HP7 : Hid (Blk W7 w7.heap.size 41 #[.int .i64 4, .int .i64 1, .slice A7 0 c7, .int .i64 0]) := Lib.hid (by rw [hW7]; exact Blk.new _ _ _)
                  clear ho7 hs7 hz7 hk7 hB7
                  go_upto_region 31 with fail
                  rw [← hW7]
                  clear hW7
                  obtain ⟨⟨y0, y1, y2, y3⟩, _⟩ := blk4 HP7.out
                  go_wp2_with (first | (go_at_call 11; refine Hid.out ?_))
                  refine Lib.hid ?_
                  refine HS7.out.now_.mono ?_
                  rintro e w8 ⟨rfl, q8, hq8⟩
                  have HS8 := Lib.hid (HS7.out.far (show Below W7.heap.size W7 w8 by rw [hq8]; exact below_drewN (Below.refl _ _) _))
                  clear hq8 y0 y1 y2 y3
                  go_wp2_with (first | (go_at_call 12; refine Hid.out ?_))
                  refine Lib.hid ?_
                  refine HS8.out.bytes.mono ?_
                  rintro e w9 ⟨A9, c9, rfl, hc9, hb9⟩
                  have HS9 := Lib.hid (HS8.out.far hb9)
                  rw [str_bI] at hc9
                  obtain ⟨n9, hn9⟩ : ∃ n, n = (bI said).length := ⟨_, rfl⟩
                  rw [← hn9] at hc9 ⊢
                  clear hb9 hn9
                  go_wp2
                  go_roundg (4 - (i + 1))
                  case measure => have := HKQ.out; omega
                  case rel => exact ⟨i + 1, _, _, by omega, by simp, Lib.hid rfl, HRS2, HS9⟩
                · obtain rfl : i = 3 := by omega
                  go_wp2
                  go_ret
                  exact ⟨rfl, HS.out.below⟩
theorem ends_row (fin : Int) (has twice : Bool) (said : ByteArray) (W : World) (m : Int) (hm : W.cell? ⟨0, 0, none⟩ = some (.int .i64 m)) (hs : said.size ≤ maxLen) : Calls Try.prog 4 #[.int .i64 fin, .bool has, .bool twice, .string said] W fun e w' => e = .returned (.bool true) ∧ Below W.heap.size W w' := ends_walk fin has twice said hs hm
end Go.Proofs.Ytjnfomgehfmllaa.Tk
