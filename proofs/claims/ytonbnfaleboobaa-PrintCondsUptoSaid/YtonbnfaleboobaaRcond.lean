/- The document's Cond: a condition's text. (Printed by gp1.py.) -/
import Derived.Test.YtonbnfaleboobaaCondT
import Derived.Test.YtonbnfaleboobaaRquo
namespace Go.Proofs.Ytonbnfaleboobaa.Pr
set_option linter.unusedVariables false
set_option linter.unusedSimpArgs false
open Go.RowKit Mem Quo Go.Proofs.Ytonbnfaleboobaa.PPrintConds Go.Proofs.YtonbnfaleboobaaW.PrintWords Go.Proofs.YtonbnfaleboobaaW.PrintLast Go.Proofs.YtonbnfaleboobaaW.PrintMore

def RcOk (W : World) (c : Cd) : Prop := ∀ (A : Option Addr) (cp : Nat), c.f3.length ≤ cp → Kd.C k24 W A c.f3.length c.f3 → ∀ w, Below W.heap.size W w →
  Calls Try.prog 7 #[.agg #[.int .i64 c.f0, .string c.f1, .string c.f2, .slice A c.f3.length cp]] w fun e w' => e = .returned (.string (ctB c)) ∧ Below w.heap.size w w'

set_option maxHeartbeats 8000000 in
set_option maxRecDepth 100000 in
theorem rc_step (W : World) (c : Cd) (hb : blk c ≤ 1048576) (hs : shp c) (ih : ∀ y, y ∈ c.f3 → RcOk W y) : RcOk W c := by
  obtain ⟨k0, n, v, l⟩ := c
  intro A cp hcp hC w hw
  have hsz := ctB_size ⟨k0, n, v, l⟩
  have hlb := len_blkL l
  simp only [blk] at hb hsz
  have HC := Lib.hid hC
  have HW := Lib.hid hw
  have HI := Lib.hid ih
  have hll : l.length ≤ 1048576 := by omega
  have HB0 := Lib.hid (below_a1 w (.cells #[.int .i64 k0, .string n, .string v, .slice A l.length cp] 24))
  have HX0 : Hid (Blk (w.alloc (.cells #[.int .i64 k0, .string n, .string v, .slice A l.length cp] 24)) w.heap.size 24 #[.int .i64 k0, .string n, .string v, .slice A l.length cp]) := Blk.new _ _ _
  have x1 := HX0.out.cell 1
  have x2 := HX0.out.cell 2
  simp at x1 x2
  clear hC hw ih
  by_cases h1 : k0 = 1
  · subst h1
    have hq := quot_size v
    have hl : (⟨#[32, 61, 32]⟩ : ByteArray).size ≤ 4 := by decide
    have hs1 : ¬ 9223372036854775807 < (n ++ (⟨#[32, 61, 32]⟩ : ByteArray)).size + (quot v).size := by rw [ByteArray.size_append]; omega
    have hs2 : ¬ 9223372036854775807 < n.size + (⟨#[32, 61, 32]⟩ : ByteArray).size + (quot v).size := by omega
    have hs3 : ¬ 9223372036854775807 < n.size + 3 := by omega
    have hs4 : ¬ 9223372036854775807 < n.size + 3 + (quot v).size := by omega
    have hs5 : ¬ 9223372036854775807 < n.size + (⟨#[32, 61, 32]⟩ : ByteArray).size := by omega
    clear hq hl
    go_enter Try.func7, Try.ntmps7
    go_wp2_with fail
    go_region_held3 (fun w' => w'.cell? ⟨w.heap.size, 1, none⟩ = some (.string n) ∧ w'.cell? ⟨w.heap.size, 2, none⟩ = some (.string v)) (first | exact ⟨b1, b2⟩ | go_keep)
      (first
        | (go_at_call 11; refine (rquoted_any v _ (by omega)).mono ?_; rintro e w2 ⟨rfl, hb⟩; (have HB2 := Lib.hid (HB0.out.trans ((below_drew (Below.refl _ _)).trans (hb.mono (Nat.le_refl _)) |>.mono HB0.out.size)); have hx := Blk.below (Blk.drew HX0.out) hb HX0.out.lt; have b1 := hx.cell 1; have b2 := hx.cell 2; simp at b1 b2; clear hb hx)))
    all_goals
      go_wp2_with fail
      go_ret
      exact ⟨ret_str (by simp [ctB, topB]), HB2.out⟩
  · by_cases h2 : k0 = 2
    · subst h2
      have hq := quot_size v
      have hl : (⟨#[32, 33, 61, 32]⟩ : ByteArray).size ≤ 4 := by decide
      have hs1 : ¬ 9223372036854775807 < (n ++ (⟨#[32, 33, 61, 32]⟩ : ByteArray)).size + (quot v).size := by rw [ByteArray.size_append]; omega
      have hs2 : ¬ 9223372036854775807 < n.size + (⟨#[32, 33, 61, 32]⟩ : ByteArray).size + (quot v).size := by omega
      have hs3 : ¬ 9223372036854775807 < n.size + 4 := by omega
      have hs4 : ¬ 9223372036854775807 < n.size + 4 + (quot v).size := by omega
      have hs5 : ¬ 9223372036854775807 < n.size + (⟨#[32, 33, 61, 32]⟩ : ByteArray).size := by omega
      clear hq hl
      go_enter Try.func7, Try.ntmps7
      go_wp2_with fail
      go_region_held3 (fun w' => w'.cell? ⟨w.heap.size, 1, none⟩ = some (.string n) ∧ w'.cell? ⟨w.heap.size, 2, none⟩ = some (.string v)) (first | exact ⟨b1, b2⟩ | go_keep)
        (first
          | (go_at_call 11; refine (rquoted_any v _ (by omega)).mono ?_; rintro e w2 ⟨rfl, hb⟩; (have HB2 := Lib.hid (HB0.out.trans ((below_drew (Below.refl _ _)).trans (hb.mono (Nat.le_refl _)) |>.mono HB0.out.size)); have hx := Blk.below (Blk.drew HX0.out) hb HX0.out.lt; have b1 := hx.cell 1; have b2 := hx.cell 2; simp at b1 b2; clear hb hx)))
      all_goals
        go_wp2_with fail
        go_ret
        exact ⟨ret_str (by simp [ctB, topB]), HB2.out⟩
    · have e1 : (k0 == 1) = false := by simpa using h1
      have e2 : (k0 == 2) = false := by simpa using h2
      have hs3 : k0 = 3 → l.length = 1 := by unfold shp at hs; exact hs.1
      have HT := Lib.hid (acc_top k0 n v l h1 h2 hs3)
      have HS3 := Lib.hid hs3
      clear h1 h2 hs hs3 hsz
      go_enter Try.func7, Try.ntmps7
      go_wp2_with fail
      go_loopw [3, 4] (fun t3 t4 wr => ∃ k : Nat, k ≤ l.length ∧ t4 = .int .i64 k ∧ t3 = .string (accB k0 (ctL k0 (l.take k))) ∧ Hid (Blk wr w.heap.size 24 #[.int .i64 k0, .string n, .string v, .slice A l.length cp]) ∧ Hid (Below w.heap.size w wr)) (fun _ t4 _ => l.length - (intOf t4).toNat)
      case atStart => exact ⟨0, Nat.zero_le _, rfl, by rw [acc_zero], HX0, HB0⟩
      case round =>
        obtain ⟨k, hk, rfl, rfl, HX, HB⟩ := hrel
        have y0 := HX.out.cell 0
        have y3 := HX.out.cell 3
        simp at y0 y3
        have hxl := HX.out.lt
        by_cases hkn : k < l.length
        · obtain ⟨ad, A3, c3, rfl, g0, g1, g2, g3, q3, qC⟩ := at_T24 HC.out (k : Int) (by omega) (by omega)
          have hmem : rd_T24 l (k : Int) ∈ l := by unfold rd_T24; rw [Int.toNat_natCast, getD_lt (by omega)]; exact List.getElem_mem _
          have hy : l[k] = rd_T24 l (k : Int) := by unfold rd_T24; rw [Int.toNat_natCast, getD_lt (by omega)]
          have hbw := HW.out.trans (HB.out.mono HW.out.size)
          have hct := HI.out _ hmem A3 c3 q3 qC
          have g0 := (hbw.cell (World.block_lt_of_cell? W _ g0)).trans g0
          have g1 := (hbw.cell (World.block_lt_of_cell? W _ g1)).trans g1
          have g2 := (hbw.cell (World.block_lt_of_cell? W _ g2)).trans g2
          have g3 := (hbw.cell (World.block_lt_of_cell? W _ g3)).trans g3
          rw [Int.toNat_natCast] at g0 g1 g2 g3
          have hsy := ctB_size (rd_T24 l (k : Int))
          have hby := blkL_mem _ hmem
          have hao := accB_size k0 l k
          have hn3 : Hid (k0 = 3 → accB k0 (ctL k0 (l.take (k + 1))) = ⟨#[33]⟩ ++ wB k0 (rd_T24 l (k : Int)).f0 (ctB (rd_T24 l (k : Int)))) := by
            refine Lib.hid fun h => ?_
            subst h
            rw [← hy]
            exact acc_not l k hkn (HS3.out rfl)
          have hnf : Hid (k0 ≠ 3 → k = 0 → accB k0 (ctL k0 (l.take (k + 1))) = wB k0 (rd_T24 l (k : Int)).f0 (ctB (rd_T24 l (k : Int)))) := by
            refine Lib.hid fun h h0 => ?_
            subst h0
            rw [← hy]
            exact acc_first k0 l hkn h
          have hnm : Hid (k0 ≠ 3 → 0 < k → accB k0 (ctL k0 (l.take (k + 1))) = (accB k0 (ctL k0 (l.take k)) ++ sepB k0) ++ wB k0 (rd_T24 l (k : Int)).f0 (ctB (rd_T24 l (k : Int)))) := by
            refine Lib.hid fun h h0 => ?_
            rw [← hy]
            exact acc_more k0 l k hkn h0 h
          generalize rd_T24 l (k : Int) = y at *
          generalize accB k0 (ctL k0 (l.take k)) = out at *
          have HCW : Hid (∀ w1, Below wr.heap.size wr w1 → Calls Try.prog 7 #[.agg #[.int .i64 y.f0, .string y.f1, .string y.f2, .slice A3 y.f3.length c3]] w1 fun e w' => e = .returned (.string (ctB y)) ∧ Below w1.heap.size w1 w') := fun w1 h1 => hct w1 (hbw.trans (h1.mono hbw.size))
          have hts : (ctB y).size ≤ 1000000000 := by omega
          have hos : out.size ≤ 1000000000 := by omega
          have HKN := Lib.hid hkn
          have HY : Hid (Blk (wr.alloc (.cells #[.int .i64 y.f0, .string y.f1, .string y.f2, .slice A3 y.f3.length c3] 24)) wr.heap.size 24 #[.int .i64 y.f0, .string y.f1, .string y.f2, .slice A3 y.f3.length c3]) := Blk.new _ _ _
          have hct2 := HCW.out _ (below_a1 wr (.cells #[.int .i64 y.f0, .string y.f1, .string y.f2, .slice A3 y.f3.length c3] 24))
          clear hct hsy hby hao hmem hy q3 qC hbw
          by_cases m5 : y.f0 = 5
          · have f5 : (y.f0 == 5) = true := by simpa using m5
            have hwb : wB k0 y.f0 (ctB y) = paren (ctB y) := by unfold wB kindsOf; rw [m5]; split <;> simp
            clear m5
            by_cases c3 : k0 = 3
            · have e3 : (k0 == 3) = true := by simpa using c3
              have HACC := Lib.hid ((hn3.out c3).trans (congrArg _ hwb))
              clear hn3 hnf hnm hwb c3
              go_wp2_with (first
                | (go_at_call 7; refine hct2.mono ?_; rintro e w2 ⟨rfl, hb⟩; (have hb2 := below_al hb; have HB2 := Lib.hid (HB.out.trans (hb2.mono HB.out.size)); have HX2 := Lib.hid (Blk.below (HX.out.alloc _) hb (Nat.lt_of_lt_of_le HX.out.lt (by simp))); have hx2 := HX2.out.cell 0; have hy2 := (Blk.below HY.out hb HY.out.lt).cell 0; have hl2 := HX2.out.lt; simp at hx2 hy2; clear hb hb2 hct2)))
              all_goals
                go_roundw
                case rel => exact ⟨k + 1, by have := HKN.out; omega, by go_num, (congrArg Value.string HACC.out).symm, HX2, HB2⟩
                case measure => have := HKN.out; simp [intOf]; omega
            · have e3 : (k0 == 3) = false := by simpa using c3
              by_cases c0 : k = 0
              · have e0 : ((k : Int) == 0) = true := by simpa using c0
                have HACC := Lib.hid ((hnf.out c3 c0).trans hwb)
                clear hn3 hnf hnm hwb c3 c0
                go_wp2_with (first
                  | (go_at_call 7; refine hct2.mono ?_; rintro e w2 ⟨rfl, hb⟩; (have hb2 := below_al hb; have HB2 := Lib.hid (HB.out.trans (hb2.mono HB.out.size)); have HX2 := Lib.hid (Blk.below (HX.out.alloc _) hb (Nat.lt_of_lt_of_le HX.out.lt (by simp))); have hx2 := HX2.out.cell 0; have hy2 := (Blk.below HY.out hb HY.out.lt).cell 0; have hl2 := HX2.out.lt; simp at hx2 hy2; clear hb hb2 hct2)))
                all_goals
                  go_roundw
                  case rel => exact ⟨k + 1, by have := HKN.out; omega, by go_num, (congrArg Value.string HACC.out).symm, HX2, HB2⟩
                  case measure => have := HKN.out; simp [intOf]; omega
              · have e0 : ((k : Int) == 0) = false := by simpa using c0
                by_cases c4 : k0 = 4
                · have e4 : (k0 == 4) = true := by simpa using c4
                  have hsp : sepB k0 = ⟨#[32, 38, 32]⟩ := by unfold sepB; rw [if_pos c4]
                  have hac := (hnm.out c3 (by omega)).trans (congr (congrArg _ (congrArg _ hsp)) hwb)
                  clear hsp
                  have HACC := Lib.hid (hac)
                  clear hn3 hnf hnm hwb c3 c0 c4 hac
                  go_wp2_with (first
                    | (go_at_call 7; refine hct2.mono ?_; rintro e w2 ⟨rfl, hb⟩; (have hb2 := below_al hb; have HB2 := Lib.hid (HB.out.trans (hb2.mono HB.out.size)); have HX2 := Lib.hid (Blk.below (HX.out.alloc _) hb (Nat.lt_of_lt_of_le HX.out.lt (by simp))); have hx2 := HX2.out.cell 0; have hy2 := (Blk.below HY.out hb HY.out.lt).cell 0; have hl2 := HX2.out.lt; simp at hx2 hy2; clear hb hb2 hct2)))
                  all_goals
                    go_roundw
                    case rel => exact ⟨k + 1, by have := HKN.out; omega, by go_num, (congrArg Value.string HACC.out).symm, HX2, HB2⟩
                    case measure => have := HKN.out; simp [intOf]; omega
                · have e4 : (k0 == 4) = false := by simpa using c4
                  have hsp : sepB k0 = ⟨#[32, 124, 32]⟩ := by unfold sepB; rw [if_neg c4]
                  have hac := (hnm.out c3 (by omega)).trans (congr (congrArg _ (congrArg _ hsp)) hwb)
                  clear hsp
                  have HACC := Lib.hid (hac)
                  clear hn3 hnf hnm hwb c3 c0 c4 hac
                  go_wp2_with (first
                    | (go_at_call 7; refine hct2.mono ?_; rintro e w2 ⟨rfl, hb⟩; (have hb2 := below_al hb; have HB2 := Lib.hid (HB.out.trans (hb2.mono HB.out.size)); have HX2 := Lib.hid (Blk.below (HX.out.alloc _) hb (Nat.lt_of_lt_of_le HX.out.lt (by simp))); have hx2 := HX2.out.cell 0; have hy2 := (Blk.below HY.out hb HY.out.lt).cell 0; have hl2 := HX2.out.lt; simp at hx2 hy2; clear hb hb2 hct2)))
                  all_goals
                    go_roundw
                    case rel => exact ⟨k + 1, by have := HKN.out; omega, by go_num, (congrArg Value.string HACC.out).symm, HX2, HB2⟩
                    case measure => have := HKN.out; simp [intOf]; omega
          · have f5 : (y.f0 == 5) = false := by simpa using m5
            by_cases m4 : y.f0 = 4
            · have f4 : (y.f0 == 4) = true := by simpa using m4
              by_cases k5 : k0 = 5
              · have g5 : (k0 != 5) = false := by simpa using k5
                have hwb : wB k0 y.f0 (ctB y) = ctB y := by unfold wB kindsOf; rw [m4, if_pos k5]; simp
                clear m4 m5
                by_cases c3 : k0 = 3
                · have e3 : (k0 == 3) = true := by simpa using c3
                  have HACC := Lib.hid ((hn3.out c3).trans (congrArg _ hwb))
                  clear hn3 hnf hnm hwb c3 k5
                  go_wp2_with (first
                    | (go_at_call 7; refine hct2.mono ?_; rintro e w2 ⟨rfl, hb⟩; (have hb2 := below_al hb; have HB2 := Lib.hid (HB.out.trans (hb2.mono HB.out.size)); have HX2 := Lib.hid (Blk.below (HX.out.alloc _) hb (Nat.lt_of_lt_of_le HX.out.lt (by simp))); have hx2 := HX2.out.cell 0; have hy2 := (Blk.below HY.out hb HY.out.lt).cell 0; have hl2 := HX2.out.lt; simp at hx2 hy2; clear hb hb2 hct2)))
                  all_goals
                    go_roundw
                    case rel => exact ⟨k + 1, by have := HKN.out; omega, by go_num, (congrArg Value.string HACC.out).symm, HX2, HB2⟩
                    case measure => have := HKN.out; simp [intOf]; omega
                · have e3 : (k0 == 3) = false := by simpa using c3
                  by_cases c0 : k = 0
                  · have e0 : ((k : Int) == 0) = true := by simpa using c0
                    have HACC := Lib.hid ((hnf.out c3 c0).trans hwb)
                    clear hn3 hnf hnm hwb c3 c0 k5
                    go_wp2_with (first
                      | (go_at_call 7; refine hct2.mono ?_; rintro e w2 ⟨rfl, hb⟩; (have hb2 := below_al hb; have HB2 := Lib.hid (HB.out.trans (hb2.mono HB.out.size)); have HX2 := Lib.hid (Blk.below (HX.out.alloc _) hb (Nat.lt_of_lt_of_le HX.out.lt (by simp))); have hx2 := HX2.out.cell 0; have hy2 := (Blk.below HY.out hb HY.out.lt).cell 0; have hl2 := HX2.out.lt; simp at hx2 hy2; clear hb hb2 hct2)))
                    all_goals
                      go_roundw
                      case rel => exact ⟨k + 1, by have := HKN.out; omega, by go_num, (congrArg Value.string HACC.out).symm, HX2, HB2⟩
                      case measure => have := HKN.out; simp [intOf]; omega
                  · have e0 : ((k : Int) == 0) = false := by simpa using c0
                    by_cases c4 : k0 = 4
                    · have e4 : (k0 == 4) = true := by simpa using c4
                      have hsp : sepB k0 = ⟨#[32, 38, 32]⟩ := by unfold sepB; rw [if_pos c4]
                      have hac := (hnm.out c3 (by omega)).trans (congr (congrArg _ (congrArg _ hsp)) hwb)
                      clear hsp
                      have HACC := Lib.hid (hac)
                      clear hn3 hnf hnm hwb c3 c0 c4 hac k5
                      go_wp2_with (first
                        | (go_at_call 7; refine hct2.mono ?_; rintro e w2 ⟨rfl, hb⟩; (have hb2 := below_al hb; have HB2 := Lib.hid (HB.out.trans (hb2.mono HB.out.size)); have HX2 := Lib.hid (Blk.below (HX.out.alloc _) hb (Nat.lt_of_lt_of_le HX.out.lt (by simp))); have hx2 := HX2.out.cell 0; have hy2 := (Blk.below HY.out hb HY.out.lt).cell 0; have hl2 := HX2.out.lt; simp at hx2 hy2; clear hb hb2 hct2)))
                      all_goals
                        go_roundw
                        case rel => exact ⟨k + 1, by have := HKN.out; omega, by go_num, (congrArg Value.string HACC.out).symm, HX2, HB2⟩
                        case measure => have := HKN.out; simp [intOf]; omega
                    · have e4 : (k0 == 4) = false := by simpa using c4
                      have hsp : sepB k0 = ⟨#[32, 124, 32]⟩ := by unfold sepB; rw [if_neg c4]
                      have hac := (hnm.out c3 (by omega)).trans (congr (congrArg _ (congrArg _ hsp)) hwb)
                      clear hsp
                      have HACC := Lib.hid (hac)
                      clear hn3 hnf hnm hwb c3 c0 c4 hac k5
                      go_wp2_with (first
                        | (go_at_call 7; refine hct2.mono ?_; rintro e w2 ⟨rfl, hb⟩; (have hb2 := below_al hb; have HB2 := Lib.hid (HB.out.trans (hb2.mono HB.out.size)); have HX2 := Lib.hid (Blk.below (HX.out.alloc _) hb (Nat.lt_of_lt_of_le HX.out.lt (by simp))); have hx2 := HX2.out.cell 0; have hy2 := (Blk.below HY.out hb HY.out.lt).cell 0; have hl2 := HX2.out.lt; simp at hx2 hy2; clear hb hb2 hct2)))
                      all_goals
                        go_roundw
                        case rel => exact ⟨k + 1, by have := HKN.out; omega, by go_num, (congrArg Value.string HACC.out).symm, HX2, HB2⟩
                        case measure => have := HKN.out; simp [intOf]; omega
              · have g5 : (k0 != 5) = true := by simpa using k5
                have hwb : wB k0 y.f0 (ctB y) = paren (ctB y) := by unfold wB kindsOf; rw [m4, if_neg k5]; simp
                clear m4 m5
                by_cases c3 : k0 = 3
                · have e3 : (k0 == 3) = true := by simpa using c3
                  have HACC := Lib.hid ((hn3.out c3).trans (congrArg _ hwb))
                  clear hn3 hnf hnm hwb c3 k5
                  go_wp2_with (first
                    | (go_at_call 7; refine hct2.mono ?_; rintro e w2 ⟨rfl, hb⟩; (have hb2 := below_al hb; have HB2 := Lib.hid (HB.out.trans (hb2.mono HB.out.size)); have HX2 := Lib.hid (Blk.below (HX.out.alloc _) hb (Nat.lt_of_lt_of_le HX.out.lt (by simp))); have hx2 := HX2.out.cell 0; have hy2 := (Blk.below HY.out hb HY.out.lt).cell 0; have hl2 := HX2.out.lt; simp at hx2 hy2; clear hb hb2 hct2)))
                  all_goals
                    go_roundw
                    case rel => exact ⟨k + 1, by have := HKN.out; omega, by go_num, (congrArg Value.string HACC.out).symm, HX2, HB2⟩
                    case measure => have := HKN.out; simp [intOf]; omega
                · have e3 : (k0 == 3) = false := by simpa using c3
                  by_cases c0 : k = 0
                  · have e0 : ((k : Int) == 0) = true := by simpa using c0
                    have HACC := Lib.hid ((hnf.out c3 c0).trans hwb)
                    clear hn3 hnf hnm hwb c3 c0 k5
                    go_wp2_with (first
                      | (go_at_call 7; refine hct2.mono ?_; rintro e w2 ⟨rfl, hb⟩; (have hb2 := below_al hb; have HB2 := Lib.hid (HB.out.trans (hb2.mono HB.out.size)); have HX2 := Lib.hid (Blk.below (HX.out.alloc _) hb (Nat.lt_of_lt_of_le HX.out.lt (by simp))); have hx2 := HX2.out.cell 0; have hy2 := (Blk.below HY.out hb HY.out.lt).cell 0; have hl2 := HX2.out.lt; simp at hx2 hy2; clear hb hb2 hct2)))
                    all_goals
                      go_roundw
                      case rel => exact ⟨k + 1, by have := HKN.out; omega, by go_num, (congrArg Value.string HACC.out).symm, HX2, HB2⟩
                      case measure => have := HKN.out; simp [intOf]; omega
                  · have e0 : ((k : Int) == 0) = false := by simpa using c0
                    by_cases c4 : k0 = 4
                    · have e4 : (k0 == 4) = true := by simpa using c4
                      have hsp : sepB k0 = ⟨#[32, 38, 32]⟩ := by unfold sepB; rw [if_pos c4]
                      have hac := (hnm.out c3 (by omega)).trans (congr (congrArg _ (congrArg _ hsp)) hwb)
                      clear hsp
                      have HACC := Lib.hid (hac)
                      clear hn3 hnf hnm hwb c3 c0 c4 hac k5
                      go_wp2_with (first
                        | (go_at_call 7; refine hct2.mono ?_; rintro e w2 ⟨rfl, hb⟩; (have hb2 := below_al hb; have HB2 := Lib.hid (HB.out.trans (hb2.mono HB.out.size)); have HX2 := Lib.hid (Blk.below (HX.out.alloc _) hb (Nat.lt_of_lt_of_le HX.out.lt (by simp))); have hx2 := HX2.out.cell 0; have hy2 := (Blk.below HY.out hb HY.out.lt).cell 0; have hl2 := HX2.out.lt; simp at hx2 hy2; clear hb hb2 hct2)))
                      all_goals
                        go_roundw
                        case rel => exact ⟨k + 1, by have := HKN.out; omega, by go_num, (congrArg Value.string HACC.out).symm, HX2, HB2⟩
                        case measure => have := HKN.out; simp [intOf]; omega
                    · have e4 : (k0 == 4) = false := by simpa using c4
                      have hsp : sepB k0 = ⟨#[32, 124, 32]⟩ := by unfold sepB; rw [if_neg c4]
                      have hac := (hnm.out c3 (by omega)).trans (congr (congrArg _ (congrArg _ hsp)) hwb)
                      clear hsp
                      have HACC := Lib.hid (hac)
                      clear hn3 hnf hnm hwb c3 c0 c4 hac k5
                      go_wp2_with (first
                        | (go_at_call 7; refine hct2.mono ?_; rintro e w2 ⟨rfl, hb⟩; (have hb2 := below_al hb; have HB2 := Lib.hid (HB.out.trans (hb2.mono HB.out.size)); have HX2 := Lib.hid (Blk.below (HX.out.alloc _) hb (Nat.lt_of_lt_of_le HX.out.lt (by simp))); have hx2 := HX2.out.cell 0; have hy2 := (Blk.below HY.out hb HY.out.lt).cell 0; have hl2 := HX2.out.lt; simp at hx2 hy2; clear hb hb2 hct2)))
                      all_goals
                        go_roundw
                        case rel => exact ⟨k + 1, by have := HKN.out; omega, by go_num, (congrArg Value.string HACC.out).symm, HX2, HB2⟩
                        case measure => have := HKN.out; simp [intOf]; omega
            · have f4 : (y.f0 == 4) = false := by simpa using m4
              have hwb : wB k0 y.f0 (ctB y) = ctB y := by unfold wB kindsOf; split <;> simp [m4, m5]
              clear m4 m5
              by_cases c3 : k0 = 3
              · have e3 : (k0 == 3) = true := by simpa using c3
                have HACC := Lib.hid ((hn3.out c3).trans (congrArg _ hwb))
                clear hn3 hnf hnm hwb c3
                go_wp2_with (first
                  | (go_at_call 7; refine hct2.mono ?_; rintro e w2 ⟨rfl, hb⟩; (have hb2 := below_al hb; have HB2 := Lib.hid (HB.out.trans (hb2.mono HB.out.size)); have HX2 := Lib.hid (Blk.below (HX.out.alloc _) hb (Nat.lt_of_lt_of_le HX.out.lt (by simp))); have hx2 := HX2.out.cell 0; have hy2 := (Blk.below HY.out hb HY.out.lt).cell 0; have hl2 := HX2.out.lt; simp at hx2 hy2; clear hb hb2 hct2)))
                all_goals
                  go_roundw
                  case rel => exact ⟨k + 1, by have := HKN.out; omega, by go_num, (congrArg Value.string HACC.out).symm, HX2, HB2⟩
                  case measure => have := HKN.out; simp [intOf]; omega
              · have e3 : (k0 == 3) = false := by simpa using c3
                by_cases c0 : k = 0
                · have e0 : ((k : Int) == 0) = true := by simpa using c0
                  have HACC := Lib.hid ((hnf.out c3 c0).trans hwb)
                  clear hn3 hnf hnm hwb c3 c0
                  go_wp2_with (first
                    | (go_at_call 7; refine hct2.mono ?_; rintro e w2 ⟨rfl, hb⟩; (have hb2 := below_al hb; have HB2 := Lib.hid (HB.out.trans (hb2.mono HB.out.size)); have HX2 := Lib.hid (Blk.below (HX.out.alloc _) hb (Nat.lt_of_lt_of_le HX.out.lt (by simp))); have hx2 := HX2.out.cell 0; have hy2 := (Blk.below HY.out hb HY.out.lt).cell 0; have hl2 := HX2.out.lt; simp at hx2 hy2; clear hb hb2 hct2)))
                  all_goals
                    go_roundw
                    case rel => exact ⟨k + 1, by have := HKN.out; omega, by go_num, (congrArg Value.string HACC.out).symm, HX2, HB2⟩
                    case measure => have := HKN.out; simp [intOf]; omega
                · have e0 : ((k : Int) == 0) = false := by simpa using c0
                  by_cases c4 : k0 = 4
                  · have e4 : (k0 == 4) = true := by simpa using c4
                    have hsp : sepB k0 = ⟨#[32, 38, 32]⟩ := by unfold sepB; rw [if_pos c4]
                    have hac := (hnm.out c3 (by omega)).trans (congr (congrArg _ (congrArg _ hsp)) hwb)
                    clear hsp
                    have HACC := Lib.hid (hac)
                    clear hn3 hnf hnm hwb c3 c0 c4 hac
                    go_wp2_with (first
                      | (go_at_call 7; refine hct2.mono ?_; rintro e w2 ⟨rfl, hb⟩; (have hb2 := below_al hb; have HB2 := Lib.hid (HB.out.trans (hb2.mono HB.out.size)); have HX2 := Lib.hid (Blk.below (HX.out.alloc _) hb (Nat.lt_of_lt_of_le HX.out.lt (by simp))); have hx2 := HX2.out.cell 0; have hy2 := (Blk.below HY.out hb HY.out.lt).cell 0; have hl2 := HX2.out.lt; simp at hx2 hy2; clear hb hb2 hct2)))
                    all_goals
                      go_roundw
                      case rel => exact ⟨k + 1, by have := HKN.out; omega, by go_num, (congrArg Value.string HACC.out).symm, HX2, HB2⟩
                      case measure => have := HKN.out; simp [intOf]; omega
                  · have e4 : (k0 == 4) = false := by simpa using c4
                    have hsp : sepB k0 = ⟨#[32, 124, 32]⟩ := by unfold sepB; rw [if_neg c4]
                    have hac := (hnm.out c3 (by omega)).trans (congr (congrArg _ (congrArg _ hsp)) hwb)
                    clear hsp
                    have HACC := Lib.hid (hac)
                    clear hn3 hnf hnm hwb c3 c0 c4 hac
                    go_wp2_with (first
                      | (go_at_call 7; refine hct2.mono ?_; rintro e w2 ⟨rfl, hb⟩; (have hb2 := below_al hb; have HB2 := Lib.hid (HB.out.trans (hb2.mono HB.out.size)); have HX2 := Lib.hid (Blk.below (HX.out.alloc _) hb (Nat.lt_of_lt_of_le HX.out.lt (by simp))); have hx2 := HX2.out.cell 0; have hy2 := (Blk.below HY.out hb HY.out.lt).cell 0; have hl2 := HX2.out.lt; simp at hx2 hy2; clear hb hb2 hct2)))
                    all_goals
                      go_roundw
                      case rel => exact ⟨k + 1, by have := HKN.out; omega, by go_num, (congrArg Value.string HACC.out).symm, HX2, HB2⟩
                      case measure => have := HKN.out; simp [intOf]; omega
        · obtain rfl : k = l.length := by omega
          rw [List.take_of_length_le (Nat.le_refl _)]
          have hto := HT.out
          generalize accB k0 (ctL k0 l) = out at *
          have HTO := Lib.hid hto
          clear hto
          go_wp2_with fail
          go_ret
          exact ⟨ret_str HTO.out, HB.out⟩

theorem rc_all (W : World) (N : Nat) : ∀ c : Cd, blk c ≤ N → N ≤ 1048576 → shp c → RcOk W c := by
  induction N with
  | zero => intro c h _; have := blk_pos c; omega
  | succ N ih =>
    intro c h hN hs
    refine rc_step W c (by omega) hs fun y hy => ?_
    obtain ⟨k, n, v, l⟩ := c
    have h1 : blk y ≤ blkL l := blkL_mem y hy
    simp only [blk] at h
    unfold shp at hs
    exact ih y (by omega) (by omega) (shpL_mem hs.2 y hy)

end Go.Proofs.Ytonbnfaleboobaa.Pr
