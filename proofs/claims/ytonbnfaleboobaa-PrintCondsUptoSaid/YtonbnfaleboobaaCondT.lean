/- print.condText at every condition whose Nots have a kid. -/
import Derived.Test.YtonbnfaleboobaaWithin
import Derived.Deep.RegionHeld3
namespace Go.Proofs.Ytonbnfaleboobaa.Pr
set_option linter.unusedVariables false
set_option linter.unusedSimpArgs false
open Go.RowKit Mem Quo Go.Proofs.Ytonbnfaleboobaa.PPrintConds Go.Proofs.YtonbnfaleboobaaW.PrintWords Go.Proofs.YtonbnfaleboobaaW.PrintLast Go.Proofs.YtonbnfaleboobaaW.PrintMore

def strs (l : List ByteArray) : List Value := l.map Value.string
theorem own_cell {w : World} {base : Nat} {e : TypeId} {size g n cap : Nat} {xs : List Value} (h : w.ownsRow base e size (.slice (some ⟨g, 0, none⟩) n cap) n xs) {j : Nat} {u : Value} (hu : xs[j]? = some u) : w.cell? ⟨g, j, none⟩ = some u := by
  have := h.cells (g := g) rfl j u hu
  have hadd : (⟨g, 0, none⟩ : Addr).add j = ⟨g, j, none⟩ := by unfold Addr.add; split <;> simp_all
  rwa [hadd] at this
theorem own_capl {w : World} {base : Nat} {e : TypeId} {size g n cap : Nat} {xs : List Value} (h : w.ownsRow base e size (.slice (some ⟨g, 0, none⟩) n cap) n xs) : n ≤ cap ∧ cap ≤ maxLen ∧ g < w.heap.size := by
  rcases h.2 with ⟨h1, _⟩ | ⟨g', cap', cur, h1, hb, hh, hn, hm, _⟩
  · cases h1
  · injection h1 with h1 _ h2
    injection h1 with h1
    injection h1 with h1
    subst h1 h2
    exact ⟨hn, hm, Blk.lt (t := e) hh⟩
theorem strs_append (a b : List ByteArray) : strs (a ++ b) = strs a ++ strs b := by simp [strs]
theorem strs_len (l : List ByteArray) : (strs l).length = l.length := by simp [strs]
theorem ints5 : ints [5] = #[.int .i64 5] := rfl
theorem ints45 : ints [4, 5] = #[.int .i64 4, .int .i64 5] := rfl
theorem infoStr : (Try.prog.info? 9).map (fun i => (i.zero, i.size, i.bytes)) = some (some (.string ⟨#[]⟩), 1, 16) := by kernel_rfl

/-- What condText answers at a condition that is read. -/
def CtOk (W : World) (c : Cd) : Prop := ∀ (A : Option Addr) (cp : Nat), c.f3.length ≤ cp → Kd.C k24 W A c.f3.length c.f3 → ∀ w, Below W.heap.size W w →
  Calls Try.prog 10 #[.agg #[.int .i64 c.f0, .string c.f1, .string c.f2, .slice A c.f3.length cp]] w fun e w' => e = .returned (.string (ctB c)) ∧ Below w.heap.size w w'

theorem getD_lt {α : Type} {l : List α} {i : Nat} (h : i < l.length) (d : α) : l.getD i d = l[i] := by simp [List.getD, h]

set_option maxHeartbeats 4000000 in
set_option maxRecDepth 100000 in
theorem ct_step (W : World) (c : Cd) (hb : blk c ≤ 1048576) (hs : shp c) (ih : ∀ y, y ∈ c.f3 → CtOk W y) : CtOk W c := by
  obtain ⟨k0, n, v, l⟩ := c
  intro A cp hcp hC w hw
  have hsz := ctB_size ⟨k0, n, v, l⟩
  have hlb := len_blkL l
  simp only [blk] at hb hsz
  have HC := Lib.hid hC
  have HW := Lib.hid hw
  have HI := Lib.hid ih
  have hll : l.length ≤ 1048576 := by omega
  obtain ⟨i0, hi, hz0, hz1, hz2⟩ := info_parts infoStr
  have HB0 := Lib.hid (below_a1 w (.cells #[.int .i64 k0, .string n, .string v, .slice A l.length cp] 24))
  have HX0 : Hid (Blk (w.alloc (.cells #[.int .i64 k0, .string n, .string v, .slice A l.length cp] 24)) w.heap.size 24 #[.int .i64 k0, .string n, .string v, .slice A l.length cp]) := Blk.new _ _ _
  have HO0 := Lib.hid (World.ownsRow_nil (w.alloc (.cells #[.int .i64 k0, .string n, .string v, .slice A l.length cp] 24)) w.heap.size 9 1)
  clear hC hw ih
  go_enter Try.func10, Try.ntmps10
  go_wp2_with fail
  go_loopw [3, 9] (fun t3 t9 wr => ∃ k : Nat, k ≤ l.length ∧ t9 = .int .i64 k ∧ Hid (wr.ownsRow w.heap.size 9 1 t3 k (strs (ctL k0 (l.take k)))) ∧ Hid (Blk wr w.heap.size 24 #[.int .i64 k0, .string n, .string v, .slice A l.length cp]) ∧ Hid (Below w.heap.size w wr)) (fun _ t9 _ => l.length - (intOf t9).toNat)
  case atStart => exact ⟨0, Nat.zero_le _, rfl, HO0, HX0, HB0⟩
  case round =>
    obtain ⟨k, hk, rfl, HO, HX, HB⟩ := hrel
    by_cases hkn : k < l.length
    · obtain ⟨ad, A3, c3, rfl, g0, g1, g2, g3, q3, qC⟩ := at_T24 HC.out (k : Int) (by omega) (by omega)
      have hmem : rd_T24 l (k : Int) ∈ l := by unfold rd_T24; rw [Int.toNat_natCast, getD_lt (by omega)]; exact List.getElem_mem _
      have hy : l[k] = rd_T24 l (k : Int) := by unfold rd_T24; rw [Int.toNat_natCast, getD_lt (by omega)]
      have hbw := HW.out.trans (HB.out.mono HW.out.size)
      have hct := HI.out _ hmem A3 c3 q3 qC
      have g0 := (hbw.cell (World.block_lt_of_cell? W _ g0)).trans g0
      have g1 := (hbw.cell (World.block_lt_of_cell? W _ g1)).trans g1
      have g2 := (hbw.cell (World.block_lt_of_cell? W _ g2)).trans g2
      have g3 := (hbw.cell (World.block_lt_of_cell? W _ g3)).trans g3
      rw [Int.toNat_natCast] at g0 g1 g2 g3
      have htk := ctL_take k0 l k hkn
      have hsy := ctB_size (rd_T24 l (k : Int))
      have hby := blkL_mem _ hmem
      rw [hy] at htk
      generalize rd_T24 l (k : Int) = y at *
      have x0 := HX.out.cell 0
      simp at x0
      have hxl := HX.out.lt
      have HCW : Hid (∀ w1, Below wr.heap.size wr w1 → Calls Try.prog 10 #[.agg #[.int .i64 y.f0, .string y.f1, .string y.f2, .slice A3 y.f3.length c3]] w1 fun e w' => e = .returned (.string (ctB y)) ∧ Below w1.heap.size w1 w') := fun w1 h1 => hct w1 (hbw.trans (h1.mono hbw.size))
      have HTK := Lib.hid htk
      have hts : (ctB y).size ≤ 1000000000 := by omega
      have HKN := Lib.hid hkn
      clear hct htk hsy hby hmem hy q3 qC hbw
      by_cases h5 : k0 = 5
      · have hwb : wB k0 y.f0 (ctB y) = if y.f0 ∈ [(5 : Int)] then paren (ctB y) else ctB y := by unfold wB kindsOf; rw [if_pos h5]
        have HWB := Lib.hid hwb
        have e5 : (k0 == 5) = true := by simpa using h5
        clear hwb h5
        go_wp2_with (first
          | (go_at_call 15; refine (within_any _ y.f0 y.f1 y.f2 A3 y.f3.length c3 [5] _ (ctB y) (Blk.last _ _ _ (by simp)) (by decide) hts (fun w1 h1 => HCW.out w1 (below_al (below_al h1)))).mono ?_; rintro e w2 ⟨he, hb⟩; (rw [← HWB.out] at he; subst he; have hb2 := below_al (below_al hb); have HO2 := Lib.hid (pw_own_below HO.out hb2); have HX2 := Lib.hid (Blk.below HX.out hb2 HX.out.lt); have HB2 := Lib.hid (HB.out.trans (hb2.mono HB.out.size)); clear hb hb2))
          | (at_builtin; refine wpList_append_own _ rfl _ _ 32 rfl w.heap.size 9 i0 (.string ⟨#[]⟩) 1 16 Try.underlying32 hi hz0 hz1 hz2 rfl (by decide) _ _ _ rfl (HO2.out.alloc _) ⟨w2.heap.size, 0, none⟩ 1 1 [.string (wB k0 y.f0 (ctB y))] rfl rfl ?c1 ?c2 ?c3 ?c4 ?c5 ?_))
        case c1 =>
          intro j u hj
          match j, hj with
          | 0, hj => simp at hj; subst hj; simp [Addr.add]
        case c2 => intro u hu; simp at hu; subst hu; rfl
        case c3 => unfold maxLen; omega
        case c4 => omega
        case c5 => have := HB2.out.size; simp; omega
        intro v' w3 hown' hgrow _
        have HO3 := Lib.hid hown'
        have HX3 := Lib.hid ((HX2.out.alloc _).grown hgrow (fun e => own_blk_ne HO2.out HX2.out (by decide) e.symm))
        have HB3 := Lib.hid ((HB2.out.alloc HB2.out.size _).grown hgrow (by have := HB2.out.size; simp; omega) (fun q hq => (HO2.out.lt q hq).1))
        have x3 := HX3.out.cell 0
        simp at x3
        clear hown' hgrow
        go_wp2_with fail
        go_roundw
        case rel => exact ⟨k + 1, by have := HKN.out; omega, by go_num, by rw [HTK.out, strs_append]; exact HO3, HX3, HB3⟩
        case measure => have := HKN.out; simp [intOf]; omega
      · have hwb : wB k0 y.f0 (ctB y) = if y.f0 ∈ [(4 : Int), 5] then paren (ctB y) else ctB y := by unfold wB kindsOf; rw [if_neg h5]
        have HWB := Lib.hid hwb
        have e5 : (k0 == 5) = false := by simpa using h5
        clear hwb h5
        go_wp2_with (first
          | (go_at_call 15; refine (within_any _ y.f0 y.f1 y.f2 A3 y.f3.length c3 [4, 5] _ (ctB y) (Blk.last _ _ _ (by simp)) (by decide) hts (fun w1 h1 => HCW.out w1 (below_al (below_al h1)))).mono ?_; rintro e w2 ⟨he, hb⟩; (rw [← HWB.out] at he; subst he; have hb2 := below_al (below_al hb); have HO2 := Lib.hid (pw_own_below HO.out hb2); have HX2 := Lib.hid (Blk.below HX.out hb2 HX.out.lt); have HB2 := Lib.hid (HB.out.trans (hb2.mono HB.out.size)); clear hb hb2))
          | (at_builtin; refine wpList_append_own _ rfl _ _ 32 rfl w.heap.size 9 i0 (.string ⟨#[]⟩) 1 16 Try.underlying32 hi hz0 hz1 hz2 rfl (by decide) _ _ _ rfl (HO2.out.alloc _) ⟨w2.heap.size, 0, none⟩ 1 1 [.string (wB k0 y.f0 (ctB y))] rfl rfl ?c1 ?c2 ?c3 ?c4 ?c5 ?_))
        case c1 =>
          intro j u hj
          match j, hj with
          | 0, hj => simp at hj; subst hj; simp [Addr.add]
        case c2 => intro u hu; simp at hu; subst hu; rfl
        case c3 => unfold maxLen; omega
        case c4 => omega
        case c5 => have := HB2.out.size; simp; omega
        intro v' w3 hown' hgrow _
        have HO3 := Lib.hid hown'
        have HX3 := Lib.hid ((HX2.out.alloc _).grown hgrow (fun e => own_blk_ne HO2.out HX2.out (by decide) e.symm))
        have HB3 := Lib.hid ((HB2.out.alloc HB2.out.size _).grown hgrow (by have := HB2.out.size; simp; omega) (fun q hq => (HO2.out.lt q hq).1))
        have x3 := HX3.out.cell 0
        simp at x3
        clear hown' hgrow
        go_wp2_with fail
        go_roundw
        case rel => exact ⟨k + 1, by have := HKN.out; omega, by go_num, by rw [HTK.out, strs_append]; exact HO3, HX3, HB3⟩
        case measure => have := HKN.out; simp [intOf]; omega
    · obtain rfl : k = l.length := by omega
      rw [List.take_of_length_le (Nat.le_refl _)] at HO
      have x0 := HX.out.cell 0
      have x1 := HX.out.cell 1
      have x2 := HX.out.cell 2
      simp at x0 x1 x2
      have hxl := HX.out.lt
      have htl := ctL_size k0 l
      rw [ctL_len] at htl
      by_cases h1 : k0 = 1
      · subst h1
        have hq := quot_size v
        have hl : (⟨#[32, 61, 32]⟩ : ByteArray).size ≤ 4 := by decide
        have hs1 : ¬ 9223372036854775807 < (n ++ (⟨#[32, 61, 32]⟩ : ByteArray)).size + (quot v).size := by rw [ByteArray.size_append]; omega
        have hs2 : ¬ 9223372036854775807 < n.size + (⟨#[32, 61, 32]⟩ : ByteArray).size + (quot v).size := by omega
        have hs3 : ¬ 9223372036854775807 < n.size + 3 := by omega
        have hs4 : ¬ 9223372036854775807 < n.size + 3 + (quot v).size := by omega
        have hs5 : ¬ 9223372036854775807 < n.size + (⟨#[32, 61, 32]⟩ : ByteArray).size := by omega
        clear hq hl
        go_wp2_with fail
        go_region_held3 (fun w' => w'.cell? ⟨w.heap.size, 1, none⟩ = some (.string n) ∧ w'.cell? ⟨w.heap.size, 2, none⟩ = some (.string v)) (first | exact ⟨b1, b2⟩ | go_keep)
          (first
            | (go_at_call 16; refine (quoted_any v _ (by omega)).mono ?_; rintro e w2 ⟨rfl, hb⟩; (have HB2 := Lib.hid (HB.out.trans ((below_drew (Below.refl _ _)).trans (hb.mono (Nat.le_refl _)) |>.mono HB.out.size)); have hx := Blk.below (Blk.drew HX.out) hb HX.out.lt; have b1 := hx.cell 1; have b2 := hx.cell 2; simp at b1 b2; clear hb hx)))
        all_goals
          all_goals
            go_wp2_with fail
            go_ret
            exact ⟨ret_str (by simp [ctB, topB]), HB2.out⟩
      · by_cases h2 : k0 = 2
        · subst h2
          have hq := quot_size v
          have hl : (⟨#[32, 33, 61, 32]⟩ : ByteArray).size ≤ 4 := by decide
          have hs1 : ¬ 9223372036854775807 < (n ++ (⟨#[32, 33, 61, 32]⟩ : ByteArray)).size + (quot v).size := by rw [ByteArray.size_append]; omega
          have hs2 : ¬ 9223372036854775807 < n.size + (⟨#[32, 33, 61, 32]⟩ : ByteArray).size + (quot v).size := by omega
          have hs3 : ¬ 9223372036854775807 < n.size + 4 := by omega
          have hs4 : ¬ 9223372036854775807 < n.size + 4 + (quot v).size := by omega
          have hs5 : ¬ 9223372036854775807 < n.size + (⟨#[32, 33, 61, 32]⟩ : ByteArray).size := by omega
          clear hq hl
          go_wp2_with fail
          go_region_held3 (fun w' => w'.cell? ⟨w.heap.size, 1, none⟩ = some (.string n) ∧ w'.cell? ⟨w.heap.size, 2, none⟩ = some (.string v)) (first | exact ⟨b1, b2⟩ | go_keep)
            (first
              | (go_at_call 16; refine (quoted_any v _ (by omega)).mono ?_; rintro e w2 ⟨rfl, hb⟩; (have HB2 := Lib.hid (HB.out.trans ((below_drew (Below.refl _ _)).trans (hb.mono (Nat.le_refl _)) |>.mono HB.out.size)); have hx := Blk.below (Blk.drew HX.out) hb HX.out.lt; have b1 := hx.cell 1; have b2 := hx.cell 2; simp at b1 b2; clear hb hx)))
          all_goals
            go_wp2_with fail
            go_ret
            exact ⟨ret_str (by simp [ctB, topB]), HB2.out⟩
        · have e1 : (k0 == 1) = false := by simpa using h1
          have e2 : (k0 == 2) = false := by simpa using h2
          by_cases h3 : k0 = 3
          · subst h3
            have hnn : l ≠ [] := by unfold shp at hs; intro c; have h9 : l.length = 1 := hs.1 rfl; subst c; exact absurd h9 (by decide)
            have hl0 : 0 < l.length := List.length_pos_iff.2 hnn
            obtain ⟨g, cap, hsl⟩ := own_form HO.out hl0
            subst hsl
            obtain ⟨c0, l0, rfl⟩ : ∃ c0 l0, l = c0 :: l0 := by cases l with | nil => exact (hnn rfl).elim | cons a b => exact ⟨a, b, rfl⟩
            obtain ⟨hc1, hc2, hc3⟩ := own_capl HO.out
            have q0 := own_cell HO.out (j := 0) (u := .string (wB 3 c0.f0 (ctB c0))) (by simp [ctL, strs])
            have hq1 : ¬ 9223372036854775807 < (⟨#[33]⟩ : ByteArray).size + (wB 3 c0.f0 (ctB c0)).size := by
              have a1 := wB_size 3 c0.f0 (ctB c0)
              have a2 := ctB_size c0
              simp only [blkL] at hb
              have a3 : (⟨#[33]⟩ : ByteArray).size = 1 := rfl
              omega
            have HCTB : Hid (⟨#[33]⟩ ++ wB 3 c0.f0 (ctB c0) = ctB ⟨3, n, v, c0 :: l0⟩) := by unfold Hid; simp [ctB, topB, ctL, hdB]
            clear hnn hs hsz htl hlb
            go_wp2_with fail
            go_ret
            exact ⟨ret_str HCTB.out, HB.out⟩
          · have e3 : (k0 == 3) = false := by simpa using h3
            by_cases h4 : k0 = 4
            · have e4 : (k0 == 4) = true := by simpa using h4
              have hjs := joinB_size (ctL k0 l) ⟨#[32, 38, 32]⟩
              rw [show (⟨#[32, 38, 32]⟩ : ByteArray).size = 3 from rfl, ctL_len] at hjs
              have hct : joinB (ctL k0 l) ⟨#[32, 38, 32]⟩ = ctB ⟨k0, n, v, l⟩ := by simp [ctB, topB, h1, h2, h3, h4]
              have HCTB := Lib.hid hct
              by_cases hl0 : l.length = 0
              · have hnil : l = [] := List.eq_nil_of_length_eq_zero hl0
                obtain ⟨Ap, cap, hsl⟩ := own_slice HO.out
                subst hsl
                subst hnil
                have hj := Try.strings_Join_none Ap cap ⟨#[32, 38, 32]⟩ wr
                clear hct h1 h2 h3 h4 hl0 hjs htl hlb
                go_wp2_with (first
                  | (go_at_call 17; refine hj.mono ?_; rintro e w2 ⟨rfl, rfl⟩))
                go_ret
                exact ⟨ret_str (by rw [← HCTB.out]; rfl), HB.out⟩
              · obtain ⟨g, cap, hsl⟩ := own_form HO.out (by omega)
                subst hsl
                obtain ⟨hc1, hc2, hc3⟩ := own_capl HO.out
                have hj := Try.strings_Join g 0 cap (ctL k0 l) ⟨#[32, 38, 32]⟩ wr (fun j x hx => by rw [Nat.zero_add]; exact own_cell HO.out (by simp [strs, hx])) hc3 (by rw [ctL_len]; omega) (by rw [ctL_len]; omega) (by omega)
                rw [ctL_len] at hj
                clear hct h1 h2 h3 h4 hl0 hjs htl hlb hc1 hc2
                go_wp2_with (first
                  | (go_at_call 17; refine hj.mono ?_; rintro e w2 ⟨rfl, hb⟩; (have HB2 := Lib.hid (HB.out.trans (hb.mono HB.out.size)); clear hb hj)))
                go_ret
                exact ⟨ret_str HCTB.out, HB2.out⟩
            · have e4 : (k0 == 4) = false := by simpa using h4
              have hjs := joinB_size (ctL k0 l) ⟨#[32, 124, 32]⟩
              rw [show (⟨#[32, 124, 32]⟩ : ByteArray).size = 3 from rfl, ctL_len] at hjs
              have hct : joinB (ctL k0 l) ⟨#[32, 124, 32]⟩ = ctB ⟨k0, n, v, l⟩ := by simp [ctB, topB, h1, h2, h3, h4]
              have HCTB := Lib.hid hct
              by_cases hl0 : l.length = 0
              · have hnil : l = [] := List.eq_nil_of_length_eq_zero hl0
                obtain ⟨Ap, cap, hsl⟩ := own_slice HO.out
                subst hsl
                subst hnil
                have hj := Try.strings_Join_none Ap cap ⟨#[32, 124, 32]⟩ wr
                clear hct h1 h2 h3 h4 hl0 hjs htl hlb
                go_wp2_with (first
                  | (go_at_call 17; refine hj.mono ?_; rintro e w2 ⟨rfl, rfl⟩))
                go_ret
                exact ⟨ret_str (by rw [← HCTB.out]; rfl), HB.out⟩
              · obtain ⟨g, cap, hsl⟩ := own_form HO.out (by omega)
                subst hsl
                obtain ⟨hc1, hc2, hc3⟩ := own_capl HO.out
                have hj := Try.strings_Join g 0 cap (ctL k0 l) ⟨#[32, 124, 32]⟩ wr (fun j x hx => by rw [Nat.zero_add]; exact own_cell HO.out (by simp [strs, hx])) hc3 (by rw [ctL_len]; omega) (by rw [ctL_len]; omega) (by omega)
                rw [ctL_len] at hj
                clear hct h1 h2 h3 h4 hl0 hjs htl hlb hc1 hc2
                go_wp2_with (first
                  | (go_at_call 17; refine hj.mono ?_; rintro e w2 ⟨rfl, hb⟩; (have HB2 := Lib.hid (HB.out.trans (hb.mono HB.out.size)); clear hb hj)))
                go_ret
                exact ⟨ret_str HCTB.out, HB2.out⟩

theorem ct_all (W : World) (N : Nat) : ∀ c : Cd, blk c ≤ N → N ≤ 1048576 → shp c → CtOk W c := by
  induction N with
  | zero => intro c h _; have := blk_pos c; omega
  | succ N ih =>
    intro c h hN hs
    refine ct_step W c (by omega) hs fun y hy => ?_
    obtain ⟨k, n, v, l⟩ := c
    have h1 : blk y ≤ blkL l := blkL_mem y hy
    simp only [blk] at h
    unfold shp at hs
    exact ih y (by omega) (by omega) (shpL_mem hs.2 y hy)

end Go.Proofs.Ytonbnfaleboobaa.Pr
