/- print.Cond, the example, and the law's walk. -/
import Derived.Test.YtonbnfaleboobaaRcond
import Derived.Test.YtonbnfaleboobaaRt
import Derived.Deep.RegionHeld3
namespace Go.Proofs.Ytonbnfaleboobaa.Pr
set_option linter.unusedVariables false
set_option linter.unusedSimpArgs false
open Go.RowKit Mem Quo Go.Proofs.Ytonbnfaleboobaa.PPrintConds Go.Proofs.YtonbnfaleboobaaW.PrintWords Go.Proofs.YtonbnfaleboobaaW.PrintLast Go.Proofs.YtonbnfaleboobaaW.PrintMore

def condS (c : Cd) : ByteArray := if rightB 20 c = true then ctB c else ⟨#[]⟩

theorem condRight_c (W : World) (c : Cd) (hb : blk c ≤ 1048576) (A : Option Addr) (cp : Nat) (hcp : c.f3.length ≤ cp) (hC : Kd.C k24 W A c.f3.length c.f3) (w : World) (hw : Below W.heap.size W w) :
    Calls Try.prog 9 #[.agg #[.int .i64 c.f0, .string c.f1, .string c.f2, .slice A c.f3.length cp]] w fun e w' => e = .returned (.bool (rightB 20 c)) ∧ Below w.heap.size w w' := by
  have h : Fac.Ev (fun q => cond_Right.f q c.f0 c.f1 c.f2 c.f3) (rightB 20 c) := by
    refine (Fac.Ev.bind (g := fun q t => some t) (cright_ev 1048576 c 20 hb (Nat.le_refl _) (Nat.le_refl _)) (Fac.Ev.ret _)).congr fun q => ?_
    rfl
  obtain ⟨k, hk⟩ := h.get
  exact cond_Right.calls k c.f0 c.f1 c.f2 A cp c.f3 _ w (Kd.C_below hC hw) hcp hk

set_option maxHeartbeats 1000000 in
set_option maxRecDepth 100000 in
theorem cond_any (W : World) (c : Cd) (hb : blk c ≤ 1048576) (A : Option Addr) (cp : Nat) (hcp : c.f3.length ≤ cp) (hC : Kd.C k24 W A c.f3.length c.f3) (w : World) (hw : Below W.heap.size W w) :
    Calls Try.prog 6 #[.agg #[.int .i64 c.f0, .string c.f1, .string c.f2, .slice A c.f3.length cp]] w fun e w' => e = .returned (.string (condS c)) ∧ Below w.heap.size w w' := by
  have HW := Lib.hid hw
  have HC := Lib.hid hC
  have HX : Hid (Blk (w.alloc (.cells #[.int .i64 c.f0, .string c.f1, .string c.f2, .slice A c.f3.length cp] 24)) w.heap.size 24 #[.int .i64 c.f0, .string c.f1, .string c.f2, .slice A c.f3.length cp]) := Blk.new _ _ _
  have HB := Lib.hid (below_a1 w (.cells #[.int .i64 c.f0, .string c.f1, .string c.f2, .slice A c.f3.length cp] 24))
  have hr := condRight_c W c hb A cp hcp hC _ (hw.trans (HB.out.mono hw.size))
  cases hb2 : rightB 20 c with
  | true =>
    have hct := ct_all W 1048576 c hb (Nat.le_refl _) (shp_of_right 20 c hb2) A cp hcp hC
    have HCT := Lib.hid hct
    have HS : Hid (ctB c = condS c) := by unfold Hid condS; rw [if_pos hb2]
    rw [hb2] at hr
    clear hct hw hC hb2
    go_enter Try.func6, Try.ntmps6
    go_wp2_with (first
      | (go_at_call 9; refine hr.mono ?_; rintro e w2 ⟨rfl, hb⟩; (have HB2 := Lib.hid (HB.out.trans (hb.mono HB.out.size)); have hx := Blk.below HX.out hb HX.out.lt; have b0 := hx.cell 0; have b1 := hx.cell 1; have b2 := hx.cell 2; have b3 := hx.cell 3; simp at b0 b1 b2 b3; have hct := HCT.out w2 (HW.out.trans (HB2.out.mono HW.out.size)); clear hb hx hr))
      | (go_at_call 10; refine hct.mono ?_; rintro e w3 ⟨rfl, hb⟩; (have HB3 := Lib.hid (HB2.out.trans (hb.mono HB2.out.size)); clear hb hct)))
    go_ret
    exact ⟨ret_str HS.out, HB3.out⟩
  | false =>
    have HS : Hid ((⟨#[]⟩ : ByteArray) = condS c) := by unfold Hid condS; rw [if_neg (by rw [hb2]; decide)]
    rw [hb2] at hr
    clear hw hC hb2
    go_enter Try.func6, Try.ntmps6
    go_wp2_with (first
      | (go_at_call 9; refine hr.mono ?_; rintro e w2 ⟨rfl, hb⟩; (have HB2 := Lib.hid (HB.out.trans (hb.mono HB.out.size)); clear hb hr)))
    go_ret
    exact ⟨ret_str HS.out, HB2.out⟩

theorem seg4 {a b : List Value} (i : Nat) (h : i < b.length) : (a ++ b)[a.length + i]? = b[i]? := by
  rw [List.getElem?_append_right (by omega)]
  congr 1
  omega
theorem crow1 {w : World} {g : Nat} {cs : List Value} {x : Cd} (h : Blk w g 24 cs.toArray) (hx : k24.K w x cs) : Kd.C k24 w (some ⟨g, 0, none⟩) 1 [x] := by
  refine ⟨rfl, by omega, fun _ => ⟨_, rfl, fun j p hp => ?_⟩⟩
  have hl := Kd.K_len _ hx
  cases j with
  | succ j => simp at hp
  | zero =>
    simp at hp
    subst hp
    refine ⟨cs, hl, hx, fun i u hu => ?_⟩
    have hadd : (⟨g, 0, none⟩ : Addr).add (0 * k24.sz + i) = ⟨g, i, none⟩ := by unfold Addr.add; split <;> simp_all
    rw [hadd, h.cell]
    simpa using hu
theorem crow2 {w : World} {g : Nat} {cs ds : List Value} {x y : Cd} (h : Blk w g 24 (cs ++ ds).toArray) (hx : k24.K w x cs) (hy : k24.K w y ds) : Kd.C k24 w (some ⟨g, 0, none⟩) 2 [x, y] := by
  refine ⟨rfl, by omega, fun _ => ⟨_, rfl, fun j p hp => ?_⟩⟩
  have hl := Kd.K_len _ hx
  have hl2 := Kd.K_len _ hy
  have hsz : k24.sz = 4 := rfl
  rw [hsz] at hl hl2
  rcases j with _ | _ | j
  · simp at hp
    subst hp
    refine ⟨cs, hl, hx, fun i u hu => ?_⟩
    have hadd : (⟨g, 0, none⟩ : Addr).add (0 * k24.sz + i) = ⟨g, i, none⟩ := by unfold Addr.add; split <;> simp_all
    rw [hadd, h.cell]
    have := (List.getElem?_eq_some_iff.1 hu).1
    rw [← hu]
    simp [List.getElem?_append_left this]
  · simp at hp
    subst hp
    refine ⟨ds, hl2, hy, fun i u hu => ?_⟩
    have hadd : (⟨g, 0, none⟩ : Addr).add ((0 + 1) * k24.sz + i) = ⟨g, 4 + i, none⟩ := by rw [hsz]; unfold Addr.add; split <;> simp_all
    rw [hadd, h.cell]
    have := (List.getElem?_eq_some_iff.1 hu).1
    rw [← hu, show 4 + i = cs.length + i by omega]
    simp
    exact seg4 i (by omega)
  · simp at hp

def exA : Cd := ⟨1, ⟨#[97]⟩, ⟨#[49]⟩, []⟩
def exB : Cd := ⟨2, ⟨#[98]⟩, ⟨#[50]⟩, []⟩
def exO : Cd := ⟨5, ⟨#[]⟩, ⟨#[]⟩, [exA, exB]⟩
def exN : Cd := ⟨3, ⟨#[]⟩, ⟨#[]⟩, [exO]⟩
theorem exN_right : rightB 20 exN = true := by decide +kernel
theorem exN_blk : blk exN ≤ 1048576 := by
  have : ∀ (a : UInt8), (⟨#[a]⟩ : ByteArray).size = 1 := fun _ => rfl
  have h0 : (⟨#[]⟩ : ByteArray).size = 0 := rfl
  simp [exN, exO, exA, exB, blk, blkL, this, h0]
theorem exN_text : condS exN = ⟨#[33, 40, 97, 32, 61, 32, 34, 49, 34, 32, 124, 32, 98, 32, 33, 61, 32, 34, 50, 34, 41]⟩ := by
  unfold condS
  rw [if_pos exN_right]
  have h1 : quot ⟨#[49]⟩ = ⟨#[34, 49, 34]⟩ := by decide +kernel
  have h2 : quot ⟨#[50]⟩ = ⟨#[34, 50, 34]⟩ := by decide +kernel
  simp only [exN, exO, exA, exB, ctB, ctL, topB, h1, h2]
  decide +kernel

def tellW (w : World) : World := ((w.alloc (.cells #[.int .i64 1, .string ⟨#[97]⟩, .string ⟨#[49]⟩, .slice none 0 0, .int .i64 2, .string ⟨#[98]⟩, .string ⟨#[50]⟩, .slice none 0 0] 24)).alloc (.cells #[.int .i64 5, .string ⟨#[]⟩, .string ⟨#[]⟩, .slice (some ⟨w.heap.size, 0, none⟩) 2 2] 24)).alloc (.cells #[.int .i64 5, .string ⟨#[]⟩, .string ⟨#[]⟩, .slice (some ⟨w.heap.size, 0, none⟩) 2 2] 24)
theorem tell_C (w : World) : Kd.C k24 (tellW w) (some ⟨w.heap.size + 2, 0, none⟩) 1 [exO] := by
  have h0 : Blk (tellW w) w.heap.size 24 #[.int .i64 1, .string ⟨#[97]⟩, .string ⟨#[49]⟩, .slice none 0 0, .int .i64 2, .string ⟨#[98]⟩, .string ⟨#[50]⟩, .slice none 0 0] := ((Blk.new _ _ _).alloc _).alloc _
  have h2 : Blk (tellW w) (w.heap.size + 2) 24 #[.int .i64 5, .string ⟨#[]⟩, .string ⟨#[]⟩, .slice (some ⟨w.heap.size, 0, none⟩) 2 2] := Blk.last _ _ _ (by simp)
  have hA : k24.K (tellW w) exA [.int .i64 1, .string ⟨#[97]⟩, .string ⟨#[49]⟩, .slice none 0 0] := k24_mk _ exA (Nat.le_refl 0) (Kd.C_nil _ _)
  have hB : k24.K (tellW w) exB [.int .i64 2, .string ⟨#[98]⟩, .string ⟨#[50]⟩, .slice none 0 0] := k24_mk _ exB (Nat.le_refl 0) (Kd.C_nil _ _)
  have hO : k24.K (tellW w) exO [.int .i64 5, .string ⟨#[]⟩, .string ⟨#[]⟩, .slice (some ⟨w.heap.size, 0, none⟩) 2 2] := k24_mk _ exO (Nat.le_refl 2) (crow2 h0 hA hB)
  exact crow1 h2 hO
theorem tell_below (w : World) : Below w.heap.size w (tellW w) := (((Below.refl _ _).alloc (Nat.le_refl _) _).alloc (by simp) _).alloc (by simp; omega) _

set_option maxHeartbeats 2000000 in
set_option maxRecDepth 100000 in
theorem telling_any (w : World) : Calls Try.prog 4 #[] w fun e w' => e = .returned (.bool true) ∧ Below w.heap.size w w' := by
  have hc := cond_any (tellW w) exN exN_blk _ 1 (Nat.le_refl 1) (tell_C w) (tellW w) (Below.refl _ _)
  rw [exN_text] at hc
  have HB := Lib.hid (tell_below w)
  unfold tellW at hc HB
  go_enter Try.func4, Try.ntmps4
  go_wp2_with (first
    | (go_at_call 6; refine hc.mono ?_; rintro e w2 ⟨rfl, hb⟩; (have HB2 := Lib.hid (HB.out.trans (hb.mono (by simp; omega))); clear hb hc)))
  go_ret
  exact ⟨rfl, HB2.out⟩

theorem rcond_any (W : World) (c : Cd) (hb : blk c ≤ 1048576) (hr : rightB 20 c = true) (A : Option Addr) (cp : Nat) (hcp : c.f3.length ≤ cp) (hC : Kd.C k24 W A c.f3.length c.f3) (w : World) (hw : Below W.heap.size W w) :
    Calls Try.prog 7 #[.agg #[.int .i64 c.f0, .string c.f1, .string c.f2, .slice A c.f3.length cp]] w fun e w' => e = .returned (.string (condS c)) ∧ Below w.heap.size w w' := by
  have h := rc_all W 1048576 c hb (Nat.le_refl _) (shp_of_right 20 c hr) A cp hcp hC w hw
  have e : ctB c = condS c := by unfold condS; rw [if_pos hr]
  rw [e] at h
  exact h

set_option maxHeartbeats 2000000 in
set_option maxRecDepth 100000 in
theorem conds_walk (c : Cd) (W : World) (cs : List Value) (hK : k24.K W c cs) (hb : blk c ≤ 1048576) :
    Calls Try.prog 3 #[.agg cs.toArray] W fun e w' => e = .returned (.bool true) ∧ Below W.heap.size W w' := by
  obtain ⟨A, cp, rfl, hcp, hC⟩ := k24_open hK
  have HX0 : Hid (Blk (W.alloc (.cells #[.int .i64 c.f0, .string c.f1, .string c.f2, .slice A c.f3.length cp] 24)) W.heap.size 24 #[.int .i64 c.f0, .string c.f1, .string c.f2, .slice A c.f3.length cp]) := Blk.new _ _ _
  have HB0 := Lib.hid (below_a1 W (.cells #[.int .i64 c.f0, .string c.f1, .string c.f2, .slice A c.f3.length cp] 24))
  have htl := telling_any (W.alloc (.cells #[.int .i64 c.f0, .string c.f1, .string c.f2, .slice A c.f3.length cp] 24))
  obtain ⟨kr, hkr⟩ := (rright_ev 1048576 c 20 hb (Nat.le_refl _) (Nat.le_refl _)).get
  have HR : Hid (∀ w1, Below W.heap.size W w1 → Calls Try.prog 5 #[.agg #[.int .i64 c.f0, .string c.f1, .string c.f2, .slice A c.f3.length cp], .int .i64 20] w1 fun e w' => e = .returned (.bool (rightB 20 c)) ∧ Below w1.heap.size w1 w') := fun w1 hb1 =>
    colloquyref12_Right.calls kr c.f0 c.f1 c.f2 A cp c.f3 20 _ w1 (Kd.C_below hC hb1) hcp hkr
  have HP : Hid (∀ w1, Below W.heap.size W w1 → Calls Try.prog 6 #[.agg #[.int .i64 c.f0, .string c.f1, .string c.f2, .slice A c.f3.length cp]] w1 fun e w' => e = .returned (.string (condS c)) ∧ Below w1.heap.size w1 w') := fun w1 hb1 => cond_any W c hb A cp hcp hC w1 hb1
  cases hr : rightB 20 c with
  | true =>
    have HQ : Hid (∀ w1, Below W.heap.size W w1 → Calls Try.prog 7 #[.agg #[.int .i64 c.f0, .string c.f1, .string c.f2, .slice A c.f3.length cp]] w1 fun e w' => e = .returned (.string (condS c)) ∧ Below w1.heap.size w1 w') := fun w1 hb1 => rcond_any W c hb hr A cp hcp hC w1 hb1
    rw [hr] at HR
    generalize condS c = t at *
    clear hr hC hkr hK
    go_enter Try.func3, Try.ntmps3
    go_wp2_with (first
      | (go_at_call 4; refine htl.mono ?_; rintro e w2 ⟨rfl, hb⟩; (have HB2 := Lib.hid (HB0.out.trans (hb.mono HB0.out.size)); have hx := Blk.below HX0.out hb HX0.out.lt; have HX2 := Lib.hid hx; have b0 := hx.cell 0; have b1 := hx.cell 1; have b2 := hx.cell 2; have b3 := hx.cell 3; simp at b0 b1 b2 b3; have hrr := HR.out w2 HB2.out; clear hb hx htl))
      | (go_at_call 5; refine hrr.mono ?_; rintro e w3 ⟨rfl, hb⟩; (have HB3 := Lib.hid (HB2.out.trans (hb.mono HB2.out.size)); have hx := Blk.below HX2.out hb HX2.out.lt; have HX3 := Lib.hid hx; have d0 := hx.cell 0; have d1 := hx.cell 1; have d2 := hx.cell 2; have d3 := hx.cell 3; simp at d0 d1 d2 d3; clear hb hx hrr)))
    have HB3d := Lib.hid (below_drew HB3.out)
    have HX3d := Lib.hid (Blk.drew HX3.out)
    go_region_held3 (fun w' => w'.cell? ⟨W.heap.size, 0, none⟩ = some (.int .i64 c.f0) ∧ w'.cell? ⟨W.heap.size, 1, none⟩ = some (.string c.f1) ∧ w'.cell? ⟨W.heap.size, 2, none⟩ = some (.string c.f2) ∧ w'.cell? ⟨W.heap.size, 3, none⟩ = some (.slice A c.f3.length cp)) (first | exact ⟨f0, f1, f2, f3⟩ | go_keep)
      (first
        | (go_at_call 6; refine (HP.out _ HB3d.out).mono ?_; rintro e w4 ⟨rfl, hb⟩; (have HB4 := Lib.hid (HB3d.out.trans (hb.mono HB3d.out.size)); have hx := Blk.below HX3d.out hb HX3d.out.lt; have HX4 := Lib.hid hx; have f0 := hx.cell 0; have f1 := hx.cell 1; have f2 := hx.cell 2; have f3 := hx.cell 3; simp at f0 f1 f2 f3; clear hb hx))
        | (go_at_call 7; refine (HQ.out _ HB4.out).mono ?_; rintro e w5 ⟨rfl, hb⟩; (have HB5 := Lib.hid (HB4.out.trans (hb.mono HB4.out.size)); have hx := Blk.below HX4.out hb HX4.out.lt; have f0 := hx.cell 0; have f1 := hx.cell 1; have f2 := hx.cell 2; have f3 := hx.cell 3; simp at f0 f1 f2 f3; clear hb hx)))
    all_goals
      go_wp2_with fail
      go_ret
      exact ⟨rfl, HB5.out⟩
  | false =>
    have hs : condS c = ⟨#[]⟩ := by unfold condS; rw [if_neg (by rw [hr]; decide)]
    rw [hs] at HP
    rw [hr] at HR
    clear hr hC hkr hs hK
    go_enter Try.func3, Try.ntmps3
    go_wp2_with (first
      | (go_at_call 4; refine htl.mono ?_; rintro e w2 ⟨rfl, hb⟩; (have HB2 := Lib.hid (HB0.out.trans (hb.mono HB0.out.size)); have hx := Blk.below HX0.out hb HX0.out.lt; have HX2 := Lib.hid hx; have b0 := hx.cell 0; have b1 := hx.cell 1; have b2 := hx.cell 2; have b3 := hx.cell 3; simp at b0 b1 b2 b3; have hrr := HR.out w2 HB2.out; clear hb hx htl))
      | (go_at_call 5; refine hrr.mono ?_; rintro e w3 ⟨rfl, hb⟩; (have HB3 := Lib.hid (HB2.out.trans (hb.mono HB2.out.size)); have hx := Blk.below HX2.out hb HX2.out.lt; have d0 := hx.cell 0; have d1 := hx.cell 1; have d2 := hx.cell 2; have d3 := hx.cell 3; simp at d0 d1 d2 d3; have hp := HP.out w3 HB3.out; clear hb hx hrr))
      | (go_at_call 6; refine hp.mono ?_; rintro e w4 ⟨rfl, hb⟩; (have HB4 := Lib.hid (HB3.out.trans (hb.mono HB3.out.size)); clear hb hp)))
    go_ret
    exact ⟨rfl, HB4.out⟩

end Go.Proofs.Ytonbnfaleboobaa.Pr
