-- PRINTED by print.py (a twelfth state) out of the translation. Not trusted: Lean checks it.
import Derived.Test.YtmhodkkfbbpgaaaPNfax0
namespace Go.Proofs.Ytmhodkkfbbpgaaa.PNfa
open Go.RowKit Go.Proofs.YtmhodkkfbbpgaaaW.PrintWords Go.Proofs.YtmhodkkfbbpgaaaW.PrintLast Go.Proofs.YtmhodkkfbbpgaaaW.PrintMore
attribute [local go_sem] max2_int min2_int max_two min_two max_three min_three max_four min_four   -- for this text's walks alone
set_option linter.unusedVariables false
set_option linter.unusedSimpArgs false

/-! ### colloquyref03_none: function 30 -/
def colloquyref03_none.l0 : Nat → Int → List (List Bool) → Int → Option ((List (List Bool)))
  | 0, _, _, _ => none
  | k + 1, x0, x3, x4 => if x4 < x0 then (if 0 ≤ x0 then (if (x0 : Int).toNat ≤ 281474976710656 then (if x3.length < 5864062014805 then (colloquyref03_none.l0 k x0 (x3 ++ [(List.replicate (x0 : Int).toNat false)]) (wrap64 (x4 + 1))) else (none)) else (none)) else (none)) else (some x3)
def colloquyref03_none.f (k : Nat) (a0 : Int) : Option ((List (List Bool))) := colloquyref03_none.l0 k a0 (([] : List (List Bool))) 0
theorem colloquyref03_none.mono_l : ∀ k, (∀ y0 y1 y2, LeO (colloquyref03_none.l0 k y0 y1 y2) (colloquyref03_none.l0 (k + 1) y0 y1 y2))
  | 0 => fun _ _ _ r h => by simp [colloquyref03_none.l0] at h
  | k + 1 => by
    have ih0 := colloquyref03_none.mono_l k
    · intro y0 y1 y2
      unfold colloquyref03_none.l0
      repeat' first
      | (with_reducible exact ih0 _ _ _)
      | (with_reducible exact LeO.refl _)
      | (with_reducible exact LeO.none _)
      | (with_reducible refine LeO.ite ?_ ?_)
      | (with_reducible refine LeO.bind ?_ (fun _ => ?_))
      | exact ih0 _ _ _
      | exact LeO.none _
      | refine LeO.ite ?_ ?_
      | refine LeO.bind ?_ (fun _ => ?_)
theorem colloquyref03_none.mono : ∀ a0 k, LeO (colloquyref03_none.f k a0) (colloquyref03_none.f (k + 1) a0) := by
  intro a0 k
  have ih0 := colloquyref03_none.mono_l k
  unfold colloquyref03_none.f
  repeat' first
      | (with_reducible exact ih0 _ _ _)
      | (with_reducible exact LeO.refl _)
      | (with_reducible exact LeO.none _)
      | (with_reducible refine LeO.ite ?_ ?_)
      | (with_reducible refine LeO.bind ?_ (fun _ => ?_))
      | exact ih0 _ _ _
      | exact LeO.none _
      | refine LeO.ite ?_ ?_
      | refine LeO.bind ?_ (fun _ => ?_)
set_option maxHeartbeats 8000000 in
set_option maxRecDepth 100000 in
theorem colloquyref03_none.calls (k : Nat) (a0 : Int) (r : List (List Bool)) (w : World) (h : colloquyref03_none.f k a0 = some r) :
    Calls Try.prog 30 #[.int .i64 a0] w fun e w' => ∃ v0_ : Value, e = .returned (v0_) ∧ Kd.S (Kd.slice 4 Kd.bool) 61 w' w.heap.size (fun _ => True) v0_ r ∧ Below w.heap.size w w' := by
  have HB := Aside0.mk (Below.refl w.heap.size w)
  have H : (colloquyref03_none.l0 k a0 (([] : List (List Bool))) 0) = some r := h
  clear h
  obtain ⟨y210, hy210⟩ : ∃ y_ : List (List Bool), y_ = (([] : List (List Bool))) := ⟨_, rfl⟩
  replace H : (colloquyref03_none.l0 k a0 y210 0) = some r := by first | (rw [hy210]; with_reducible exact H) | (have H2_ := (Option.bind_some _ _).symm.trans H; rw [hy210]; with_reducible exact H2_) | (have H2_ := (Option.bind_some _ _).symm.trans H; with_reducible exact H2_) | with_reducible exact H | (rw [hy210]; exact H) | exact H
  have Ny210 := Aside0.mk hy210
  clear hy210
  have H' := Aside0.mk H
  clear H
  go_enter Try.func30, Try.ntmps30
  go_wp2_with (first | ((with_reducible refine gate_dst (N := 5) rfl ?_); refine Kd.S_lit (Kd.slice 4 Kd.bool) _ 61 ?hg (N := 5) ?hd (xs := ([] : List (List Bool))) (inner := []) (ok := fun _ => True) (okp := fun _ => True) ?hr ?hp (fun _ hk => hk) trivial (Below.refl _ _) (Nat.le_refl _) (by simp) ?_; (case hd => rfl); (case hg => rfl); (case hr => first | (go_simp; done) | (go_simp; rfl)); (case hp => exact (Reps.none _ _)); intro v211 w2 ho3 hb hg_ hnew_; clear hg_ hnew_; (first | rw [← Ny210.out] at ho3 | (simp only [Int.reduceToNat] at ho3; rw [← Ny210.out] at ho3)); have n0_ := Aside0.mk (Kd.S_lower ho3 (below_size (by repeat (first | (with_reducible first | exact HB.out | apply below_alloc | apply pw_below_drewN | apply below_drew1) | exact HB.out)))); have n1_ := Aside0.mk (below_step (by repeat (first | (with_reducible first | exact HB.out | apply below_alloc | apply pw_below_drewN | apply below_drew1) | exact HB.out)) hb); clear HB; have HO212 := n0_; have HB := n1_; clear n0_ n1_; clear hb ho3))
  go_loopg [3, 4] k (fun kq v3 v4 w' => ∃ (x3_1 : List (List Bool)) (x4_1 : Int), v4 = .int .i64 x4_1 ∧ Aside0 (colloquyref03_none.l0 kq a0 x3_1 x4_1 = some r) ∧ Aside0 (kq ≤ k) ∧ Aside0 (Kd.S (Kd.slice 4 Kd.bool) 61 w' w.heap.size (fun _ => True) v3 x3_1) ∧ Aside0 (Below w.heap.size w w'))
  case atStart => exact ⟨(y210), (0), (by first | rfl | (simp; done) | (simp [*]; done)), H', ⟨Nat.le_refl _⟩, ⟨by (with_reducible repeat (first | apply Kd.S_alloc | apply Kd.S_drewN | apply Kd.S_drew)); exact HO212.out⟩, ⟨by repeat (first | (with_reducible first | exact HB.out | apply below_alloc | apply pw_below_drewN | apply below_drew1) | exact HB.out)⟩⟩
  case round =>
    clear H'
    try clear p2
    try clear c3
    obtain ⟨x3_1, x4_1, rfl, HA, HK1, HO_3, HB⟩ := hrel
    cases gk with
    | zero => exact absurd HA.out (by simp [colloquyref03_none.l0])
    | succ k1 =>
      have H := HA.out
      clear HA
      simp only [colloquyref03_none.l0] at H
      by_cases c4 : x4_1 < a0
      · rw [if_pos c4] at H
        have c4b0 : decide (x4_1 < a0) = true := decide_eq_true c4
        clear c4
        by_cases c5 : 0 ≤ a0
        · rw [if_pos c5] at H
          have c5b0 := eq_true c5
          have c5b1 : decide (0 ≤ a0) = true := decide_eq_true c5
          clear c5
          by_cases c6 : (a0 : Int).toNat ≤ 281474976710656
          · rw [if_pos c6] at H
            have c6b0 := eq_true c6
            have c6b1 : decide ((a0 : Int).toNat ≤ 281474976710656) = true := decide_eq_true c6
            clear c6
            obtain ⟨y213, hy213⟩ : ∃ y_ : List Bool, y_ = (List.replicate (a0 : Int).toNat false) := ⟨_, rfl⟩
            replace H : (if x3_1.length < 5864062014805 then (colloquyref03_none.l0 k1 a0 (x3_1 ++ [y213]) (wrap64 (x4_1 + 1))) else (none)) = some r := by first | (rw [hy213]; with_reducible exact H) | (have H2_ := (Option.bind_some _ _).symm.trans H; rw [hy213]; with_reducible exact H2_) | (have H2_ := (Option.bind_some _ _).symm.trans H; with_reducible exact H2_) | with_reducible exact H | (rw [hy213]; exact H) | exact H
            have Ny213 := Aside0.mk hy213
            clear hy213
            by_cases c7 : x3_1.length < 5864062014805
            · rw [if_pos c7] at H
              have LMc7 := Aside0.mk c7
              clear c7
              obtain ⟨y216, hy216⟩ : ∃ y_ : List (List Bool), y_ = (x3_1 ++ [y213]) := ⟨_, rfl⟩
              replace H : (colloquyref03_none.l0 k1 a0 y216 (wrap64 (x4_1 + 1))) = some r := by first | (rw [hy216]; with_reducible exact H) | (have H2_ := (Option.bind_some _ _).symm.trans H; rw [hy216]; with_reducible exact H2_) | (have H2_ := (Option.bind_some _ _).symm.trans H; with_reducible exact H2_) | with_reducible exact H | (rw [hy216]; exact H) | exact H
              have Ny216 := Aside0.mk hy216
              clear hy216
              have H' := Aside0.mk H
              clear H
              go_wp2_with (first | ((with_reducible refine gate_dst (N := 13) rfl ?_); refine Kd.R_make Kd.bool _ 4 rfl (N := 13) rfl 61 _ _ rfl a0 rfl rfl Try.underlying61 (.bool false) 1 info4 rfl (by decide) (by omega) false (ok := fun _ => True) (okp := fun _ => True) rfl (fun _ hk => hk) trivial (of_decide_eq_true (by first | (with_reducible assumption) | assumption)) (Nat.le_trans (Nat.mul_le_mul_right _ (of_decide_eq_true (by first | (with_reducible assumption) | assumption) : a0.toNat ≤ 281474976710656)) (by omega)) (Below.refl _ _) (Nat.le_refl _) ?_; intro v214 w8 ho9 hb hg_ hnew_; clear hg_ hnew_; (first | rw [← Ny213.out] at ho9 | (simp only [Int.reduceToNat] at ho9; rw [← Ny213.out] at ho9)); have n0_ := Aside0.mk (Kd.S_elder' (by (with_reducible repeat (first | apply Kd.S_alloc | apply Kd.S_drewN | apply Kd.S_drew)); exact HO_3.out) (Kd.R_base ho9) hb); have n1_ := Aside0.mk (Kd.R_lower ho9 (below_size (by repeat (first | (with_reducible first | exact HB.out | apply below_alloc | apply pw_below_drewN | apply below_drew1) | exact HB.out)))); have n2_ := Aside0.mk (below_step (by repeat (first | (with_reducible first | exact HB.out | apply below_alloc | apply pw_below_drewN | apply below_drew1) | exact HB.out)) hb); clear HO_3; clear HB; have HO_3 := n0_; have HO215 := n1_; have HB := n2_; clear n0_ n1_ n2_; clear hb ho9; obtain ⟨Ao11, co11, eo11⟩ := Kd.R_slice HO215.out; subst eo11) | ((with_reducible refine gate_builtin (b := .append) (xs := #[.tmp 11, .tmp 14]) rfl ?_); at_builtin; refine Kd.S_append (Kd.slice 4 Kd.bool) (w0 := w) w.heap.size rfl (.tmp 11) (.tmp 14) 35 61 (.slice none 0 0) 24 rfl Try.underlying35 info61 rfl (by decide) (by omega) u3 x3_1 y213 [.slice Ao11 y213.length co11] (fun _ => True) (fun k_ => some k_ = (.slice Ao11 y213.length co11 : Value).ownBlock) rfl rfl ?aP (fun k_ hk_ => ((Kd.R_mono (ok' := fun k_ => ((fun _ => True)) k_ ∧ some k_ ≠ (u3 : Value).ownBlock) (Kd.R_apart' (HO215.out) (Kd.S_typed HO_3.out) (by decide)) (fun k_ hk => ⟨trivial, hk.2⟩))).1 k_ hk_.symm) ?aF ?aO ?aB ?aS ?aL ?_; (case aP => exact Kd.M_row (Kd.R_mono (Kd.R_tight rfl (Kd.R_mono (ok' := fun k_ => ((fun _ => True)) k_ ∧ some k_ ≠ (u3 : Value).ownBlock) (Kd.R_apart' (HO215.out) (Kd.S_typed HO_3.out) (by decide)) (fun k_ hk => ⟨trivial, hk.2⟩))) (fun _ h_ => h_))); (case aB => exact (by repeat (first | (with_reducible first | exact HB.out | apply below_alloc | apply pw_below_drewN | apply below_drew1) | exact HB.out))); (case aF => exact (fun _ _ => trivial)); (case aO => exact (by (with_reducible repeat (first | apply Kd.S_alloc | apply Kd.S_drewN | apply Kd.S_drew)); exact Kd.S_mono HO_3.out (fun k_ hk => ⟨trivial, fun e_ => hk.2 e_⟩))); (case aS => exact (below_size (by repeat (first | (with_reducible first | exact HB.out | apply below_alloc | apply pw_below_drewN | apply below_drew1) | exact HB.out)))); (case aL => have := LMc7.out; omega); intro v217 w10 ho hb hg hat; rw [← Ny216.out] at ho; have n0_ := Aside0.mk (hb); have n1_ := Aside0.mk (ho); clear HB; clear HO_3; clear HO215; have HB := n0_; have HO218 := n1_; clear n0_ n1_; clear ho hb hg hat))
              go_roundg k1
              case measure => have := HK1.out; omega
              case rel => exact ⟨(y216), (wrap64 (x4_1 + 1)), (by first | rfl | (simp; done) | (simp [*]; done)), H', ⟨by have := HK1.out; omega⟩, ⟨by (with_reducible repeat (first | apply Kd.S_alloc | apply Kd.S_drewN | apply Kd.S_drew)); exact HO218.out⟩, ⟨by repeat (first | (with_reducible first | exact HB.out | apply below_alloc | apply pw_below_drewN | apply below_drew1) | exact HB.out)⟩⟩
            · rw [if_neg c7] at H
              exact absurd H (by simp)
          · rw [if_neg c6] at H
            exact absurd H (by simp)
        · rw [if_neg c5] at H
          exact absurd H (by simp)
      · rw [if_neg c4] at H
        have c4b0 : decide (x4_1 < a0) = false := decide_eq_false c4
        clear c4
        obtain rfl := Option.some.inj H
        go_wp2
        go_ret
        exact ⟨_, by first | rfl | (simp [errW_none, errW_some] <;> rfl) | (simp [*, errW_none, errW_some] <;> rfl), by (with_reducible repeat (first | apply Kd.S_alloc | apply Kd.S_drewN | apply Kd.S_drew)); exact HO_3.out, by repeat (first | (with_reducible first | exact HB.out | apply below_alloc | apply pw_below_drewN | apply below_drew1) | exact HB.out)⟩

/-! ### colloquyref03_In: function 31 -/
def colloquyref03_In.l0 : Nat → List (S64) → Int → Int → Option (Bool)
  | 0, _, _, _ => none
  | k + 1, x0, x1, x5 => if x5 < (x0.length : Int) then (if 0 ≤ x5 then (if x1 ≥ (wrap64 ((rd_T64 x0 x5).f0)) then (if x1 ≤ (wrap64 ((rd_T64 x0 x5).f1)) then (some true) else (colloquyref03_In.l0 k x0 x1 (wrap64 (x5 + 1)))) else (colloquyref03_In.l0 k x0 x1 (wrap64 (x5 + 1)))) else (none)) else (some false)
def colloquyref03_In.f (k : Nat) (l0 : List (S64)) (a1 : Int) : Option (Bool) := colloquyref03_In.l0 k l0 a1 0
theorem colloquyref03_In.mono_l : ∀ k, (∀ y0 y1 y2, LeO (colloquyref03_In.l0 k y0 y1 y2) (colloquyref03_In.l0 (k + 1) y0 y1 y2))
  | 0 => fun _ _ _ r h => by simp [colloquyref03_In.l0] at h
  | k + 1 => by
    have ih0 := colloquyref03_In.mono_l k
    · intro y0 y1 y2
      unfold colloquyref03_In.l0
      repeat' first
      | (with_reducible exact ih0 _ _ _)
      | (with_reducible exact LeO.refl _)
      | (with_reducible exact LeO.none _)
      | (with_reducible refine LeO.ite ?_ ?_)
      | (with_reducible refine LeO.bind ?_ (fun _ => ?_))
      | exact ih0 _ _ _
      | exact LeO.none _
      | refine LeO.ite ?_ ?_
      | refine LeO.bind ?_ (fun _ => ?_)
theorem colloquyref03_In.mono : ∀ a0 a1 k, LeO (colloquyref03_In.f k a0 a1) (colloquyref03_In.f (k + 1) a0 a1) := by
  intro a0 a1 k
  have ih0 := colloquyref03_In.mono_l k
  unfold colloquyref03_In.f
  repeat' first
      | (with_reducible exact ih0 _ _ _)
      | (with_reducible exact LeO.refl _)
      | (with_reducible exact LeO.none _)
      | (with_reducible refine LeO.ite ?_ ?_)
      | (with_reducible refine LeO.bind ?_ (fun _ => ?_))
      | exact ih0 _ _ _
      | exact LeO.none _
      | refine LeO.ite ?_ ?_
      | refine LeO.bind ?_ (fun _ => ?_)
set_option maxHeartbeats 8000000 in
set_option maxRecDepth 100000 in
theorem colloquyref03_In.calls (k : Nat) (A0 : Option Addr) (c0 : Nat) (l0 : List (S64)) (a1 : Int) (r : Bool) (w : World) (hr0 : Kd.C k64 w A0 l0.length l0) (hc0 : l0.length ≤ c0) (h : colloquyref03_In.f k l0 a1 = some r) :
    Calls Try.prog 31 #[.slice A0 l0.length c0, .int .i64 a1] w fun e w' => e = .returned (.bool r) ∧ Drawn0 w w' := by
  have HR0 := Aside0.mk hr0
  have HC0 := Aside0.mk hc0
  clear hr0 hc0
  have H : (colloquyref03_In.l0 k l0 a1 0) = some r := h
  clear h
  have H' := Aside0.mk H
  clear H
  go_enter Try.func31, Try.ntmps31
  go_wp2
  go_loopg [5] k (fun kq v5 w' => ∃ (x5_1 : Int), v5 = .int .i64 x5_1 ∧ Aside0 (colloquyref03_In.l0 kq l0 a1 x5_1 = some r) ∧ Aside0 (kq ≤ k) ∧ Drawn0 w w')
  case atStart => exact ⟨(0), (by first | rfl | (simp; done) | (simp [*]; done)), H', ⟨Nat.le_refl _⟩, by repeat (first | exact Drawn0.refl _ | apply Drawn0.step)⟩
  case round =>
    clear H'
    try clear p2
    obtain ⟨x5_1, rfl, HA, HK1, ⟨m1, rfl⟩⟩ := hrel
    cases gk with
    | zero => exact absurd HA.out (by simp [colloquyref03_In.l0])
    | succ k1 =>
      have H := HA.out
      clear HA
      simp only [colloquyref03_In.l0] at H
      by_cases c3 : x5_1 < (l0.length : Int)
      · rw [if_pos c3] at H
        have c3b0 : decide (x5_1 < (l0.length : Int)) = true := decide_eq_true c3
        clear c3
        by_cases c4 : 0 ≤ x5_1
        · rw [if_pos c4] at H
          have c4b0 : decide (0 ≤ x5_1) = true := decide_eq_true c4
          clear c4
          by_cases c5 : a1 ≥ (wrap64 ((rd_T64 l0 x5_1).f0))
          · rw [if_pos c5] at H
            have c5b0 : decide ((wrap64 ((rd_T64 l0 x5_1).f0)) ≤ a1) = true := decide_eq_true c5
            clear c5
            by_cases c6 : a1 ≤ (wrap64 ((rd_T64 l0 x5_1).f1))
            · rw [if_pos c6] at H
              have c6b0 : decide (a1 ≤ (wrap64 ((rd_T64 l0 x5_1).f1))) = true := decide_eq_true c6
              clear c6
              obtain rfl := Option.some.inj H
              have p219 : 0 ≤ (x5_1 : Int) := of_decide_eq_true (by first | (with_reducible assumption) | assumption)
              have q219 : x5_1 < (l0.length : Int) := of_decide_eq_true (by first | (with_reducible assumption) | assumption)
              obtain ⟨ad219, e219, hx219_0, hx219_1⟩ := at_T64 HR0.out x5_1 p219 q219
              cases e219
              replace p219 := eq_true p219
              replace q219 := eq_true q219
              have p220 : 0 ≤ (x5_1 : Int) := of_decide_eq_true (by first | (with_reducible assumption) | assumption)
              have q220 : x5_1 < (l0.length : Int) := of_decide_eq_true (by first | (with_reducible assumption) | assumption)
              obtain ⟨ad220, e220, hx220_0, hx220_1⟩ := at_T64 HR0.out x5_1 p220 q220
              obtain rfl : ad219 = ad220 := (by injection e220)
              replace p220 := eq_true p220
              replace q220 := eq_true q220
              go_wp2
              go_ret
              exact ⟨by first | rfl | (simp; done) | (simp [*]; done), by repeat (first | exact Drawn0.refl _ | apply Drawn0.step)⟩
            · rw [if_neg c6] at H
              have c6b0 : decide (a1 ≤ (wrap64 ((rd_T64 l0 x5_1).f1))) = false := decide_eq_false c6
              clear c6
              have H' := Aside0.mk H
              clear H
              have p219 : 0 ≤ (x5_1 : Int) := of_decide_eq_true (by first | (with_reducible assumption) | assumption)
              have q219 : x5_1 < (l0.length : Int) := of_decide_eq_true (by first | (with_reducible assumption) | assumption)
              obtain ⟨ad219, e219, hx219_0, hx219_1⟩ := at_T64 HR0.out x5_1 p219 q219
              cases e219
              replace p219 := eq_true p219
              replace q219 := eq_true q219
              have p220 : 0 ≤ (x5_1 : Int) := of_decide_eq_true (by first | (with_reducible assumption) | assumption)
              have q220 : x5_1 < (l0.length : Int) := of_decide_eq_true (by first | (with_reducible assumption) | assumption)
              obtain ⟨ad220, e220, hx220_0, hx220_1⟩ := at_T64 HR0.out x5_1 p220 q220
              obtain rfl : ad219 = ad220 := (by injection e220)
              replace p220 := eq_true p220
              replace q220 := eq_true q220
              go_wp2
              go_roundg k1
              case measure => have := HK1.out; omega
              case rel => exact ⟨(wrap64 (x5_1 + 1)), (by first | rfl | (simp; done) | (simp [*]; done)), H', ⟨by have := HK1.out; omega⟩, by repeat (first | exact Drawn0.refl _ | apply Drawn0.step)⟩
          · rw [if_neg c5] at H
            have c5b0 : decide ((wrap64 ((rd_T64 l0 x5_1).f0)) ≤ a1) = false := decide_eq_false c5
            clear c5
            have H' := Aside0.mk H
            clear H
            have p219 : 0 ≤ (x5_1 : Int) := of_decide_eq_true (by first | (with_reducible assumption) | assumption)
            have q219 : x5_1 < (l0.length : Int) := of_decide_eq_true (by first | (with_reducible assumption) | assumption)
            obtain ⟨ad219, e219, hx219_0, hx219_1⟩ := at_T64 HR0.out x5_1 p219 q219
            cases e219
            replace p219 := eq_true p219
            replace q219 := eq_true q219
            go_wp2
            go_roundg k1
            case measure => have := HK1.out; omega
            case rel => exact ⟨(wrap64 (x5_1 + 1)), (by first | rfl | (simp; done) | (simp [*]; done)), H', ⟨by have := HK1.out; omega⟩, by repeat (first | exact Drawn0.refl _ | apply Drawn0.step)⟩
        · rw [if_neg c4] at H
          exact absurd H (by simp)
      · rw [if_neg c3] at H
        have c3b0 : decide (x5_1 < (l0.length : Int)) = false := decide_eq_false c3
        clear c3
        obtain rfl := Option.some.inj H
        go_wp2
        go_ret
        exact ⟨by first | rfl | (simp; done) | (simp [*]; done), by repeat (first | exact Drawn0.refl _ | apply Drawn0.step)⟩

/-! ### colloquyref03_same: function 32 -/
def colloquyref03_same.l0 : Nat → Int → List (List Bool) → Int → Option ((List (List Bool)))
  | 0, _, _, _ => none
  | k + 1, x0, x3, x4 => if x4 < x0 then (if 0 ≤ x4 then (if x4 < (x3.length : Int) then (if x4 < ((rd_L6 x3 x4).length : Int) then (colloquyref03_same.l0 k x0 (x3.set (x4 : Int).toNat ((rd_L6 x3 x4).set (x4 : Int).toNat true)) (wrap64 (x4 + 1))) else (none)) else (none)) else (none)) else (some x3)
def colloquyref03_same.f (k : Nat) (a0 : Int) : Option ((List (List Bool))) := (colloquyref03_none.f k a0).bind fun t221 => (colloquyref03_same.l0 k a0 t221 0)
theorem colloquyref03_same.mono_l : ∀ k, (∀ y0 y1 y2, LeO (colloquyref03_same.l0 k y0 y1 y2) (colloquyref03_same.l0 (k + 1) y0 y1 y2))
  | 0 => fun _ _ _ r h => by simp [colloquyref03_same.l0] at h
  | k + 1 => by
    have ih0 := colloquyref03_same.mono_l k
    · intro y0 y1 y2
      unfold colloquyref03_same.l0
      repeat' first
      | (with_reducible exact ih0 _ _ _)
      | (with_reducible exact colloquyref03_none.mono _ _)
      | (with_reducible exact LeO.refl _)
      | (with_reducible exact LeO.none _)
      | (with_reducible refine LeO.ite ?_ ?_)
      | (with_reducible refine LeO.bind ?_ (fun _ => ?_))
      | exact ih0 _ _ _
      | exact colloquyref03_none.mono _ _
      | exact LeO.none _
      | refine LeO.ite ?_ ?_
      | refine LeO.bind ?_ (fun _ => ?_)
theorem colloquyref03_same.mono : ∀ a0 k, LeO (colloquyref03_same.f k a0) (colloquyref03_same.f (k + 1) a0) := by
  intro a0 k
  have ih0 := colloquyref03_same.mono_l k
  unfold colloquyref03_same.f
  repeat' first
      | (with_reducible exact ih0 _ _ _)
      | (with_reducible exact colloquyref03_none.mono _ _)
      | (with_reducible exact LeO.refl _)
      | (with_reducible exact LeO.none _)
      | (with_reducible refine LeO.ite ?_ ?_)
      | (with_reducible refine LeO.bind ?_ (fun _ => ?_))
      | exact ih0 _ _ _
      | exact colloquyref03_none.mono _ _
      | exact LeO.none _
      | refine LeO.ite ?_ ?_
      | refine LeO.bind ?_ (fun _ => ?_)
set_option maxHeartbeats 8000000 in
set_option maxRecDepth 100000 in
theorem colloquyref03_same.calls (k : Nat) (a0 : Int) (r : List (List Bool)) (w : World) (h : colloquyref03_same.f k a0 = some r) :
    Calls Try.prog 32 #[.int .i64 a0] w fun e w' => ∃ v0_ : Value, e = .returned (v0_) ∧ Kd.S (Kd.slice 4 Kd.bool) 61 w' w.heap.size (fun _ => True) v0_ r ∧ Below w.heap.size w w' := by
  have HB := Aside0.mk (Below.refl w.heap.size w)
  have H : ((colloquyref03_none.f k a0).bind fun t221 => (colloquyref03_same.l0 k a0 t221 0)) = some r := h
  clear h
  replace H := Option.bind_eq_some_iff.mp H
  obtain ⟨t221, A20, H⟩ := H
  replace H : (colloquyref03_same.l0 k a0 t221 0) = some r := H
  have A2 := Aside0.mk A20
  clear A20
  have H' := Aside0.mk H
  clear H
  go_enter Try.func32, Try.ntmps32
  go_wp2_with (first | ((with_reducible refine gate_callee (f := 30) rfl ?_); refine goesL_ (some 6) rfl rfl Try.func30 (by kernel_rfl) rfl #[.int .i64 a0] rfl (by (try simp only [List.map_toArray, List.map_cons, List.map_nil]); first | done | rfl | (simp only [List.length_drop, List.length_take]; rfl)) ?_; (with_reducible refine (colloquyref03_none.calls k a0 t221 _ A2.out).mono ?_); rintro e w3 ⟨v222, rfl, ho0, hb⟩; refine ⟨_, rfl, ?_⟩; have n0_ := Aside0.mk (Kd.S_lower ho0 (below_size (by repeat (first | (with_reducible first | exact HB.out | apply below_alloc | apply pw_below_drewN | apply below_drew1) | exact HB.out)))); have n1_ := Aside0.mk (below_step (by repeat (first | (with_reducible first | exact HB.out | apply below_alloc | apply pw_below_drewN | apply below_drew1) | exact HB.out)) hb); clear HB; have HO223 := n0_; have HB := n1_; clear n0_ n1_; (try clear hb); (try clear hb2); (try clear hk); (try clear hi); (try clear ho0)))
  go_loopg [4] k (fun kq v4 w' => ∃ (x3_1 : List (List Bool)) (x4_1 : Int), v4 = .int .i64 x4_1 ∧ Aside0 (colloquyref03_same.l0 kq a0 x3_1 x4_1 = some r) ∧ Aside0 (kq ≤ k) ∧ Aside0 (Kd.S (Kd.slice 4 Kd.bool) 61 w' w.heap.size (fun _ => True) v222 x3_1) ∧ Aside0 (Below w.heap.size w w'))
  case atStart => exact ⟨(t221), (0), (by first | rfl | (simp; done) | (simp [*]; done)), H', ⟨Nat.le_refl _⟩, ⟨by (with_reducible repeat (first | apply Kd.S_alloc | apply Kd.S_drewN | apply Kd.S_drew)); exact HO223.out⟩, ⟨by repeat (first | (with_reducible first | exact HB.out | apply below_alloc | apply pw_below_drewN | apply below_drew1) | exact HB.out)⟩⟩
  case round =>
    clear H'
    try clear p2
    try clear c3
    obtain ⟨x3_1, x4_1, rfl, HA, HK1, HO_3, HB⟩ := hrel
    cases gk with
    | zero => exact absurd HA.out (by simp [colloquyref03_same.l0])
    | succ k1 =>
      have H := HA.out
      clear HA
      simp only [colloquyref03_same.l0] at H
      by_cases c4 : x4_1 < a0
      · rw [if_pos c4] at H
        have c4b0 : decide (x4_1 < a0) = true := decide_eq_true c4
        clear c4
        by_cases c5 : 0 ≤ x4_1
        · rw [if_pos c5] at H
          have c5b0 : decide (0 ≤ x4_1) = true := decide_eq_true c5
          clear c5
          by_cases c6 : x4_1 < (x3_1.length : Int)
          · rw [if_pos c6] at H
            have c6b0 : decide (x4_1 < (x3_1.length : Int)) = true := decide_eq_true c6
            clear c6
            by_cases c7 : x4_1 < ((rd_L6 x3_1 x4_1).length : Int)
            · rw [if_pos c7] at H
              have c7b0 : decide (x4_1 < ((rd_L6 x3_1 x4_1).length : Int)) = true := decide_eq_true c7
              clear c7
              obtain ⟨y225, hy225⟩ : ∃ y_ : List Bool, y_ = ((rd_L6 x3_1 x4_1).set (x4_1 : Int).toNat true) := ⟨_, rfl⟩
              replace H : (colloquyref03_same.l0 k1 a0 (x3_1.set (x4_1 : Int).toNat y225) (wrap64 (x4_1 + 1))) = some r := by first | (rw [hy225]; with_reducible exact H) | (have H2_ := (Option.bind_some _ _).symm.trans H; rw [hy225]; with_reducible exact H2_) | (have H2_ := (Option.bind_some _ _).symm.trans H; with_reducible exact H2_) | with_reducible exact H | (rw [hy225]; exact H) | exact H
              have Ny225 := Aside0.mk hy225
              clear hy225
              obtain ⟨y227, hy227⟩ : ∃ y_ : List (List Bool), y_ = (x3_1.set (x4_1 : Int).toNat y225) := ⟨_, rfl⟩
              replace H : (colloquyref03_same.l0 k1 a0 y227 (wrap64 (x4_1 + 1))) = some r := by first | (rw [hy227]; with_reducible exact H) | (have H2_ := (Option.bind_some _ _).symm.trans H; rw [hy227]; with_reducible exact H2_) | (have H2_ := (Option.bind_some _ _).symm.trans H; with_reducible exact H2_) | with_reducible exact H | (rw [hy227]; exact H) | exact H
              have Ny227 := Aside0.mk hy227
              clear hy227
              have H' := Aside0.mk H
              clear H
              obtain ⟨Ao9, co9, eo9⟩ := Kd.S_slice HO_3.out
              subst eo9
              have p224 : 0 ≤ (x4_1 : Int) := of_decide_eq_true (by first | (with_reducible assumption) | assumption)
              have q224 : x4_1 < (x3_1.length : Int) := of_decide_eq_true (by first | (with_reducible assumption) | assumption)
              obtain ⟨ad224, A224_0, c224_0, e224, hx224_0, hl224_0, hi224_0⟩ := at_L6 (Kd.S_reads' HO_3.out).2.2 x4_1 p224 q224
              cases e224
              obtain ⟨ce224, hce224, hMe224, hcc224⟩ := Kd.S_get HO_3.out [] x4_1 p224 (by first | exact q224 | exact of_decide_eq_true (by first | (with_reducible assumption) | assumption) | (have e_ := (Kd.S_reads' HO_3.out).1; omega))
              obtain ⟨ve224_0, rfl, ge224_0⟩ := hMe224
              have hv224_0 := hcc224 0 _ rfl
              rw [Nat.add_zero, show ((Kd.slice 4 Kd.bool)).sz = 1 from rfl, Nat.mul_one] at hv224_0
              replace hv224_0 := Option.some.inj (hv224_0.symm.trans hx224_0)
              rw [hv224_0] at ge224_0
              have HL224_0 := Aside0.mk (show Kd.R Kd.bool 4 _ _ _ _ (rd_L6 x3_1 x4_1) from ge224_0)
              clear hv224_0 ge224_0
              have HX224_0 := Aside0.mk hx224_0
              clear hcc224 hce224
              have HR224_0 := Aside0.mk hi224_0
              have HC224_0 := Aside0.mk hl224_0
              clear hi224_0 hl224_0
              replace p224 := eq_true p224
              replace q224 := eq_true q224
              have p8 : 0 ≤ (x4_1 : Int) := of_decide_eq_true (by first | (with_reducible assumption) | assumption)
              have q8 : (x4_1 : Int) < (((rd_L6 x3_1 x4_1).length : Int) : Int) := of_decide_eq_true (by first | (with_reducible assumption) | assumption)
              obtain ⟨go8, co8, eo8, gb8, gl8, cl8, HG8⟩ := Kd.R_form HL224_0.out (by omega)
              (first | cases eo8 | (injection eo8 with ea_ en_ ec_; (first | subst ea_ | (injection ea_ with ea_; subst ea_)); subst ec_; clear en_))
              have GB8 := Aside0.mk gb8
              have GG8 := Aside0.mk HG8
              clear gb8 gl8 HG8
              obtain ⟨hx8_0, hf8_0⟩ := Kd.R_celln false HL224_0.out (x4_1 : Int) p8 q8
              replace p8 := eq_true p8
              replace q8 := eq_true q8
              have hq10 : (x4_1 : Int) < (x3_1.length : Int) := (by have h_ : (x4_1 : Int) < ((x3_1.length : Int) : Int) := of_decide_eq_true (by first | (with_reducible assumption) | assumption); first | exact h_ | (have e_ := (Kd.S_reads' HO_3.out).1; omega) | simpa only [List.length_set, List.length_set] using h_)
              obtain ⟨oki10, ce10, hcl10, hM10, hcc10, hok10, hbk10⟩ := Kd.S_borrow HO_3.out [] (x4_1 : Int) (of_decide_eq_true (by first | (with_reducible assumption) | assumption)) hq10
              obtain ⟨ve10_0, rfl, ge10_0⟩ := hM10
              have hv10 := hcc10 0 _ rfl
              rw [Nat.add_zero, show ((Kd.slice 4 Kd.bool)).sz = 1 from rfl, Nat.mul_one] at hv10
              replace hv10 := Option.some.inj (hv10.symm.trans HX224_0.out)
              subst hv10
              clear hcc10 hcl10
              replace ge10_0 := (show Kd.R Kd.bool 4 _ _ _ _ (rd_L6 x3_1 x4_1) from ge10_0)
              have HP10 := Kd.R_putg ge10_0 (x4_1 : Int) true
              go_wp2_with (first | ((with_reducible refine gate_store (t := 4) (p := 17) rfl ?_); refine store_event (t := 4) (p := 17) (v := ?vo_w11) (w1 := (wr.setCell ⟨go8, (x4_1 : Int).toNat, none⟩ (.bool true))) ?hg ?ho ?hn ?hr ?_; (case ho => rfl); (case hg => rfl); (case hn => rfl); (case hr => first | (go_simp; done) | (go_simp; rfl)); intro w11 hw; have hg : wr.grownBy w11 (some go8) := (by rw [hw]; exact HP10.2); have hz_ : Kd.R Kd.bool 4 w11 w.heap.size oki10 (.slice (some ⟨go8, 0, none⟩) (rd_L6 x3_1 x4_1).length c224_0) y225 := (by rw [hw, Ny225.out]; exact HP10.1); have hp_ : Kd.S (Kd.slice 4 Kd.bool) 61 w11 w.heap.size (fun _ => True) (.slice (some ad224) x3_1.length co9) y227 := (by rw [Ny227.out]; exact hbk10 hg (fun k_ e_ => by injection e_ with e_; subst e_; exact ge10_0.1 _ rfl) (Kd.M_row hz_)); have hm_ := Kd.R_mono hz_ hok10; clear HP10 hbk10; have n0_ := Aside0.mk (hp_); have n1_ := Aside0.mk ((by rw [hw]; exact below_set (HB.out) GB8.out : Below w.heap.size w w11)); have n2_ := Aside0.mk (hm_); have n3_ := Aside0.mk ((Kd.R_reads' hm_).2.1); clear HO_3; clear HB; clear HL224_0; have HO_3 := n0_; have HB := n1_; have HL228 := n2_; have HC226 := n3_; clear n0_ n1_ n2_ n3_; clear hg hw hp_ hz_ hm_ hok10))
              go_roundg k1
              case measure => have := HK1.out; omega
              case rel => exact ⟨(y227), (wrap64 (x4_1 + 1)), (by first | rfl | (simp; done) | (simp [*]; done)), H', ⟨by have := HK1.out; omega⟩, ⟨by (with_reducible repeat (first | apply Kd.S_alloc | apply Kd.S_drewN | apply Kd.S_drew)); exact HO_3.out⟩, ⟨by repeat (first | (with_reducible first | exact HB.out | apply below_alloc | apply pw_below_drewN | apply below_drew1) | exact HB.out)⟩⟩
            · rw [if_neg c7] at H
              exact absurd H (by simp)
          · rw [if_neg c6] at H
            exact absurd H (by simp)
        · rw [if_neg c5] at H
          exact absurd H (by simp)
      · rw [if_neg c4] at H
        have c4b0 : decide (x4_1 < a0) = false := decide_eq_false c4
        clear c4
        obtain rfl := Option.some.inj H
        go_wp2
        go_ret
        exact ⟨_, by first | rfl | (simp [errW_none, errW_some] <;> rfl) | (simp [*, errW_none, errW_some] <;> rfl), by (with_reducible repeat (first | apply Kd.S_alloc | apply Kd.S_drewN | apply Kd.S_drew)); exact HO_3.out, by repeat (first | (with_reducible first | exact HB.out | apply below_alloc | apply pw_below_drewN | apply below_drew1) | exact HB.out)⟩

end Go.Proofs.Ytmhodkkfbbpgaaa.PNfa
