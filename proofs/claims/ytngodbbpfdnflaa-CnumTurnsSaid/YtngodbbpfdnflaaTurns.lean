/- The walks of CnumTurns' functions: each computes a plain function of the words. -/
import Derived.Test.YtngodbbpfdnflaaWalks
import Derived.Test.YtngodbbpfdnflaaFt
import Derived.Laws.ComplexArith
namespace Go.Proofs.Ytngodbbpfdnflaa.Wt
open Go.RowKit Fl Ft Wk

theorem zero_any (x : Nat) (w : World) : Calls Try.prog 24 #[.float .f64 x] w fun e w' => e = .returned (.float .f64 (zr x)) ∧ w = w' := by
  unfold zr eqB
  by_cases h : (FloatKind.f64.format.order x 0 == some .eq) = true
  · rw [if_pos h]
    go_enter Try.func24, Try.ntmps24
    go_wp2
    all_goals (go_ret; exact ⟨rfl, rfl⟩)
  · rw [if_neg h]
    have h : (FloatKind.f64.format.order x 0 == some .eq) = false := by simpa using h
    go_enter Try.func24, Try.ntmps24
    go_wp2
    all_goals (go_ret; exact ⟨rfl, rfl⟩)

theorem form_any (x y : Nat) (w : World) : Calls Try.prog 20 #[.float .f64 x, .float .f64 y] w fun e w' => e = .returned (.complex .f64 (zr x) (zr y)) ∧ w = w' := by
  have c1 := fun w => zero_any x w
  have c2 := fun w => zero_any y w
  generalize zr x = a at *
  generalize zr y = b at *
  go_enter Try.func20, Try.ntmps20
  go_wp2_with (go_at_call 24; first | ((with_reducible refine (c1 _).mono ?_); rintro e w' ⟨rfl, rfl⟩) | ((with_reducible refine (c2 _).mono ?_); rintro e w' ⟨rfl, rfl⟩))
  all_goals (go_ret; exact ⟨rfl, rfl⟩)

theorem tidy_any (x y : Nat) (hx : x < 18446744073709551616) (hy : y < 18446744073709551616) (w : World) : Calls Try.prog 15 #[.complex .f64 x y] w fun e w' => e = .returned (.complex .f64 (tidyF x y).1 (tidyF x y).2) ∧ w = w' := by
  obtain ⟨r, hr⟩ : ∃ r, (rightB x && rightB y) = r := ⟨_, rfl⟩
  have c1 := fun w => Right_at 8 (.inl rfl) x y hx hy r hr w
  unfold tidyF
  rw [hr]
  clear hr
  have c2 := fun w => form_any x y w
  generalize zr x = a at *
  generalize zr y = b at *
  cases r
  all_goals
    go_enter Try.func15, Try.ntmps15
    go_wp2_with (first | (go_at_call 8; (with_reducible refine (c1 _).mono ?_); rintro e w' ⟨rfl, rfl⟩) | (go_at_call 20; (with_reducible refine (c2 _).mono ?_); rintro e w' ⟨rfl, rfl⟩))
    go_ret; exact ⟨rfl, rfl⟩

theorem turn_lt {a b : Nat} (ha : a < 18446744073709551616) (hb : b < 18446744073709551616) (k : Nat) : (turnF k a b).1 < 18446744073709551616 ∧ (turnF k a b).2 < 18446744073709551616 := by
  unfold turnF
  split
  · exact ⟨ha, hb⟩
  · exact ⟨neg_lt hb, ha⟩
  · exact ⟨neg_lt ha, neg_lt hb⟩
  · exact ⟨hb, neg_lt ha⟩

theorem turn_succ (k a b : Nat) (hk : k < 3) : turnF (k + 1) a b = (neg (turnF k a b).2, (turnF k a b).1) := by
  have : k = 0 ∨ k = 1 ∨ k = 2 := by omega
  rcases this with rfl | rfl | rfl <;> simp [turnF, neg_neg]

theorem run_negF (r : Nat) (w : World) : (Op.unary .neg (.float .f64 r)).run Try.prog w = .ok (.float .f64 (neg r)) w := rfl

theorem Turn_any (a b : Nat) (ha : a < 18446744073709551616) (hb : b < 18446744073709551616) (n : Int) (k : Nat) (hk : k < 4) (hn : (n.tmod 4 + 4).tmod 4 = k) (w : World) :
    Calls Try.prog 7 #[.complex .f64 a b, .int .i64 n] w fun e w' => e = .returned (.complex .f64 (turnZ k a b).1 (turnZ k a b).2) ∧ w = w' := by
  have hl := turn_lt ha hb k
  have ct := fun w => tidy_any _ _ hl.1 hl.2 w
  have hq : (wrap64 (n.tmod 4 + 4)).tmod 4 = k := by
    have h1 : -4 < n.tmod 4 ∧ n.tmod 4 < 4 := ⟨by have := Int.lt_tmod_of_pos n (show (0 : Int) < 4 by decide); omega, Int.tmod_lt_of_pos n (by decide)⟩
    have e : wrap64 (n.tmod 4 + 4) = n.tmod 4 + 4 := by unfold wrap64; omega
    rw [e, hn]
  unfold turnZ
  generalize hT : tidyF (turnF k a b).1 (turnF k a b).2 = T at *
  have hts := fun j hj => turn_succ j a b hj
  have HT : Hid (∀ j, j < 3 → turnF (j + 1) a b = (neg (turnF j a b).2, (turnF j a b).1)) := hts
  have hneg := run_negF
  clear hn hl hT hts
  go_enter Try.func7, Try.ntmps7
  go_wp2
  go_loop [0, 9] (fun z i => ∃ j : Nat, j ≤ k ∧ i = .int .i64 j ∧ z = .complex .f64 (turnF j a b).1 (turnF j a b).2) (fun _ i => k - (intOf i).toNat)
  case atStart => exact ⟨0, Nat.zero_le _, rfl, rfl⟩
  case round =>
    obtain ⟨j, hj, rfl, rfl⟩ := hrel
    by_cases hlt : j < k
    · go_wp2
      go_round
      case rel => exact ⟨j + 1, by omega, by go_num, by rw [HT.out j (by omega)]⟩
      case measure => simp [intOf]; omega
    · obtain rfl : j = k := by omega
      go_wp2_with (go_at_call 15; (with_reducible refine (ct _).mono ?_); rintro e w' ⟨rfl, rfl⟩)
      go_ret
      exact ⟨rfl, rfl⟩

theorem Turn_at (a b : Nat) (ha : a < 18446744073709551616) (hb : b < 18446744073709551616) (n : Int) (k : Nat) (hk : k < 4) (hn : (n.tmod 4 + 4).tmod 4 = k) (c d : Nat) (h : turnZ k a b = (c, d)) (w : World) :
    Calls Try.prog 7 #[.complex .f64 a b, .int .i64 n] w fun e w' => e = .returned (.complex .f64 c d) ∧ w = w' := by
  have := Turn_any a b ha hb n k hk hn w
  rw [h] at this
  exact this

theorem same_any (a b : Nat) (h : a = b ) (w : World) : Calls Try.prog 17 #[.float .f64 a, .float .f64 b] w fun e w' => e = .returned (.bool true) ∧ w = w' := by
  subst h
  obtain ⟨r, hr⟩ : ∃ r, (FloatKind.f64.format.order a a != some .eq) = r := ⟨_, rfl⟩
  have c1 := fun w => isNaN_at a r hr w
  have h1 := callbits
  clear hr
  cases r
  all_goals
    go_enter Try.func17, Try.ntmps17
    go_wp2_with (go_at_call 11; (with_reducible refine (c1 _).mono ?_); rintro e w' ⟨rfl, rfl⟩)
    go_ret; exact ⟨rfl, rfl⟩

theorem SameZ_any (a b : Nat) (w : World) : Calls Try.prog 9 #[.complex .f64 a b, .complex .f64 a b] w fun e w' => e = .returned (.bool true) ∧ w = w' := by
  have c1 := fun w => same_any a a rfl w
  have c2 := fun w => same_any b b rfl w
  go_enter Try.func9, Try.ntmps9
  go_wp2_with (go_at_call 17; first | ((with_reducible refine (c1 _).mono ?_); rintro e w' ⟨rfl, rfl⟩) | ((with_reducible refine (c2 _).mono ?_); rintro e w' ⟨rfl, rfl⟩))
  all_goals (go_ret; exact ⟨rfl, rfl⟩)

/-- The sum of two numbers in a slice. -/
theorem Add_any (B : Nat) (a b c d p q r s : Nat) (h1 : floatBits .add .f64 0 a = some p) (h2 : floatBits .add .f64 0 b = some q) (h3 : floatBits .add .f64 p c = some r) (h4 : floatBits .add .f64 q d = some s) (hr : r < 18446744073709551616) (hs : s < 18446744073709551616) (x y : Nat) (ht : tidyF r s = (x, y)) (w : World)
    (hc0 : w.cell? ⟨B, 0, none⟩ = some (.complex .f64 a b)) (hc1 : w.cell? ⟨B, 1, none⟩ = some (.complex .f64 c d)) :
    Calls Try.prog 10 #[.slice (some ⟨B, 0, none⟩) 2 2] w fun e w' => e = .returned (.complex .f64 x y) ∧ w = w' := by
  have ct := fun w => tidy_any r s hr hs w
  rw [ht] at ct
  have s1 : ∀ w, (binOp .add 24 (.complex .f64 0 0) (.complex .f64 a b)).run Try.prog w = .ok (.complex .f64 p q) w := fun w => run_complex_sum w .add (.inl rfl) 24 .f64 0 0 a b p q (by unfold cSumBits; rw [h1, h2]; rfl)
  have s2 : ∀ w, (binOp .add 24 (.complex .f64 p q) (.complex .f64 c d)).run Try.prog w = .ok (.complex .f64 r s) w := fun w => run_complex_sum w .add (.inl rfl) 24 .f64 p q c d r s (by unfold cSumBits; rw [h3, h4]; rfl)
  clear h1 h2 h3 h4 ht hr hs
  go_enter Try.func10, Try.ntmps10
  go_wp2
  refine wp_loop_rounds 3 ?_
  rw [rounds_succ]
  go_wp2
  rw [rounds_succ]
  go_wp2
  rw [rounds_succ]
  go_wp2_with (go_at_call 15; (with_reducible refine (ct _).mono ?_); rintro e w' ⟨rfl, rfl⟩)
  all_goals (go_ret; exact ⟨rfl, rfl⟩)

theorem tm (n : Int) : (n.tmod 4 + 4).tmod 4 = n % 4 := by
  have h1 : -4 < n.tmod 4 := Int.lt_tmod_of_pos n (by decide)
  have h2 := Int.mul_tdiv_add_tmod n 4
  rw [Int.tmod_eq_emod_of_nonneg (by omega)]
  omega

theorem and1023 (n : Int) : bits .and .i64 n 1023 = n % 1024 := by
  have hand : (BitVec.ofInt 64 n &&& BitVec.ofInt 64 1023).toNat = (n % 1024).toNat := by
    rw [BitVec.toNat_and, BitVec.toNat_ofInt, BitVec.toNat_ofInt]
    rw [show ((1023 : Int) % (2 ^ 64 : Nat)).toNat = 2 ^ 10 - 1 by decide, Nat.and_two_pow_sub_one_eq_mod]
    omega
  show IntKind.i64.wrap ((BitVec.ofInt 64 n &&& BitVec.ofInt 64 1023).toNat : Int) = _
  rw [hand]
  have h0 : 0 ≤ n % 1024 := by omega
  have h1 : n % 1024 < 1024 := by omega
  rw [Int.toNat_of_nonneg h0]
  unfold IntKind.wrap
  simp [IntKind.bits, IntKind.signed]
  omega

/-- The law. -/
theorem law (a b : Nat) (n : Int) (ha : a < 18446744073709551616) (hb : b < 18446744073709551616) (w : World) :
    Calls Try.prog 4 #[.float .f64 a, .float .f64 b, .int .i64 n] w fun e w' => e = .returned (.bool true) ∧ Grown w w' := by
  have c0 := fun w => Turn_at 4607182418800017408 0 (by decide) (by decide) 1 1 (by decide) (by decide) 0 4607182418800017408 (by decide +kernel) w
  obtain ⟨r, hr⟩ : ∃ r, (rightB a && rightB b) = r := ⟨_, rfl⟩
  have cR := fun w => Right_at 8 (.inl rfl) a b ha hb r hr w
  cases r with
  | false =>
    obtain ⟨k, hk⟩ : ∃ k : Nat, (n.tmod 4 + 4).tmod 4 = k := by
      refine ⟨((n.tmod 4 + 4).tmod 4).toNat, ?_⟩
      have h1 : -4 < n.tmod 4 := Int.lt_tmod_of_pos n (by decide)
      have := Int.tmod_nonneg 4 (show 0 ≤ n.tmod 4 + 4 by omega)
      omega
    have hk4 : k < 4 := by
      have h1 : (n.tmod 4 + 4).tmod 4 < 4 := Int.tmod_lt_of_pos _ (by decide)
      omega
    obtain ⟨c, d, hcd⟩ : ∃ c d, turnZ k a b = (c, d) := ⟨_, _, rfl⟩
    have hz := turnZ_right k a b
    rw [hcd, hr] at hz
    have cT := fun w => Turn_at a b ha hb n k hk4 hk c d hcd w
    have hl := turn_lt ha hb k
    have hcl : c < 18446744073709551616 ∧ d < 18446744073709551616 := by
      unfold turnZ tidyF at hcd
      split at hcd
      · injection hcd with e1 e2; subst e1 e2; exact ⟨zr_lt hl.1, zr_lt hl.2⟩
      · injection hcd with e1 e2; subst e1 e2; exact hl
    have cR2 := fun w => Right_at 8 (.inl rfl) c d hcl.1 hcl.2 false hz w
    clear hr hk hcd hz hl hcl
    go_enter Try.func4, Try.ntmps4
    go_wp2_with (first
      | (go_at_call 7; first | ((with_reducible refine (c0 _).mono ?_); rintro e w' ⟨rfl, rfl⟩) | ((with_reducible refine (cT _).mono ?_); rintro e w' ⟨rfl, rfl⟩))
      | (go_at_call 8; first | ((with_reducible refine (cR _).mono ?_); rintro e w' ⟨rfl, rfl⟩) | ((with_reducible refine (cR2 _).mono ?_); rintro e w' ⟨rfl, rfl⟩)))
    go_ret
    exact ⟨rfl, Grown.refl _⟩
  | true =>
    have hm : bits .and .i64 n 1023 = n % 1024 := and1023 n
    obtain ⟨m, hmm⟩ : ∃ m : Nat, n % 1024 = m := ⟨(n % 1024).toNat, by omega⟩
    have hmb : m < 1024 := by omega
    rw [hmm] at hm
    have hr' := hr
    simp only [Bool.and_eq_true] at hr'
    obtain ⟨hra, hrb⟩ := hr'
    have hfa := right_fin hra
    have hfb := right_fin hrb
    obtain ⟨k, hk⟩ : ∃ k, k = m % 4 := ⟨_, rfl⟩
    have hk4 : k < 4 := by omega
    have hl := turn_lt ha hb k
    obtain ⟨c, d, hcd⟩ : ∃ c d, turnZ k a b = (c, d) := ⟨_, _, rfl⟩
    have hcl : c < 18446744073709551616 ∧ d < 18446744073709551616 := by
      unfold turnZ tidyF at hcd
      split at hcd
      · injection hcd with e1 e2; subst e1 e2; exact ⟨zr_lt hl.1, zr_lt hl.2⟩
      · injection hcd with e1 e2; subst e1 e2; exact hl
    have hbk := back k hk4 hra hrb
    rw [hcd] at hbk
    have e0 : turnZ 0 a b = (zr a, zr b) := turnZ_yes 0 hra hrb
    have e2 : turnZ 2 a b = (zr (neg a), zr (neg b)) := turnZ_yes 2 hra hrb
    have g1 := fun w => Turn_at a b ha hb 0 0 (by decide) (by decide) _ _ e0 w
    have g2 := fun w => Turn_at a b ha hb (m : Int) k hk4 (by rw [tm]; omega) c d hcd w
    have g3 := fun w => Turn_at c d hcl.1 hcl.2 (-(m : Int)) ((4 - k) % 4) (by omega) (by rw [tm]; omega) _ _ hbk w
    have g4 := fun w => Turn_at a b ha hb (4 * (m : Int)) 0 (by decide) (by rw [tm]; omega) _ _ e0 w
    have g5 := fun w => Turn_at a b ha hb 2 2 (by decide) (by decide) _ _ e2 w
    have g6 := fun w => SameZ_any (zr a) (zr b) w
    have q1 : (FloatKind.f64.format.order (zr a) a == some .eq) = true := eq_zr hra
    have q2 : (FloatKind.f64.format.order (zr b) b == some .eq) = true := eq_zr hrb
    have h0 : rightB 0 = true := by decide +kernel
    have g7 := fun B w => Add_any B a b (zr (neg a)) (zr (neg b)) (zr a) (zr b) 0 0 (zero_add ha hfa) (zero_add hb hfb) (add_neg ha hfa) (add_neg hb hfb) (by decide) (by decide) 0 0 (by decide +kernel) w
    have hnear : nearB a b (zr a) (zr b) 0 = true := by
      have k0 : (FloatKind.f64.format.order 0 0 != some .eq) = false := by decide
      unfold nearB nearP
      rw [hra, hrb, rightB_zr hra, rightB_zr hrb, k0, eqB_comm a, eqB_comm b, show eqB (zr a) a = true from q1, show eqB (zr b) b = true from q2]
      rfl
    have g8 := fun w => Near_at 5 (.inl rfl) a b (zr a) (zr b) 0 ha hb (zr_lt ha) (zr_lt hb) true hnear w
    have hmz : (0 : Int) ≤ m ∧ (m : Int) ≤ 1023 := by omega
    obtain ⟨hm0, hm1⟩ := hmz
    generalize zr a = za at *
    generalize zr b = zb at *
    generalize zr (neg a) = na at *
    generalize zr (neg b) = nb at *
    clear hr hk hcd hl hcl hmm hra hrb hfa hfb hbk e0 e2 h0 hnear ha hb hmb hk4
    go_enter Try.func4, Try.ntmps4
    go_wp2_with (first
      | (go_at_call 7; first
          | ((with_reducible refine (c0 _).mono ?_); rintro e w' ⟨rfl, rfl⟩)
          | ((with_reducible refine (g1 _).mono ?_); rintro e w' ⟨rfl, rfl⟩)
          | ((with_reducible refine (g2 _).mono ?_); rintro e w' ⟨rfl, rfl⟩)
          | ((with_reducible refine (g3 _).mono ?_); rintro e w' ⟨rfl, rfl⟩)
          | ((with_reducible refine (g4 _).mono ?_); rintro e w' ⟨rfl, rfl⟩)
          | ((with_reducible refine (g5 _).mono ?_); rintro e w' ⟨rfl, rfl⟩))
      | (go_at_call 8; (with_reducible refine (cR _).mono ?_); rintro e w' ⟨rfl, rfl⟩)
      | (go_at_call 9; (with_reducible refine (g6 _).mono ?_); rintro e w' ⟨rfl, rfl⟩)
      | (go_at_call 10; refine (g7 _ _ (by simp) (by simp)).mono ?_; rintro e w' ⟨rfl, rfl⟩)
      | (go_at_call 5; (with_reducible refine (g8 _).mono ?_); rintro e w' ⟨rfl, rfl⟩))
    go_ret
    exact ⟨rfl, (Grown.refl _).alloc _ _⟩

theorem lawRow (a b : Nat) (n : Int) (ha : (Lit.float .f64 a).wf = true) (hb : (Lit.float .f64 b).wf = true) (_hn : (Lit.int .i64 n).wf = true) (w : World) :
    Calls Try.prog 4 #[.float .f64 a, .float .f64 b, .int .i64 n] w fun e w' => e = .returned (.bool true) ∧ Grown w w' := by
  exact law a b n (lt_of_wf ha) (lt_of_wf hb) w

end Go.Proofs.Ytngodbbpfdnflaa.Wt
