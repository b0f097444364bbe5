/- The walks of CnumNear's functions: each computes a plain function of the words. -/
import Derived.Test.YtngodbbpfdnflaaProg
import Derived.Test.YtngodbbpfdnflaaFl
import Derived.WalkKit
import Derived.WalkSpells
import Derived.WalkLawsBesides
import Derived.Laws.Externs
import Derived.Laws.FloatArith
import Derived.Laws.Cover3
import Derived.KernelRfl
namespace Go.Proofs.Ytngodbbpfdnflaa.Wk
open Go.RowKit Fl

theorem run_neg (r : Nat) (w : World) : (Op.unary .neg (.float .f64 r)).run Try.prog w = .ok (.float .f64 (Op.negFloat .f64 r)) w := rfl

theorem callbits (x : Nat) (w : World) : (callFunc 22 #[.float .f64 x]).run Try.prog w = .ok (.value (.int .u64 x)) w := by kernel_rfl
theorem callfrom (x : Int) (w : World) : (callFunc 23 #[.int .u64 x]).run Try.prog w = .ok (.value (.float .f64 x.toNat)) w := by kernel_rfl

theorem absbits (x : Nat) (h : x < 18446744073709551616) : (bits .andNot .u64 (x : Int) 9223372036854775808).toNat = rung x := by
  have := u64_andNot (x : Int) 9223372036854775808 (by omega) (by omega) (by omega) (by omega)
  rw [this]
  simp only [Int.toNat_natCast]
  unfold rung
  rw [show (18446744073709551615 - (9223372036854775808 : Int).toNat) = 2 ^ 63 - 1 by decide, Nat.and_two_pow_sub_one_eq_mod]

theorem isNaN_any (x : Nat) (w : World) : Calls Try.prog 11 #[.float .f64 x] w fun e w' => e = .returned (.bool (FloatKind.f64.format.order x x != some .eq)) ∧ w = w' := by
  go_enter Try.func11, Try.ntmps11
  go_wp2
  all_goals (go_ret; exact ⟨rfl, rfl⟩)

theorem abs_any (x : Nat) (h : x < 18446744073709551616) (w : World) : Calls Try.prog 18 #[.float .f64 x] w fun e w' => e = .returned (.float .f64 (rung x)) ∧ w = w' := by
  have h1 := callbits
  have h2 := callfrom
  have h3 := absbits x h
  go_enter Try.func18, Try.ntmps18
  go_wp2
  all_goals (go_ret; exact ⟨rfl, rfl⟩)

theorem isInf_any (x : Nat) (h : x < 18446744073709551616) (w : World) : Calls Try.prog 21 #[.float .f64 x, .int .i64 0] w fun e w' => e = .returned (.bool (FloatKind.f64.format.order (rung x) 9218868437227405311 == some .gt)) ∧ w = w' := by
  go_enter Try.func21, Try.ntmps21
  go_wp2_with (go_at_call 18; refine (abs_any _ h _).mono ?_; rintro e w' ⟨rfl, rfl⟩)
  all_goals (go_ret; exact ⟨rfl, rfl⟩)

theorem isNaN_at (x : Nat) (b : Bool) (hb : (FloatKind.f64.format.order x x != some .eq) = b) (w : World) : Calls Try.prog 11 #[.float .f64 x] w fun e w' => e = .returned (.bool b) ∧ w = w' := by
  subst hb; exact isNaN_any x w
theorem isInf_at (x : Nat) (h : x < 18446744073709551616) (b : Bool) (hb : (FloatKind.f64.format.order (rung x) 9218868437227405311 == some .gt) = b) (w : World) : Calls Try.prog 21 #[.float .f64 x, .int .i64 0] w fun e w' => e = .returned (.bool b) ∧ w = w' := by
  subst hb; exact isInf_any x h w

theorem right_any (f : Nat) (hf : f = 16 ∨ f = 19) (x : Nat) (h : x < 18446744073709551616) (w : World) : Calls Try.prog f #[.float .f64 x] w fun e w' => e = .returned (.bool (rightB x)) ∧ w = w' := by
  have hr : rightB x = (!(FloatKind.f64.format.order x x != some .eq) && !(FloatKind.f64.format.order (rung x) 9218868437227405311 == some .gt)) := rfl
  rw [hr]; clear hr
  obtain ⟨a, ha⟩ : ∃ a, (FloatKind.f64.format.order x x != some .eq) = a := ⟨_, rfl⟩
  obtain ⟨b, hb⟩ : ∃ b, (FloatKind.f64.format.order (rung x) 9218868437227405311 == some .gt) = b := ⟨_, rfl⟩
  rw [ha, hb]
  have c1 := fun w => isNaN_at x a ha w
  have c2 := fun w => isInf_at x h b hb w
  clear ha hb
  rcases hf with rfl | rfl
  · cases a
    all_goals
      go_enter Try.func16, Try.ntmps16
      go_wp2_with (first | (go_at_call 11; refine (c1 _).mono ?_; rintro e w' ⟨rfl, rfl⟩) | (go_at_call 21; refine (c2 _).mono ?_; rintro e w' ⟨rfl, rfl⟩))
      go_ret; exact ⟨rfl, rfl⟩
  · cases a
    all_goals
      go_enter Try.func19, Try.ntmps19
      go_wp2_with (first | (go_at_call 11; refine (c1 _).mono ?_; rintro e w' ⟨rfl, rfl⟩) | (go_at_call 21; refine (c2 _).mono ?_; rintro e w' ⟨rfl, rfl⟩))
      go_ret; exact ⟨rfl, rfl⟩

theorem Right_any (f : Nat) (hf : f = 8 ∨ f = 13) (x y : Nat) (h : x < 18446744073709551616) (h2 : y < 18446744073709551616) (w : World) : Calls Try.prog f #[.complex .f64 x y] w fun e w' => e = .returned (.bool (rightB x && rightB y)) ∧ w = w' := by
  have c1 := fun f hf w => right_any f hf x h w
  have c2 := fun f hf w => right_any f hf y h2 w
  generalize rightB x = a at *
  generalize rightB y = b at *
  rcases hf with rfl | rfl
  · cases a
    all_goals
      go_enter Try.func8, Try.ntmps8
      go_wp2_with (go_at_call 16; first | ((with_reducible refine (c1 16 (.inl rfl) _).mono ?_); rintro e w' ⟨rfl, rfl⟩) | ((with_reducible refine (c2 16 (.inl rfl) _).mono ?_); rintro e w' ⟨rfl, rfl⟩))
      go_ret; exact ⟨rfl, rfl⟩
  · cases a
    all_goals
      go_enter Try.func13, Try.ntmps13
      go_wp2_with (go_at_call 19; first | ((with_reducible refine (c1 19 (.inr rfl) _).mono ?_); rintro e w' ⟨rfl, rfl⟩) | ((with_reducible refine (c2 19 (.inr rfl) _).mono ?_); rintro e w' ⟨rfl, rfl⟩))
      go_ret; exact ⟨rfl, rfl⟩

theorem Right_at (f : Nat) (hf : f = 8 ∨ f = 13) (x y : Nat) (h : x < 18446744073709551616) (h2 : y < 18446744073709551616) (b : Bool) (hb : (rightB x && rightB y) = b) (w : World) : Calls Try.prog f #[.complex .f64 x y] w fun e w' => e = .returned (.bool b) ∧ w = w' := by
  subst hb; exact Right_any f hf x y h h2 w

theorem nearP_any (a b tol r : Nat) (hr : r < 18446744073709551616) (hsub : floatBits .sub .f64 a b = some r) (w : World) : Calls Try.prog 12 #[.float .f64 a, .float .f64 b, .float .f64 tol] w fun e w' => e = .returned (.bool (nearP a b tol r)) ∧ w = w' := by
  have hs := fun w => run_float_arith (P := Try.prog) w .sub 22 .f64 a b r hsub
  unfold nearP eqB leB
  clear hsub
  by_cases he : (FloatKind.f64.format.order a b == some .eq) = true
  · rw [he]
    go_enter Try.func12, Try.ntmps12
    go_wp2
    all_goals (go_ret; exact ⟨rfl, rfl⟩)
  · have he : (FloatKind.f64.format.order a b == some .eq) = false := by simpa using he
    rw [he]
    go_enter Try.func12, Try.ntmps12
    go_wp2_with (go_at_call 18; refine (abs_any _ hr _).mono ?_; rintro e w' ⟨rfl, rfl⟩)
    all_goals (go_ret; exact ⟨rfl, rfl⟩)

theorem nearR_any (a b tol r : Nat) (hsub : floatBits .sub .f64 a b = some r) (w : World) : Calls Try.prog 14 #[.float .f64 a, .float .f64 b, .float .f64 tol] w fun e w' => e = .returned (.bool (nearR a b tol r)) ∧ w = w' := by
  have hs := fun w => run_float_arith (P := Try.prog) w .sub 22 .f64 a b r hsub
  have hneg := run_neg
  unfold nearR eqB leB
  clear hsub
  by_cases he : (FloatKind.f64.format.order a b == some .eq) = true
  · rw [he]
    go_enter Try.func14, Try.ntmps14
    go_wp2
    all_goals (go_ret; exact ⟨rfl, rfl⟩)
  · have he : (FloatKind.f64.format.order a b == some .eq) = false := by simpa using he
    rw [he]
    by_cases hl : (FloatKind.f64.format.order r tol == some .lt || FloatKind.f64.format.order r tol == some .eq) = true
    · rw [hl]
      go_enter Try.func14, Try.ntmps14
      go_wp2
      all_goals (go_ret; exact ⟨rfl, rfl⟩)
    · have hl : (FloatKind.f64.format.order r tol == some .lt || FloatKind.f64.format.order r tol == some .eq) = false := by simpa using hl
      rw [hl]
      go_enter Try.func14, Try.ntmps14
      go_wp2
      all_goals (go_ret; exact ⟨rfl, rfl⟩)

def finN (x : Nat) : Prop := x < 18446744073709551616

/-- Near of the program and of the reference: the same, from both sides. -/
def nearB (a b c d tol : Nat) : Bool :=
  rightB a && rightB b && (rightB c && rightB d) && !(FloatKind.f64.format.order tol tol != some .eq) &&
    nearP a c tol ((floatBits .sub .f64 a c).getD 0) && nearP b d tol ((floatBits .sub .f64 b d).getD 0)

theorem near_at (f : Nat) (hf : f = 12 ∨ f = 14) (a b tol : Nat) (ha : rightB a = true) (hb : rightB b = true) (w : World) :
    Calls Try.prog f #[.float .f64 a, .float .f64 b, .float .f64 tol] w fun e w' => e = .returned (.bool (nearP a b tol ((floatBits .sub .f64 a b).getD 0))) ∧ w = w' := by
  obtain ⟨s, t, g, hg, h1, h2⟩ := sub_fin (right_fin ha) (right_fin hb)
  rw [h1]
  rcases hf with rfl | rfl
  · exact nearP_any a b tol _ (word_lt hg) h1 w
  · refine (nearR_any a b tol _ h1 w).mono fun e w' h => ⟨?_, h.2⟩
    rw [h.1]
    unfold nearP nearR
    rw [Option.getD_some]
    unfold rung
    rw [← le_both hg]

theorem nearB_comm (a b c d tol : Nat) : nearB a b c d tol = nearB c d a b tol := by
  have key : ∀ x y, rightB x = true → rightB y = true → nearP x y tol ((floatBits .sub .f64 x y).getD 0) = nearP y x tol ((floatBits .sub .f64 y x).getD 0) := by
    intro x y hx hy
    obtain ⟨s, t, g, hg, h1, h2⟩ := sub_fin (right_fin hx) (right_fin hy)
    rw [h1, h2]
    unfold nearP
    rw [Option.getD_some, Option.getD_some, eqB_comm]
    unfold rung
    rw [abs_word _ _ hg, abs_word _ _ hg]
  unfold nearB
  cases ha : rightB a <;> cases hb : rightB b <;> cases hc : rightB c <;> cases hd : rightB d <;> simp [*]

theorem Near_any (f : Nat) (hf : f = 5 ∨ f = 6) (a b c d tol : Nat) (ha : a < 18446744073709551616) (hb : b < 18446744073709551616) (hc : c < 18446744073709551616) (hd : d < 18446744073709551616) (w : World) :
    Calls Try.prog f #[.complex .f64 a b, .complex .f64 c d, .float .f64 tol] w fun e w' => e = .returned (.bool (nearB a b c d tol)) ∧ w = w' := by
  obtain ⟨r1, h1⟩ : ∃ r1, (rightB a && rightB b) = r1 := ⟨_, rfl⟩
  obtain ⟨r2, h2⟩ : ∃ r2, (rightB c && rightB d) = r2 := ⟨_, rfl⟩
  obtain ⟨n, h3⟩ : ∃ n, (FloatKind.f64.format.order tol tol != some .eq) = n := ⟨_, rfl⟩
  obtain ⟨p, h4⟩ : ∃ n, nearP a c tol ((floatBits .sub .f64 a c).getD 0) = n := ⟨_, rfl⟩
  obtain ⟨q, h5⟩ : ∃ n, nearP b d tol ((floatBits .sub .f64 b d).getD 0) = n := ⟨_, rfl⟩
  unfold nearB
  rw [h1, h2, h3, h4, h5]
  have c8 := fun w => Right_at 8 (.inl rfl) a b ha hb r1 h1 w
  have c8' := fun w => Right_at 8 (.inl rfl) c d hc hd r2 h2 w
  have c13 := fun w => Right_at 13 (.inr rfl) a b ha hb r1 h1 w
  have c13' := fun w => Right_at 13 (.inr rfl) c d hc hd r2 h2 w
  have c11 := fun w => isNaN_at tol n h3 w
  have c12 : ∀ f, f = 12 ∨ f = 14 → r1 = true → r2 = true → ∀ w, Calls Try.prog f #[.float .f64 a, .float .f64 c, .float .f64 tol] w fun e w' => e = .returned (.bool p) ∧ w = w' := by
    intro f hf e1 e2 w
    subst h4 h1 h2
    simp only [Bool.and_eq_true] at e1 e2
    exact near_at f hf a c tol e1.1 e2.1 w
  have c12' : ∀ f, f = 12 ∨ f = 14 → r1 = true → r2 = true → ∀ w, Calls Try.prog f #[.float .f64 b, .float .f64 d, .float .f64 tol] w fun e w' => e = .returned (.bool q) ∧ w = w' := by
    intro f hf e1 e2 w
    subst h5 h1 h2
    simp only [Bool.and_eq_true] at e1 e2
    exact near_at f hf b d tol e1.2 e2.2 w
  clear h1 h2 h3 h4 h5 ha hb hc hd
  rcases hf with rfl | rfl
  · cases r1 <;> cases r2 <;> cases n <;> cases p
    all_goals
      try have d1 := c12 12 (.inl rfl) rfl rfl
      try have d2 := c12' 12 (.inl rfl) rfl rfl
      clear c12 c12'
      go_enter Try.func5, Try.ntmps5
      go_wp2_with (first
        | (go_at_call 8; first | ((with_reducible refine (c8 _).mono ?_); rintro e w' ⟨rfl, rfl⟩) | ((with_reducible refine (c8' _).mono ?_); rintro e w' ⟨rfl, rfl⟩))
        | (go_at_call 11; (with_reducible refine (c11 _).mono ?_); rintro e w' ⟨rfl, rfl⟩)
        | (go_at_call 12; first | ((with_reducible refine (d1 _).mono ?_); rintro e w' ⟨rfl, rfl⟩) | ((with_reducible refine (d2 _).mono ?_); rintro e w' ⟨rfl, rfl⟩)))
      go_ret; exact ⟨rfl, rfl⟩
  · cases r1 <;> cases r2 <;> cases n <;> cases p
    all_goals
      try have d1 := c12 14 (.inr rfl) rfl rfl
      try have d2 := c12' 14 (.inr rfl) rfl rfl
      clear c12 c12'
      go_enter Try.func6, Try.ntmps6
      go_wp2_with (first
        | (go_at_call 13; first | ((with_reducible refine (c13 _).mono ?_); rintro e w' ⟨rfl, rfl⟩) | ((with_reducible refine (c13' _).mono ?_); rintro e w' ⟨rfl, rfl⟩))
        | (go_at_call 11; (with_reducible refine (c11 _).mono ?_); rintro e w' ⟨rfl, rfl⟩)
        | (go_at_call 14; first | ((with_reducible refine (d1 _).mono ?_); rintro e w' ⟨rfl, rfl⟩) | ((with_reducible refine (d2 _).mono ?_); rintro e w' ⟨rfl, rfl⟩)))
      go_ret; exact ⟨rfl, rfl⟩

theorem Near_at (f : Nat) (hf : f = 5 ∨ f = 6) (a b c d tol : Nat) (ha : a < 18446744073709551616) (hb : b < 18446744073709551616) (hc : c < 18446744073709551616) (hd : d < 18446744073709551616) (v : Bool) (hv : nearB a b c d tol = v) (w : World) :
    Calls Try.prog f #[.complex .f64 a b, .complex .f64 c d, .float .f64 tol] w fun e w' => e = .returned (.bool v) ∧ w = w' := by
  subst hv; exact Near_any f hf a b c d tol ha hb hc hd w

theorem law (a b c d tol : Nat) (ha : a < 18446744073709551616) (hb : b < 18446744073709551616) (hc : c < 18446744073709551616) (hd : d < 18446744073709551616) (w : World) :
    Calls Try.prog 3 #[.float .f64 a, .float .f64 b, .float .f64 c, .float .f64 d, .float .f64 tol] w fun e w' => e = .returned (.bool true) ∧ w = w' := by
  obtain ⟨v, hv⟩ : ∃ v, nearB a b c d tol = v := ⟨_, rfl⟩
  have k1 := fun w => Near_at 5 (.inl rfl) 4613937818241073152 4616189618054758400 4615063718147915776 4616189618054758400 4602678819172646912 (by decide) (by decide) (by decide) (by decide) true (by decide +kernel) w
  have k2 := fun w => Near_at 5 (.inl rfl) 4613937818241073152 4616189618054758400 4615063718147915776 4616189618054758400 4598175219545276416 (by decide) (by decide) (by decide) (by decide) false (by decide +kernel) w
  have k3 := fun w => Near_at 5 (.inl rfl) a b c d tol ha hb hc hd v hv w
  have k4 := fun w => Near_at 6 (.inr rfl) a b c d tol ha hb hc hd v hv w
  have k5 := fun w => Near_at 5 (.inl rfl) c d a b tol hc hd ha hb v (by rw [nearB_comm]; exact hv) w
  clear hv ha hb hc hd
  cases v
  all_goals
    go_enter Try.func3, Try.ntmps3
    go_wp2_with (first
      | (go_at_call 5; first
          | ((with_reducible refine (k1 _).mono ?_); rintro e w' ⟨rfl, rfl⟩)
          | ((with_reducible refine (k2 _).mono ?_); rintro e w' ⟨rfl, rfl⟩)
          | ((with_reducible refine (k3 _).mono ?_); rintro e w' ⟨rfl, rfl⟩)
          | ((with_reducible refine (k5 _).mono ?_); rintro e w' ⟨rfl, rfl⟩))
      | (go_at_call 6; (with_reducible refine (k4 _).mono ?_); rintro e w' ⟨rfl, rfl⟩))
    go_ret; exact ⟨rfl, rfl⟩

theorem lt_of_wf {x : Nat} (h : (Lit.float .f64 x).wf = true) : x < 18446744073709551616 := by
  simpa [Lit.wf] using h

theorem lawRow (a b c d tol : Nat) (ha : (Lit.float .f64 a).wf = true) (hb : (Lit.float .f64 b).wf = true) (hc : (Lit.float .f64 c).wf = true) (hd : (Lit.float .f64 d).wf = true) (_ht : (Lit.float .f64 tol).wf = true) (w : World) :
    Calls Try.prog 3 #[.float .f64 a, .float .f64 b, .float .f64 c, .float .f64 d, .float .f64 tol] w fun e w' => e = .returned (.bool true) ∧ Grown w w' :=
  (law a b c d tol (lt_of_wf ha) (lt_of_wf hb) (lt_of_wf hc) (lt_of_wf hd) w).mono fun _ _ h => ⟨h.1, by rw [← h.2]; exact Grown.refl _⟩

end Go.Proofs.Ytngodbbpfdnflaa.Wk
