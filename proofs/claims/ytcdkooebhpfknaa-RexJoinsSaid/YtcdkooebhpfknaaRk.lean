/- cmp.Compare at bytes; the closure of glob.Ranges. -/
import Derived.Test.YtcdkooebhpfknaaPm
import Derived.Sort.Grow
import Derived.Lib.Hide
import Derived.Outline
namespace Go.Proofs.Ytcdkooebhpfknaa.Rx
open Go.RowKit Go.Proofs.YtcdkooebhpfknaaW.PrintWords Go.Proofs.YtcdkooebhpfknaaW.PrintLast Go.Proofs.YtcdkooebhpfknaaW.PrintMore Go.Proofs.Ytcdkooebhpfknaa.PRx
set_option linter.unusedVariables false
set_option linter.unusedSimpArgs false

theorem nan_any (x : Int) (w : World) : Calls Try.prog 41 #[.int .u8 x] w fun e w' => e = .returned (.bool false) ∧ ∃ q, w' = w.drewN q := by
  have g1 : (x != x) = false := by simp
  have g2 : (x == x) = true := by simp
  go_enter Try.func41, Try.ntmps41
  go_wp2
  repeat (go_quiet (fail); try go_wp2)
  go_ret
  exact ⟨rfl, 0, rfl⟩
theorem cmp_any (x y : Int) (w : World) : Calls Try.prog 31 #[.int .u8 x, .int .u8 y] w fun e w' => e = .returned (.int .i64 (if x < y then -1 else if x > y then 1 else 0)) ∧ ∃ q, w' = w.drewN q := by
  by_cases h1 : x < y
  · rw [if_pos h1]
    have g1 : decide (x < y) = true := by simpa using h1
    clear h1
    go_enter Try.func31, Try.ntmps31
    go_wp2_with (first | (go_at_call 41; refine (nan_any _ _).mono ?_; rintro e w' ⟨rfl, q, rfl⟩))
    go_ret
    exact ⟨rfl, _, rfl⟩
  · rw [if_neg h1]
    have g1 : decide (x < y) = false := by simpa using h1
    by_cases h2 : x > y
    · rw [if_pos h2]
      have g2 : decide (x > y) = true := by simpa using h2
      clear h1 h2
      go_enter Try.func31, Try.ntmps31
      go_wp2_with (first | (go_at_call 41; refine (nan_any _ _).mono ?_; rintro e w' ⟨rfl, q, rfl⟩))
      go_ret
      exact ⟨rfl, _, rfl⟩
    · rw [if_neg h2]
      have g2 : decide (x > y) = false := by simpa using h2
      clear h1 h2
      go_enter Try.func31, Try.ntmps31
      go_wp2_with (first | (go_at_call 41; refine (nan_any _ _).mono ?_; rintro e w' ⟨rfl, q, rfl⟩))
      go_ret
      exact ⟨rfl, _, rfl⟩
end Go.Proofs.Ytcdkooebhpfknaa.Rx
