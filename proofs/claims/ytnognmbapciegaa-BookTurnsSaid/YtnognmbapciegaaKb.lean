/- A verdict's word; which event is right, decides, is too great; which trace is right. trace.Right, slices.ContainsFunc over book.Right's closure, book.Right. slices.ContainsFunc over book.Right's closure; book.Right. slices.Clone of bytes, pack.put: a number behind bytes. pack.Num, pack.Text. book.Pack. -/
import Derived.Test.YtnognmbapciegaaKa
import Derived.Lib.Hide
import Derived.Outline
import Derived.BigQuiet
import Derived.Lib.SliceRun
import Derived.WalkMore
import Derived.ScopeJumps
import Derived.Deep.RegionHeld3
namespace Go.Proofs.Ytnognmbapciegaa.Bk
open Go.RowKit Go.Proofs.YtnognmbapciegaaW.PrintWords Go.Proofs.YtnognmbapciegaaW.PrintLast Go.Proofs.YtnognmbapciegaaW.PrintMore Go.Proofs.Ytnognmbapciegaa.PBk
set_option linter.unusedVariables false
set_option linter.unusedSimpArgs false

def evV (e : S44) : Value := .agg #[.int .i64 e.f0, .int .i64 e.f1, .string e.f2, .int .i64 e.f3]
theorem al_below (w : World) (o : Obj) : Below w.heap.size w (w.alloc o) := (Below.refl w.heap.size w).alloc (Nat.le_refl _) o
theorem al_below' (w : World) (o : Obj) (n : Nat) : Below w.heap.size w ((w.alloc o).drewN n) := pw_below_drewN (al_below w o) n
theorem great_any (e : S44) (w : World) : Calls Try.prog 21 #[evV e] w fun e' w' => e' = .returned (.bool (greatR e)) ∧ Below w.heap.size w w' := by
  unfold evV
  cases g1 : decide (e.f1 > 1099511627776) with
  | true =>
    have h : greatR e = true := by simp only [greatR, g1, Bool.true_or]
    rw [h]
    clear h
    go_enter Try.func21, Try.ntmps21
    go_wp2
    go_ret
    exact ⟨rfl, al_below _ _⟩
  | false =>
    cases g2 : decide (e.f3 > 1125899906842624) with
    | true =>
      have h : greatR e = true := by simp only [greatR, g1, g2, Bool.true_or, Bool.false_or]
      rw [h]
      clear h
      go_enter Try.func21, Try.ntmps21
      go_wp2
      go_ret
      exact ⟨rfl, al_below _ _⟩
    | false =>
      have h : greatR e = decide ((e.f2.size : Int) > 1048576) := by simp only [greatR, g1, g2, Bool.false_or]
      rw [h]
      clear h
      go_enter Try.func21, Try.ntmps21
      go_wp2
      go_ret
      exact ⟨rfl, al_below _ _⟩
def wordsV : Value := .agg #[.string ⟨#[]⟩, .string ⟨#[80, 65, 83, 83]⟩, .string ⟨#[70, 65, 73, 76]⟩, .string ⟨#[88, 80, 65, 83, 83]⟩, .string ⟨#[88, 70, 65, 73, 76]⟩, .string ⟨#[85, 78, 82, 69, 83, 79, 76, 86, 69, 68]⟩, .string ⟨#[85, 78, 84, 69, 83, 84, 69, 68]⟩, .string ⟨#[85, 78, 83, 85, 80, 80, 79, 82, 84, 69, 68]⟩]
theorem info74 : (Try.prog.info? 74).map (·.size) = some 8 := by kernel_rfl
theorem words_any (w : World) : Calls Try.prog 44 #[] w fun e' w' => e' = .returned wordsV ∧ Below w.heap.size w w' := by
  go_enter Try.func44, Try.ntmps44
  go_wp2
  refine bodyPost_ret (results_cell_row (p := 0) rfl _ _ w.heap.size 74 _ (0, 0) _ rfl (blk_new w _) Try.underlying74 rfl info74) rfl ?_
  exact ⟨rfl, al_below _ _⟩
/-- A verdict's word. -/
def vtext (v : Int) : ByteArray := if v = 1 then ⟨#[80, 65, 83, 83]⟩ else if v = 2 then ⟨#[70, 65, 73, 76]⟩ else if v = 3 then ⟨#[88, 80, 65, 83, 83]⟩ else if v = 4 then ⟨#[88, 70, 65, 73, 76]⟩ else if v = 5 then ⟨#[85, 78, 82, 69, 83, 79, 76, 86, 69, 68]⟩ else if v = 6 then ⟨#[85, 78, 84, 69, 83, 84, 69, 68]⟩ else if v = 7 then ⟨#[85, 78, 83, 85, 80, 80, 79, 82, 84, 69, 68]⟩ else ⟨#[]⟩
theorem text_any (v : Int) (w : World) : Calls Try.prog 23 #[.int .i64 v] w fun e' w' => e' = .returned (.string (vtext v)) ∧ Below w.heap.size w w' := by
  by_cases h1 : v < 0
  · have g1 : decide (v < 0) = true := by simpa using h1
    have h : vtext v = ⟨#[]⟩ := by unfold vtext; rw [if_neg (by omega), if_neg (by omega), if_neg (by omega), if_neg (by omega), if_neg (by omega), if_neg (by omega), if_neg (by omega)]
    rw [h]
    clear h h1
    go_enter Try.func23, Try.ntmps23
    go_wp2
    go_ret
    exact ⟨rfl, Below.refl _ _⟩
  · have g1 : decide (v < 0) = false := by simpa using h1
    by_cases h2 : v > 7
    · have g2 : decide (v > 7) = true := by simpa using h2
      have h : vtext v = ⟨#[]⟩ := by unfold vtext; rw [if_neg (by omega), if_neg (by omega), if_neg (by omega), if_neg (by omega), if_neg (by omega), if_neg (by omega), if_neg (by omega)]
      rw [h]
      clear h h1 h2
      go_enter Try.func23, Try.ntmps23
      go_wp2
      go_ret
      exact ⟨rfl, Below.refl _ _⟩
    · have hv : v = 0 ∨ v = 1 ∨ v = 2 ∨ v = 3 ∨ v = 4 ∨ v = 5 ∨ v = 6 ∨ v = 7 := by omega
      clear g1 h1 h2
      rcases hv with rfl | rfl | rfl | rfl | rfl | rfl | rfl | rfl
      · have hix : ∀ w : World, (Instr.index 74 wordsV (.int .i64 0)).run Try.prog w = .ok (.string (vtext 0)) w := fun w => by kernel_rfl
        unfold wordsV at hix
        go_enter Try.func23, Try.ntmps23
        go_wp2_with (first | (go_at_call 44; refine (words_any _).mono ?_; (unfold wordsV); rintro e w2 ⟨rfl, hb⟩))
        go_ret
        exact ⟨rfl, hb⟩
      · have hix : ∀ w : World, (Instr.index 74 wordsV (.int .i64 1)).run Try.prog w = .ok (.string (vtext 1)) w := fun w => by kernel_rfl
        unfold wordsV at hix
        go_enter Try.func23, Try.ntmps23
        go_wp2_with (first | (go_at_call 44; refine (words_any _).mono ?_; (unfold wordsV); rintro e w2 ⟨rfl, hb⟩))
        go_ret
        exact ⟨rfl, hb⟩
      · have hix : ∀ w : World, (Instr.index 74 wordsV (.int .i64 2)).run Try.prog w = .ok (.string (vtext 2)) w := fun w => by kernel_rfl
        unfold wordsV at hix
        go_enter Try.func23, Try.ntmps23
        go_wp2_with (first | (go_at_call 44; refine (words_any _).mono ?_; (unfold wordsV); rintro e w2 ⟨rfl, hb⟩))
        go_ret
        exact ⟨rfl, hb⟩
      · have hix : ∀ w : World, (Instr.index 74 wordsV (.int .i64 3)).run Try.prog w = .ok (.string (vtext 3)) w := fun w => by kernel_rfl
        unfold wordsV at hix
        go_enter Try.func23, Try.ntmps23
        go_wp2_with (first | (go_at_call 44; refine (words_any _).mono ?_; (unfold wordsV); rintro e w2 ⟨rfl, hb⟩))
        go_ret
        exact ⟨rfl, hb⟩
      · have hix : ∀ w : World, (Instr.index 74 wordsV (.int .i64 4)).run Try.prog w = .ok (.string (vtext 4)) w := fun w => by kernel_rfl
        unfold wordsV at hix
        go_enter Try.func23, Try.ntmps23
        go_wp2_with (first | (go_at_call 44; refine (words_any _).mono ?_; (unfold wordsV); rintro e w2 ⟨rfl, hb⟩))
        go_ret
        exact ⟨rfl, hb⟩
      · have hix : ∀ w : World, (Instr.index 74 wordsV (.int .i64 5)).run Try.prog w = .ok (.string (vtext 5)) w := fun w => by kernel_rfl
        unfold wordsV at hix
        go_enter Try.func23, Try.ntmps23
        go_wp2_with (first | (go_at_call 44; refine (words_any _).mono ?_; (unfold wordsV); rintro e w2 ⟨rfl, hb⟩))
        go_ret
        exact ⟨rfl, hb⟩
      · have hix : ∀ w : World, (Instr.index 74 wordsV (.int .i64 6)).run Try.prog w = .ok (.string (vtext 6)) w := fun w => by kernel_rfl
        unfold wordsV at hix
        go_enter Try.func23, Try.ntmps23
        go_wp2_with (first | (go_at_call 44; refine (words_any _).mono ?_; (unfold wordsV); rintro e w2 ⟨rfl, hb⟩))
        go_ret
        exact ⟨rfl, hb⟩
      · have hix : ∀ w : World, (Instr.index 74 wordsV (.int .i64 7)).run Try.prog w = .ok (.string (vtext 7)) w := fun w => by kernel_rfl
        unfold wordsV at hix
        go_enter Try.func23, Try.ntmps23
        go_wp2_with (first | (go_at_call 44; refine (words_any _).mono ?_; (unfold wordsV); rintro e w2 ⟨rfl, hb⟩))
        go_ret
        exact ⟨rfl, hb⟩
theorem tl_size (s : ByteArray) : s.toList = [] ↔ s.size = 0 := by
  rw [ByteArray.toList_eq s, List.eq_nil_iff_length_eq_zero, Array.length_toList]
  rfl
set_option maxHeartbeats 4000000 in
theorem one_any (e : S44) (w : World) : Calls Try.prog 45 #[evV e] w fun e' w' => e' = .returned (.bool (oneR e)) ∧ Below w.heap.size w w' := by
  obtain ⟨k, n, s, a⟩ := e
  unfold evV
  have hk : k = 1 ∨ k = 14 ∨ k = 3 ∨ k = 4 ∨ k = 5 ∨ k = 6 ∨ k = 7 ∨ k = 2 ∨ (¬ k = 1 ∧ ¬ k = 14 ∧ ¬ k = 3 ∧ ¬ k = 4 ∧ ¬ k = 5 ∧ ¬ k = 6 ∧ ¬ k = 7 ∧ ¬ k = 2) := by omega
  obtain ⟨b, hb⟩ : ∃ b, oneR ⟨k, n, s, a⟩ = b := ⟨_, rfl⟩
  rw [hb]
  have HB := Lib.hid hb
  clear hb
  rcases hk with rfl | rfl | rfl | rfl | rfl | rfl | rfl | rfl | ⟨k1, k14, k3, k4, k5, k6, k7, k2⟩
  · have hnn : decide (n ≤ n) = true := by simp
    cases n0 : decide (0 ≤ n) with
    | false =>
      go_enter Try.func45, Try.ntmps45
      go_wp2
      all_goals
        go_ret
        refine ⟨?_, by first | exact al_below _ _ | exact al_below' _ _ _⟩
        rw [← HB.out]
        clear HB
        simp_all [oneR, endsK, namedK, textK, tl_size]
        all_goals (try first | omega | (obtain rfl : n = 0 := by omega) <;> simp)
    | true =>
      go_enter Try.func45, Try.ntmps45
      go_wp2
      all_goals
        go_ret
        refine ⟨?_, by first | exact al_below _ _ | exact al_below' _ _ _⟩
        rw [← HB.out]
        clear HB
        simp_all [oneR, endsK, namedK, textK, tl_size]
        all_goals (try first | omega | (obtain rfl : n = 0 := by omega) <;> simp)
  · have hnn : decide (n ≤ n) = true := by simp
    cases n0 : decide (0 ≤ n) with
    | false =>
      go_enter Try.func45, Try.ntmps45
      go_wp2
      all_goals
        go_ret
        refine ⟨?_, by first | exact al_below _ _ | exact al_below' _ _ _⟩
        rw [← HB.out]
        clear HB
        simp_all [oneR, endsK, namedK, textK, tl_size]
        all_goals (try first | omega | (obtain rfl : n = 0 := by omega) <;> simp)
    | true =>
      go_enter Try.func45, Try.ntmps45
      go_wp2
      all_goals
        go_ret
        refine ⟨?_, by first | exact al_below _ _ | exact al_below' _ _ _⟩
        rw [← HB.out]
        clear HB
        simp_all [oneR, endsK, namedK, textK, tl_size]
        all_goals (try first | omega | (obtain rfl : n = 0 := by omega) <;> simp)
  · have hnn : decide (n ≤ n) = true := by simp
    cases n0 : decide (0 ≤ n) with
    | false =>
      go_enter Try.func45, Try.ntmps45
      go_wp2
      all_goals
        go_ret
        refine ⟨?_, by first | exact al_below _ _ | exact al_below' _ _ _⟩
        rw [← HB.out]
        clear HB
        simp_all [oneR, endsK, namedK, textK, tl_size]
        all_goals (try first | omega | (obtain rfl : n = 0 := by omega) <;> simp)
    | true =>
      go_enter Try.func45, Try.ntmps45
      go_wp2
      all_goals
        go_ret
        refine ⟨?_, by first | exact al_below _ _ | exact al_below' _ _ _⟩
        rw [← HB.out]
        clear HB
        simp_all [oneR, endsK, namedK, textK, tl_size]
        all_goals (try first | omega | (obtain rfl : n = 0 := by omega) <;> simp)
  · have hnn : decide (n ≤ n) = true := by simp
    cases n0 : decide (0 ≤ n) with
    | false =>
      go_enter Try.func45, Try.ntmps45
      go_wp2
      all_goals
        go_ret
        refine ⟨?_, by first | exact al_below _ _ | exact al_below' _ _ _⟩
        rw [← HB.out]
        clear HB
        simp_all [oneR, endsK, namedK, textK, tl_size]
        all_goals (try first | omega | (obtain rfl : n = 0 := by omega) <;> simp)
    | true =>
      go_enter Try.func45, Try.ntmps45
      go_wp2
      all_goals
        go_ret
        refine ⟨?_, by first | exact al_below _ _ | exact al_below' _ _ _⟩
        rw [← HB.out]
        clear HB
        simp_all [oneR, endsK, namedK, textK, tl_size]
        all_goals (try first | omega | (obtain rfl : n = 0 := by omega) <;> simp)
  · have hnn : decide (n ≤ n) = true := by simp
    cases n0 : decide (-1 ≤ n) with
    | false =>
      go_enter Try.func45, Try.ntmps45
      go_wp2
      all_goals (try (go_region; go_wp2))
      all_goals
        go_ret
        refine ⟨?_, by first | exact al_below _ _ | exact al_below' _ _ _⟩
        rw [← HB.out]
        clear HB
        simp_all [oneR, endsK, namedK, textK, tl_size]
        all_goals (try first | omega | (obtain rfl : n = 0 := by omega) <;> simp)
    | true =>
      go_enter Try.func45, Try.ntmps45
      go_wp2
      all_goals (try (go_region; go_wp2))
      all_goals
        go_ret
        refine ⟨?_, by first | exact al_below _ _ | exact al_below' _ _ _⟩
        rw [← HB.out]
        clear HB
        simp_all [oneR, endsK, namedK, textK, tl_size]
        all_goals (try first | omega | (obtain rfl : n = 0 := by omega) <;> simp)
  · have hnn : decide (n ≤ n) = true := by simp
    cases n0 : decide (-1 ≤ n) with
    | false =>
      go_enter Try.func45, Try.ntmps45
      go_wp2
      all_goals (try (go_region; go_wp2))
      all_goals
        go_ret
        refine ⟨?_, by first | exact al_below _ _ | exact al_below' _ _ _⟩
        rw [← HB.out]
        clear HB
        simp_all [oneR, endsK, namedK, textK, tl_size]
        all_goals (try first | omega | (obtain rfl : n = 0 := by omega) <;> simp)
    | true =>
      go_enter Try.func45, Try.ntmps45
      go_wp2
      all_goals (try (go_region; go_wp2))
      all_goals
        go_ret
        refine ⟨?_, by first | exact al_below _ _ | exact al_below' _ _ _⟩
        rw [← HB.out]
        clear HB
        simp_all [oneR, endsK, namedK, textK, tl_size]
        all_goals (try first | omega | (obtain rfl : n = 0 := by omega) <;> simp)
  · have hnn : decide (n ≤ n) = true := by simp
    cases n0 : decide (-1 ≤ n) with
    | false =>
      go_enter Try.func45, Try.ntmps45
      go_wp2
      all_goals (try (go_region; go_wp2))
      all_goals
        go_ret
        refine ⟨?_, by first | exact al_below _ _ | exact al_below' _ _ _⟩
        rw [← HB.out]
        clear HB
        simp_all [oneR, endsK, namedK, textK, tl_size]
        all_goals (try first | omega | (obtain rfl : n = 0 := by omega) <;> simp)
    | true =>
      go_enter Try.func45, Try.ntmps45
      go_wp2
      all_goals (try (go_region; go_wp2))
      all_goals
        go_ret
        refine ⟨?_, by first | exact al_below _ _ | exact al_below' _ _ _⟩
        rw [← HB.out]
        clear HB
        simp_all [oneR, endsK, namedK, textK, tl_size]
        all_goals (try first | omega | (obtain rfl : n = 0 := by omega) <;> simp)
  · have hnn : decide (n ≤ n) = true := by simp
    cases n0 : decide (0 ≤ n) with
    | false =>
      go_enter Try.func45, Try.ntmps45
      go_wp2
      all_goals
        go_ret
        refine ⟨?_, by first | exact al_below _ _ | exact al_below' _ _ _⟩
        rw [← HB.out]
        clear HB
        simp_all [oneR, endsK, namedK, textK, tl_size]
        all_goals (try first | omega | (obtain rfl : n = 0 := by omega) <;> simp)
    | true =>
      cases m0 : decide (n ≤ 0) with
      | false =>
        go_enter Try.func45, Try.ntmps45
        go_wp2
        all_goals
          go_ret
          refine ⟨?_, by first | exact al_below _ _ | exact al_below' _ _ _⟩
          rw [← HB.out]
          clear HB
          simp_all [oneR, endsK, namedK, textK, tl_size]
          all_goals (try first | omega | (obtain rfl : n = 0 := by omega) <;> simp)
      | true =>
        go_enter Try.func45, Try.ntmps45
        go_wp2
        all_goals
          go_ret
          refine ⟨?_, by first | exact al_below _ _ | exact al_below' _ _ _⟩
          rw [← HB.out]
          clear HB
          simp_all [oneR, endsK, namedK, textK, tl_size]
          all_goals (try first | omega | (obtain rfl : n = 0 := by omega) <;> simp)
  · have e1 : (k == 1) = false := by simpa using k1
    have e14 : (k == 14) = false := by simpa using k14
    have e3 : (k == 3) = false := by simpa using k3
    have e4 : (k == 4) = false := by simpa using k4
    have e5 : (k == 5) = false := by simpa using k5
    have e6 : (k == 6) = false := by simpa using k6
    have e7 : (k == 7) = false := by simpa using k7
    have e2 : (k == 2) = false := by simpa using k2
    cases u1 : decide (1 ≤ k) with
    | false =>
      go_enter Try.func45, Try.ntmps45
      go_wp2
      all_goals
        go_ret
        refine ⟨?_, by first | exact al_below _ _ | exact al_below' _ _ _⟩
        rw [← HB.out]
        clear HB
        simp_all [oneR, endsK, namedK, textK, tl_size]
        all_goals (try first | omega | (obtain rfl : n = 0 := by omega) <;> simp)
    | true =>
      cases u2 : decide (k ≤ 14) with
      | false =>
        go_enter Try.func45, Try.ntmps45
        go_wp2
        all_goals
          go_ret
          refine ⟨?_, by first | exact al_below _ _ | exact al_below' _ _ _⟩
          rw [← HB.out]
          clear HB
          simp_all [oneR, endsK, namedK, textK, tl_size]
          all_goals (try first | omega | (obtain rfl : n = 0 := by omega) <;> simp)
      | true =>
        cases n0 : decide (0 ≤ n) with
        | false =>
          go_enter Try.func45, Try.ntmps45
          go_wp2
          all_goals
            go_ret
            refine ⟨?_, by first | exact al_below _ _ | exact al_below' _ _ _⟩
            rw [← HB.out]
            clear HB
            simp_all [oneR, endsK, namedK, textK, tl_size]
            all_goals (try first | omega | (obtain rfl : n = 0 := by omega) <;> simp)
        | true =>
          cases m0 : decide (n ≤ 0) with
          | false =>
            go_enter Try.func45, Try.ntmps45
            go_wp2
            all_goals
              go_ret
              refine ⟨?_, by first | exact al_below _ _ | exact al_below' _ _ _⟩
              rw [← HB.out]
              clear HB
              simp_all [oneR, endsK, namedK, textK, tl_size]
              all_goals (try first | omega | (obtain rfl : n = 0 := by omega) <;> simp)
          | true =>
            go_enter Try.func45, Try.ntmps45
            go_wp2
            all_goals
              go_ret
              refine ⟨?_, by first | exact al_below _ _ | exact al_below' _ _ _⟩
              rw [← HB.out]
              clear HB
              simp_all [oneR, endsK, namedK, textK, tl_size]
              all_goals (try first | omega | (obtain rfl : n = 0 := by omega) <;> simp)
theorem decides_any (e : S44) (w : World) : Calls Try.prog 46 #[evV e] w fun e' w' => e' = .returned (.bool (decR e)) ∧ Below w.heap.size w w' := by
  obtain ⟨k, n, s, a⟩ := e
  unfold evV
  have hk : k = 5 ∨ k = 6 ∨ k = 7 ∨ k = 8 ∨ k = 9 ∨ k = 11 ∨ k = 12 ∨ k = 13 ∨ (¬ k = 5 ∧ ¬ k = 6 ∧ ¬ k = 7 ∧ ¬ k = 8 ∧ ¬ k = 9 ∧ ¬ k = 11 ∧ ¬ k = 12 ∧ ¬ k = 13) := by omega
  obtain ⟨b, hb⟩ : ∃ b, decR ⟨k, n, s, a⟩ = b := ⟨_, rfl⟩
  rw [hb]
  have HB := Lib.hid hb
  clear hb
  rcases hk with rfl | rfl | rfl | rfl | rfl | rfl | rfl | rfl | ⟨k5, k6, k7, k8, k9, k11, k12, k13⟩
  case inr.inr.inr.inr.inr.inr.inr.inr =>
    have e5 : (k == 5) = false := by simpa using k5
    have e6 : (k == 6) = false := by simpa using k6
    have e7 : (k == 7) = false := by simpa using k7
    have e8 : (k == 8) = false := by simpa using k8
    have e9 : (k == 9) = false := by simpa using k9
    have e11 : (k == 11) = false := by simpa using k11
    have e12 : (k == 12) = false := by simpa using k12
    have e13 : (k == 13) = false := by simpa using k13
    go_enter Try.func46, Try.ntmps46
    go_wp2
    go_ret
    refine ⟨?_, al_below _ _⟩
    rw [← HB.out]
    clear HB
    simp_all [decR, endsK]
  all_goals
    go_enter Try.func46, Try.ntmps46
    go_wp2
    go_ret
    refine ⟨?_, al_below _ _⟩
    rw [← HB.out]
    clear HB
    simp [decR, endsK]
end Go.Proofs.Ytnognmbapciegaa.Bk
namespace Go.Proofs.Ytnognmbapciegaa.Bk
open Go.RowKit Go.Proofs.YtnognmbapciegaaW.PrintWords Go.Proofs.YtnognmbapciegaaW.PrintLast Go.Proofs.YtnognmbapciegaaW.PrintMore Go.Proofs.Ytnognmbapciegaa.PBk
set_option linter.unusedVariables false
set_option linter.unusedSimpArgs false

theorem rd44_drop (es : List S44) (k : Nat) (h : k < es.length) : es.drop k = rd_T44 es (k : Int) :: es.drop (k + 1) := by
  rw [List.drop_eq_getElem_cons h]
  congr 1
  simp [rd_T44, List.getD_eq_getElem?_getD, List.getElem?_eq_getElem h]
/-- What the next event makes of a trace. -/
theorem trF_step (T : Int) (e : S44) (es : List S44) : trF T (e :: es) = (oneR e && (if e.f0 = 1 then decide (e.f3 = 0) else decide (T ≤ e.f3)) && (es.isEmpty || !decR e) && trF e.f3 es) := rfl
def Cells44 (e : S44) : Array Value := #[.int .i64 e.f0, .int .i64 e.f1, .string e.f2, .int .i64 e.f3]
theorem cells44 {w : World} {g : Nat} {e : S44} (h : w.heap[g]? = some (.cells (Cells44 e) 44 (0, 0))) : w.cell? ⟨g, 0, none⟩ = some (.int .i64 e.f0) ∧ w.cell? ⟨g, 1, none⟩ = some (.int .i64 e.f1) ∧ w.cell? ⟨g, 2, none⟩ = some (.string e.f2) ∧ w.cell? ⟨g, 3, none⟩ = some (.int .i64 e.f3) :=
  ⟨blk_cell h 0, blk_cell h 1, blk_cell h 2, blk_cell h 3⟩
theorem empty_drop {es : List S44} {k : Nat} : (es.drop (k + 1)).isEmpty = !decide ((k : Int) < (es.length : Int) - 1) := by
  rw [Bool.eq_iff_iff]
  simp
  omega

set_option maxHeartbeats 800000 in
set_option maxRecDepth 100000 in
theorem trRight_any (w : World) (A : Option Addr) (c : Nat) (es : List S44) (hC : Kd.C k44 w A es.length es) (hl : es.length ≤ 140737488355328) : Calls Try.prog 24 #[.slice A es.length c] w fun e' w' => e' = .returned (.bool (trR es)) ∧ Below w.heap.size w w' := by
  go_enter Try.func24, Try.ntmps24
  go_wp2_with fail
  go_loopw [3, 8] (fun at_ i wr => ∃ (k : Nat) (T : Int), at_ = .int .i64 T ∧ i = .int .i64 (k : Int) ∧ k ≤ es.length ∧ Hid (Below w.heap.size w wr) ∧ Hid (trR es = trF T (es.drop k))) (fun _ i _ => es.length - (iOf i).toNat)
  case atStart => exact ⟨0, 0, rfl, rfl, by omega, Lib.hid (Below.refl _ _), Lib.hid rfl⟩
  case round =>
    obtain ⟨k, T, rfl, rfl, hk, HB, HE⟩ := hrel
    by_cases hlt : k < es.length
    · have hd := rd44_drop es k hlt
      obtain ⟨ad, rfl, f0, f1, f2, f3⟩ := at_T44 (Kd.C_below hC HB.out) (k : Int) (by omega) (by omega)
      obtain ⟨e, he⟩ : ∃ e, rd_T44 es (k : Int) = e := ⟨_, rfl⟩
      rw [he] at f0 f1 f2 f3 hd
      simp only [Int.toNat_natCast] at f0 f1 f2 f3
      have HE2 := HE.out
      rw [hd, trF_step, empty_drop] at HE2
      have HF := Lib.hid HE2
      have H1 := fun w => one_any e w
      have H2 := fun w => decides_any e w
      have hc4 : (Cells44 e) = #[.int .i64 e.f0, .int .i64 e.f1, .string e.f2, .int .i64 e.f3] := rfl
      have hw1 : wrap64 ((es.length : Int) - 1) = (es.length : Int) - 1 := by unfold wrap64; omega
      clear HE2 hd he HE
      by_cases h1 : e.f0 = 1
      · have g1 : (e.f0 == 1) = true := by simpa using h1
        have HH1 := Lib.hid h1
        clear h1
        by_cases h2 : e.f3 = 0
        · have g2 : (e.f3 == 0) = true := by simpa using h2
          have g2' : (e.f3 != 0) = false := by simpa using h2
          have HH2 := Lib.hid h2
          clear h2
          cases o1 : oneR e with
          | false =>
            simp only [o1] at H1
            go_wp2_with (first
              | (go_at_call 45; refine (H1 _).mono ?_; rintro e' w2 ⟨rfl, hb2⟩; have hx := blk_below (blk_new wr (.cells (Cells44 e) 44)) hb2; (obtain ⟨x0, x1, x2, x3⟩ := cells44 hx); have HX := Lib.hid hx; have HB2 := Lib.hid (HB.out.trans ((al_below wr (.cells (Cells44 e) 44)).mono HB.out.size |>.trans (hb2.mono (Nat.le_trans HB.out.size (al_below wr (.cells (Cells44 e) 44)).size)))); clear hb2 hx)
              | (go_at_call 46; refine (H2 _).mono ?_; rintro e' w3 ⟨rfl, hb3⟩; have hx := blk_below HX.out hb3; (obtain ⟨y0, y1, y2, y3⟩ := cells44 hx); have HB3 := Lib.hid (HB2.out.trans (hb3.mono HB2.out.size)); clear hb3 hx))
            go_ret
            exact ⟨by rw [HF.out]; simp [HH1.out, HH2.out, o1], HB2.out⟩
          | true =>
            simp only [o1] at H1
            cases o2 : decide (e.f3 < (0 : Int)) with
            | true =>
              have o2' : ¬ (0 : Int) ≤ e.f3 := by have := of_decide_eq_true o2; omega
              go_wp2_with (first
                | (go_at_call 45; refine (H1 _).mono ?_; rintro e' w2 ⟨rfl, hb2⟩; have hx := blk_below (blk_new wr (.cells (Cells44 e) 44)) hb2; (obtain ⟨x0, x1, x2, x3⟩ := cells44 hx); have HX := Lib.hid hx; have HB2 := Lib.hid (HB.out.trans ((al_below wr (.cells (Cells44 e) 44)).mono HB.out.size |>.trans (hb2.mono (Nat.le_trans HB.out.size (al_below wr (.cells (Cells44 e) 44)).size)))); clear hb2 hx)
                | (go_at_call 46; refine (H2 _).mono ?_; rintro e' w3 ⟨rfl, hb3⟩; have hx := blk_below HX.out hb3; (obtain ⟨y0, y1, y2, y3⟩ := cells44 hx); have HB3 := Lib.hid (HB2.out.trans (hb3.mono HB2.out.size)); clear hb3 hx))
              go_ret
              exact ⟨by rw [HF.out]; simp [HH1.out, HH2.out, o1, o2'] <;> (intros; exfalso; have t1 := of_decide_eq_true o2; (try have t2 := HH2.out); omega), HB2.out⟩
            | false =>
              have o2' : (0 : Int) ≤ e.f3 := by have := of_decide_eq_false o2; omega
              cases o3 : decR e with
              | false =>
                simp only [o3] at H2
                go_wp2_with (first
                  | (go_at_call 45; refine (H1 _).mono ?_; rintro e' w2 ⟨rfl, hb2⟩; have hx := blk_below (blk_new wr (.cells (Cells44 e) 44)) hb2; (obtain ⟨x0, x1, x2, x3⟩ := cells44 hx); have HX := Lib.hid hx; have HB2 := Lib.hid (HB.out.trans ((al_below wr (.cells (Cells44 e) 44)).mono HB.out.size |>.trans (hb2.mono (Nat.le_trans HB.out.size (al_below wr (.cells (Cells44 e) 44)).size)))); clear hb2 hx)
                  | (go_at_call 46; refine (H2 _).mono ?_; rintro e' w3 ⟨rfl, hb3⟩; have hx := blk_below HX.out hb3; (obtain ⟨y0, y1, y2, y3⟩ := cells44 hx); have HB3 := Lib.hid (HB2.out.trans (hb3.mono HB2.out.size)); clear hb3 hx))
                go_roundw
                case rel => exact ⟨k + 1, e.f3, rfl, by first | rfl | go_num, by omega, HB3, Lib.hid (by rw [HF.out]; simp [HH1.out, HH2.out, o1, o2', o3])⟩
                case measure => simp [iOf]; omega
              | true =>
                simp only [o3] at H2
                cases o4 : decide ((k : Int) < (es.length : Int) - 1) with
                | true =>
                  go_wp2_with (first
                    | (go_at_call 45; refine (H1 _).mono ?_; rintro e' w2 ⟨rfl, hb2⟩; have hx := blk_below (blk_new wr (.cells (Cells44 e) 44)) hb2; (obtain ⟨x0, x1, x2, x3⟩ := cells44 hx); have HX := Lib.hid hx; have HB2 := Lib.hid (HB.out.trans ((al_below wr (.cells (Cells44 e) 44)).mono HB.out.size |>.trans (hb2.mono (Nat.le_trans HB.out.size (al_below wr (.cells (Cells44 e) 44)).size)))); clear hb2 hx)
                    | (go_at_call 46; refine (H2 _).mono ?_; rintro e' w3 ⟨rfl, hb3⟩; have hx := blk_below HX.out hb3; (obtain ⟨y0, y1, y2, y3⟩ := cells44 hx); have HB3 := Lib.hid (HB2.out.trans (hb3.mono HB2.out.size)); clear hb3 hx))
                  go_ret
                  exact ⟨by rw [HF.out]; simp [HH1.out, HH2.out, o1, o2', o3, o4], HB3.out⟩
                | false =>
                  go_wp2_with (first
                    | (go_at_call 45; refine (H1 _).mono ?_; rintro e' w2 ⟨rfl, hb2⟩; have hx := blk_below (blk_new wr (.cells (Cells44 e) 44)) hb2; (obtain ⟨x0, x1, x2, x3⟩ := cells44 hx); have HX := Lib.hid hx; have HB2 := Lib.hid (HB.out.trans ((al_below wr (.cells (Cells44 e) 44)).mono HB.out.size |>.trans (hb2.mono (Nat.le_trans HB.out.size (al_below wr (.cells (Cells44 e) 44)).size)))); clear hb2 hx)
                    | (go_at_call 46; refine (H2 _).mono ?_; rintro e' w3 ⟨rfl, hb3⟩; have hx := blk_below HX.out hb3; (obtain ⟨y0, y1, y2, y3⟩ := cells44 hx); have HB3 := Lib.hid (HB2.out.trans (hb3.mono HB2.out.size)); clear hb3 hx))
                  go_roundw
                  case rel => exact ⟨k + 1, e.f3, rfl, by first | rfl | go_num, by omega, HB3, Lib.hid (by rw [HF.out]; simp [HH1.out, HH2.out, o1, o2', o3, o4])⟩
                  case measure => simp [iOf]; omega
        · have g2 : (e.f3 == 0) = false := by simpa using h2
          have g2' : (e.f3 != 0) = true := by simpa using h2
          have HH2 := Lib.hid h2
          clear h2
          go_wp2_with fail
          go_ret
          exact ⟨by rw [HF.out]; simp [HH1.out, HH2.out], HB.out.alloc HB.out.size _⟩
      · have g1 : (e.f0 == 1) = false := by simpa using h1
        have HH1 := Lib.hid h1
        clear h1
        cases o1 : oneR e with
        | false =>
          simp only [o1] at H1
          go_wp2_with (first
            | (go_at_call 45; refine (H1 _).mono ?_; rintro e' w2 ⟨rfl, hb2⟩; have hx := blk_below (blk_new wr (.cells (Cells44 e) 44)) hb2; (obtain ⟨x0, x1, x2, x3⟩ := cells44 hx); have HX := Lib.hid hx; have HB2 := Lib.hid (HB.out.trans ((al_below wr (.cells (Cells44 e) 44)).mono HB.out.size |>.trans (hb2.mono (Nat.le_trans HB.out.size (al_below wr (.cells (Cells44 e) 44)).size)))); clear hb2 hx)
            | (go_at_call 46; refine (H2 _).mono ?_; rintro e' w3 ⟨rfl, hb3⟩; have hx := blk_below HX.out hb3; (obtain ⟨y0, y1, y2, y3⟩ := cells44 hx); have HB3 := Lib.hid (HB2.out.trans (hb3.mono HB2.out.size)); clear hb3 hx))
          go_ret
          exact ⟨by rw [HF.out]; simp [HH1.out, o1], HB2.out⟩
        | true =>
          simp only [o1] at H1
          cases o2 : decide (e.f3 < T) with
          | true =>
            have o2' : ¬ T ≤ e.f3 := by have := of_decide_eq_true o2; omega
            go_wp2_with (first
              | (go_at_call 45; refine (H1 _).mono ?_; rintro e' w2 ⟨rfl, hb2⟩; have hx := blk_below (blk_new wr (.cells (Cells44 e) 44)) hb2; (obtain ⟨x0, x1, x2, x3⟩ := cells44 hx); have HX := Lib.hid hx; have HB2 := Lib.hid (HB.out.trans ((al_below wr (.cells (Cells44 e) 44)).mono HB.out.size |>.trans (hb2.mono (Nat.le_trans HB.out.size (al_below wr (.cells (Cells44 e) 44)).size)))); clear hb2 hx)
              | (go_at_call 46; refine (H2 _).mono ?_; rintro e' w3 ⟨rfl, hb3⟩; have hx := blk_below HX.out hb3; (obtain ⟨y0, y1, y2, y3⟩ := cells44 hx); have HB3 := Lib.hid (HB2.out.trans (hb3.mono HB2.out.size)); clear hb3 hx))
            go_ret
            exact ⟨by rw [HF.out]; simp [HH1.out, o1, o2'] <;> (intros; exfalso; have t1 := of_decide_eq_true o2; (try have t2 := HH2.out); omega), HB2.out⟩
          | false =>
            have o2' : T ≤ e.f3 := by have := of_decide_eq_false o2; omega
            cases o3 : decR e with
            | false =>
              simp only [o3] at H2
              go_wp2_with (first
                | (go_at_call 45; refine (H1 _).mono ?_; rintro e' w2 ⟨rfl, hb2⟩; have hx := blk_below (blk_new wr (.cells (Cells44 e) 44)) hb2; (obtain ⟨x0, x1, x2, x3⟩ := cells44 hx); have HX := Lib.hid hx; have HB2 := Lib.hid (HB.out.trans ((al_below wr (.cells (Cells44 e) 44)).mono HB.out.size |>.trans (hb2.mono (Nat.le_trans HB.out.size (al_below wr (.cells (Cells44 e) 44)).size)))); clear hb2 hx)
                | (go_at_call 46; refine (H2 _).mono ?_; rintro e' w3 ⟨rfl, hb3⟩; have hx := blk_below HX.out hb3; (obtain ⟨y0, y1, y2, y3⟩ := cells44 hx); have HB3 := Lib.hid (HB2.out.trans (hb3.mono HB2.out.size)); clear hb3 hx))
              go_roundw
              case rel => exact ⟨k + 1, e.f3, rfl, by first | rfl | go_num, by omega, HB3, Lib.hid (by rw [HF.out]; simp [HH1.out, o1, o2', o3])⟩
              case measure => simp [iOf]; omega
            | true =>
              simp only [o3] at H2
              cases o4 : decide ((k : Int) < (es.length : Int) - 1) with
              | true =>
                go_wp2_with (first
                  | (go_at_call 45; refine (H1 _).mono ?_; rintro e' w2 ⟨rfl, hb2⟩; have hx := blk_below (blk_new wr (.cells (Cells44 e) 44)) hb2; (obtain ⟨x0, x1, x2, x3⟩ := cells44 hx); have HX := Lib.hid hx; have HB2 := Lib.hid (HB.out.trans ((al_below wr (.cells (Cells44 e) 44)).mono HB.out.size |>.trans (hb2.mono (Nat.le_trans HB.out.size (al_below wr (.cells (Cells44 e) 44)).size)))); clear hb2 hx)
                  | (go_at_call 46; refine (H2 _).mono ?_; rintro e' w3 ⟨rfl, hb3⟩; have hx := blk_below HX.out hb3; (obtain ⟨y0, y1, y2, y3⟩ := cells44 hx); have HB3 := Lib.hid (HB2.out.trans (hb3.mono HB2.out.size)); clear hb3 hx))
                go_ret
                exact ⟨by rw [HF.out]; simp [HH1.out, o1, o2', o3, o4], HB3.out⟩
              | false =>
                go_wp2_with (first
                  | (go_at_call 45; refine (H1 _).mono ?_; rintro e' w2 ⟨rfl, hb2⟩; have hx := blk_below (blk_new wr (.cells (Cells44 e) 44)) hb2; (obtain ⟨x0, x1, x2, x3⟩ := cells44 hx); have HX := Lib.hid hx; have HB2 := Lib.hid (HB.out.trans ((al_below wr (.cells (Cells44 e) 44)).mono HB.out.size |>.trans (hb2.mono (Nat.le_trans HB.out.size (al_below wr (.cells (Cells44 e) 44)).size)))); clear hb2 hx)
                  | (go_at_call 46; refine (H2 _).mono ?_; rintro e' w3 ⟨rfl, hb3⟩; have hx := blk_below HX.out hb3; (obtain ⟨y0, y1, y2, y3⟩ := cells44 hx); have HB3 := Lib.hid (HB2.out.trans (hb3.mono HB2.out.size)); clear hb3 hx))
                go_roundw
                case rel => exact ⟨k + 1, e.f3, rfl, by first | rfl | go_num, by omega, HB3, Lib.hid (by rw [HF.out]; simp [HH1.out, o1, o2', o3, o4])⟩
                case measure => simp [iOf]; omega
    · obtain rfl : k = es.length := by omega
      go_wp2_with fail
      go_ret
      exact ⟨by rw [HE.out, List.drop_length]; rfl, HB.out⟩
end Go.Proofs.Ytnognmbapciegaa.Bk
namespace Go.Proofs.Ytnognmbapciegaa.Bk
open Go.RowKit Go.Proofs.YtnognmbapciegaaW.PrintWords Go.Proofs.YtnognmbapciegaaW.PrintLast Go.Proofs.YtnognmbapciegaaW.PrintMore Go.Proofs.Ytnognmbapciegaa.PBk
set_option linter.unusedVariables false
set_option linter.unusedSimpArgs false

set_option maxHeartbeats 800000 in
theorem index_any (w : World) (A : Option Addr) (c : Nat) (es : List S44) (hC : Kd.C k44 w A es.length es) (hl : es.length ≤ 140737488355328) : Calls Try.prog 47 #[.slice A es.length c, .func (.func 21) #[] #[]] w fun e' w' => (∃ i : Int, e' = .returned (.int .i64 i) ∧ (decide (0 ≤ i) = es.any greatR)) ∧ Below w.heap.size w w' := by
  go_enter Try.func47, Try.ntmps47
  go_wp2_with fail
  go_loopw [8] (fun i wr => ∃ k : Nat, i = .int .i64 (k : Int) ∧ k ≤ es.length ∧ Hid (Below w.heap.size w wr) ∧ Hid (es.any greatR = (es.drop k).any greatR)) (fun i _ => es.length - (iOf i).toNat)
  case atStart => exact ⟨0, rfl, by omega, Lib.hid (Below.refl _ _), Lib.hid rfl⟩
  case round =>
    obtain ⟨k, rfl, hk, HB, HE⟩ := hrel
    by_cases hlt : k < es.length
    · have hd := rd44_drop es k hlt
      obtain ⟨ad, rfl, f0, f1, f2, f3⟩ := at_T44 (Kd.C_below hC HB.out) (k : Int) (by omega) (by omega)
      obtain ⟨e, he⟩ : ∃ e, rd_T44 es (k : Int) = e := ⟨_, rfl⟩
      rw [he] at f0 f1 f2 f3 hd
      simp only [Int.toNat_natCast] at f0 f1 f2 f3
      have HE2 := HE.out
      rw [hd, List.any_cons] at HE2
      have HF := Lib.hid HE2
      have H1 := fun w => great_any e w
      clear HE2 hd he HE
      cases o1 : greatR e with
      | true =>
        simp only [o1] at H1
        go_wp2_with (first | (go_at_call 21; refine (H1 _).mono ?_; rintro e' w2 ⟨rfl, hb2⟩))
        go_ret
        exact ⟨⟨_, rfl, by rw [HF.out, o1]; simp⟩, HB.out.trans (hb2.mono HB.out.size)⟩
      | false =>
        simp only [o1] at H1
        go_wp2_with (first | (go_at_call 21; refine (H1 _).mono ?_; rintro e' w2 ⟨rfl, hb2⟩))
        go_roundw
        case rel => exact ⟨k + 1, by first | rfl | go_num, by omega, Lib.hid (HB.out.trans (hb2.mono HB.out.size)), Lib.hid (by rw [HF.out, o1]; simp)⟩
        case measure => simp [iOf]; omega
    · obtain rfl : k = es.length := by omega
      go_wp2_with fail
      go_ret
      exact ⟨⟨_, rfl, by rw [HE.out, List.drop_length]; rfl⟩, HB.out⟩
theorem contains_any (w : World) (A : Option Addr) (c : Nat) (es : List S44) (hC : Kd.C k44 w A es.length es) (hl : es.length ≤ 140737488355328) : Calls Try.prog 25 #[.slice A es.length c, .func (.func 21) #[] #[]] w fun e' w' => e' = .returned (.bool (es.any greatR)) ∧ Below w.heap.size w w' := by
  have HI := Lib.hid (index_any w A c es hC hl)
  go_enter Try.func25, Try.ntmps25
  go_wp2_with (first | (go_at_call 47; refine HI.out.mono ?_; rintro e' w2 ⟨⟨i, rfl, hi⟩, hb2⟩))
  go_ret
  exact ⟨by rw [← hi]; rfl, hb2⟩
theorem name_any (s : ByteArray) (w : World) : Calls Try.prog 22 #[.string s] w fun e' w' => e' = .returned (.bool (decide (0 < s.size) && decide (s.size ≤ 80))) ∧ w' = w := by
  cases g1 : decide ((s.size : Int) ≥ 1) with
  | true =>
    have h1 : decide (0 < s.size) = true := decide_eq_true (by have := of_decide_eq_true g1; omega)
    rw [h1]
    go_enter Try.func22, Try.ntmps22
    go_wp2
    go_ret
    exact ⟨by simp; omega, rfl⟩
  | false =>
    have h1 : decide (0 < s.size) = false := decide_eq_false (fun h => by have := of_decide_eq_false g1; omega)
    rw [h1]
    go_enter Try.func22, Try.ntmps22
    go_wp2
    go_ret
    exact ⟨by simp, rfl⟩
theorem rd42_drop (es : List S42) (k : Nat) (h : k < es.length) : es.drop k = rd_T42 es (k : Int) :: es.drop (k + 1) := by
  rw [List.drop_eq_getElem_cons h]
  congr 1
  simp [rd_T42, List.getD_eq_getElem?_getD, List.getElem?_eq_getElem h]
theorem rdL_drop (es : List (List S44)) (k : Nat) (h : k < es.length) : es.drop k = rd_L4 es (k : Int) :: es.drop (k + 1) := by
  rw [List.drop_eq_getElem_cons h]
  congr 1
  simp [rd_L4, List.getD_eq_getElem?_getD, List.getElem?_eq_getElem h]
theorem vtext_ok (v : Int) : (vtext v).toList = [] ↔ ¬ (1 ≤ v ∧ v ≤ 7) := by
  rw [tl_size]
  unfold vtext
  repeat' split
  all_goals first | exact ⟨fun h => absurd h (by decide), fun h => absurd ⟨by omega, by omega⟩ h⟩ | exact ⟨fun _ => by omega, fun _ => rfl⟩
def Cells25 (g : Int) (A1 A2 : Option Addr) (n1 n2 c1 c2 : Nat) : Array Value := #[.int .i64 g, .slice A1 n1 c1, .slice A2 n2 c2]
theorem all_gr (t : List S44) : (t.all fun e => !greatR e) = !(t.any greatR) := by
  induction t with
  | nil => rfl
  | cons e t ih => simp [ih]
theorem resR_eq (x : S42) (t : List S44) : resR (x, t) = ((decide (0 < x.f0.size) && decide (x.f0.size ≤ 80)) && (decide (1 ≤ x.f1) && decide (x.f1 ≤ 7)) && trR t && !(t.any greatR)) := by
  unfold resR
  rw [all_gr]
  simp [Bool.and_assoc]

set_option maxHeartbeats 1000000 in
set_option maxRecDepth 100000 in
theorem right_any : RightC := by
  intro w en A1 A2 c1 c2 hC1 hC2 hl1 hl2 hs1 hs2
  obtain ⟨G, rs, ts⟩ := en
  simp only at hC1 hC2 hl1 hl2 hs1 hs2 ⊢
  have hdef : rightE ⟨G, rs, ts⟩ = (decide (0 ≤ G) && decide (G ≤ 1048576) && decide (rs.length = ts.length) && (rs.zip ts).all resR) := rfl
  have HD := Lib.hid hdef
  clear hdef
  cases o1 : decide (G < 0) with
  | true =>
    have h1 : decide (0 ≤ G) = false := by have := of_decide_eq_true o1; simp; omega
    rw [HD.out, h1]
    go_enter Try.func10, Try.ntmps10
    go_wp2_with fail
    go_ret
    exact ⟨rfl, al_below _ _⟩
  | false =>
    have h1 : decide (0 ≤ G) = true := by have := of_decide_eq_false o1; simp; omega
    cases o2 : decide (G > 1048576) with
    | true =>
      have h2 : decide (G ≤ 1048576) = false := by have := of_decide_eq_true o2; simp; omega
      rw [HD.out, h1, h2]
      go_enter Try.func10, Try.ntmps10
      go_wp2_with fail
      go_ret
      exact ⟨rfl, al_below _ _⟩
    | false =>
      have h2 : decide (G ≤ 1048576) = true := by have := of_decide_eq_false o2; simp; omega
      by_cases hn : rs.length = ts.length
      · have g3 : ((rs.length : Int) != (ts.length : Int)) = false := by simp [hn]
        have h3 : decide (rs.length = ts.length) = true := by simpa using hn
        have HD2 : Hid (rightE ⟨G, rs, ts⟩ = (rs.zip ts).all resR) := Lib.hid (by rw [HD.out, h1, h2, h3]; rfl)
        have HN := Lib.hid hn
        have hz : (rs.zip ts).length = rs.length := by rw [List.length_zip]; omega
        have HZ := Lib.hid hz
        clear hn hz h1 h2 h3 HD
        have H2 := Lib.hid hs2
        clear hs2
        go_enter Try.func10, Try.ntmps10
        go_wp2_with fail
        go_loopw [26] (fun i wr => ∃ k : Nat, i = .int .i64 (k : Int) ∧ k ≤ rs.length ∧ Hid (Below (w.alloc (.cells (Cells25 G A1 A2 rs.length ts.length c1 c2) 25)).heap.size (w.alloc (.cells (Cells25 G A1 A2 rs.length ts.length c1 c2) 25)) wr) ∧ Hid (rightE ⟨G, rs, ts⟩ = ((rs.drop k).zip (ts.drop k)).all resR)) (fun i _ => rs.length - (iOf i).toNat)
        case atStart => exact ⟨0, rfl, by omega, Lib.hid (Below.refl _ _), Lib.hid HD2.out⟩
        case round =>
          obtain ⟨k, rfl, hk, HB, HE⟩ := hrel
          have HBw := Lib.hid ((al_below w (.cells (Cells25 G A1 A2 rs.length ts.length c1 c2) 25)).trans (HB.out.mono (al_below w (.cells (Cells25 G A1 A2 rs.length ts.length c1 c2) 25)).size))
          have hbx := blk_below (blk_new w (.cells (Cells25 G A1 A2 rs.length ts.length c1 c2) 25)) HB.out
          have HBX := Lib.hid hbx
          have b1 : wr.cell? ⟨w.heap.size, 1, none⟩ = some (.slice A1 rs.length c1) := blk_cell hbx 1
          have b2 : wr.cell? ⟨w.heap.size, 2, none⟩ = some (.slice A2 ts.length c2) := blk_cell hbx 2
          clear hbx
          by_cases hlt : k < rs.length
          · have hlt2 : k < ts.length := by have := HN.out; omega
            have hd1 := rd42_drop rs k hlt
            have hd2 := rdL_drop ts k hlt2
            obtain ⟨ad, rfl, f0, f1⟩ := at_T42 (Kd.C_below hC1 HBw.out) (k : Int) (by omega) (by omega)
            obtain ⟨ad2, A0, c0, rfl, e0, hl0, hC0⟩ := at_L4 (Kd.C_below hC2 HBw.out) (k : Int) (by omega) (by omega)
            have hts : (rd_L4 ts (k : Int)).length ≤ 140737488355328 := H2.out _ (List.mem_of_mem_drop (i := k) (by rw [hd2]; simp))
            obtain ⟨x, hx⟩ : ∃ x, rd_T42 rs (k : Int) = x := ⟨_, rfl⟩
            obtain ⟨t, ht⟩ : ∃ t, rd_L4 ts (k : Int) = t := ⟨_, rfl⟩
            rw [hx] at f0 f1 hd1
            rw [ht] at e0 hl0 hC0 hd2 hts
            simp only [Int.toNat_natCast] at f0 f1 e0
            have HE2 := HE.out
            rw [hd1, hd2, List.zip_cons_cons, List.all_cons, resR_eq] at HE2
            have HF := Lib.hid HE2
            have H1 := fun w => name_any x.f0 w
            have HT := fun w => text_any x.f1 w
            have hC0' := Lib.hid hC0
            obtain ⟨S, hS⟩ : ∃ S, vtext x.f1 = S := ⟨_, rfl⟩
            have hvt := vtext_ok x.f1
            simp only [hS] at HT hvt
            clear HE2 hd1 hd2 hx ht HE hC0 hS
            cases o3 : (decide (0 < x.f0.size) && decide (x.f0.size ≤ 80)) with
            | false =>
              simp only [o3] at H1 HF
              go_wp2_with (first
                | (go_at_call 22; refine (H1 _).mono ?_; rintro e' w2 ⟨rfl, rfl⟩))
              go_ret
              exact ⟨by rw [HF.out]; simp, HBw.out.trans ((al_below wr _).mono HBw.out.size)⟩
            | true =>
              simp only [o3] at H1 HF
              by_cases hv : 1 ≤ x.f1 ∧ x.f1 ≤ 7
              · have hv' : ¬ S.toList = [] := fun h => (hvt.mp h) hv
                have hvE : S.toList.isEmpty = false := by simpa using hv'
                have HV : Hid ((decide (1 ≤ x.f1) && decide (x.f1 ≤ 7)) = true) := Lib.hid (by simp [hv.1, hv.2])
                clear hv hvt
                cases o5 : trR t with
                | false =>
                  go_wp2_with (first
                    | (go_at_call 22; refine (H1 _).mono ?_; rintro e' w2 ⟨rfl, rfl⟩)
                    | (go_at_call 23; refine (HT _).mono ?_; rintro e' w3 ⟨rfl, hb3⟩; have HB3 := Lib.hid ((al_below wr (.cells #[.string x.f0, .int .i64 x.f1] 42)).trans (hb3.mono (al_below wr (.cells #[.string x.f0, .int .i64 x.f1] 42)).size)); have hbx3 := blk_below HBX.out HB3.out; have z2 : w3.cell? ⟨w.heap.size, 2, none⟩ = some (.slice (some ad2) ts.length c2) := blk_cell hbx3 2; have ze : w3.cell? (ad2.add k) = some (.slice A0 t.length c0) := pw_cell_below HB3.out e0; clear hb3 hbx3)
                    | (go_at_call 24; refine (trRight_any _ A0 c0 t (Kd.C_below hC0'.out HB3.out) hts).mono ?_; (try simp only [o5]); rintro e' w4 ⟨rfl, hb4⟩; have HB4 := Lib.hid (HB3.out.trans (hb4.mono HB3.out.size)); have hbx4 := blk_below HBX.out HB4.out; have y2 : w4.cell? ⟨w.heap.size, 2, none⟩ = some (.slice (some ad2) ts.length c2) := blk_cell hbx4 2; have ye : w4.cell? (ad2.add k) = some (.slice A0 t.length c0) := pw_cell_below HB4.out e0; clear hb4 hbx4))
                  go_ret
                  exact ⟨by rw [HF.out]; simp [o5], HBw.out.trans (HB4.out.mono HBw.out.size)⟩
                | true =>
                  cases o6 : t.any greatR with
                  | true =>
                    go_wp2_with (first
                      | (go_at_call 22; refine (H1 _).mono ?_; rintro e' w2 ⟨rfl, rfl⟩)
                      | (go_at_call 23; refine (HT _).mono ?_; rintro e' w3 ⟨rfl, hb3⟩; have HB3 := Lib.hid ((al_below wr (.cells #[.string x.f0, .int .i64 x.f1] 42)).trans (hb3.mono (al_below wr (.cells #[.string x.f0, .int .i64 x.f1] 42)).size)); have hbx3 := blk_below HBX.out HB3.out; have z2 : w3.cell? ⟨w.heap.size, 2, none⟩ = some (.slice (some ad2) ts.length c2) := blk_cell hbx3 2; have ze : w3.cell? (ad2.add k) = some (.slice A0 t.length c0) := pw_cell_below HB3.out e0; clear hb3 hbx3)
                      | (go_at_call 24; refine (trRight_any _ A0 c0 t (Kd.C_below hC0'.out HB3.out) hts).mono ?_; (try simp only [o5]); rintro e' w4 ⟨rfl, hb4⟩; have HB4 := Lib.hid (HB3.out.trans (hb4.mono HB3.out.size)); have hbx4 := blk_below HBX.out HB4.out; have y2 : w4.cell? ⟨w.heap.size, 2, none⟩ = some (.slice (some ad2) ts.length c2) := blk_cell hbx4 2; have ye : w4.cell? (ad2.add k) = some (.slice A0 t.length c0) := pw_cell_below HB4.out e0; clear hb4 hbx4)
                      | (go_at_call 25; refine (contains_any _ A0 c0 t (Kd.C_below hC0'.out HB4.out) hts).mono ?_; (try simp only [o6]); rintro e' w5 ⟨rfl, hb5⟩; have HB5 := Lib.hid (HB4.out.trans (hb5.mono HB4.out.size)); clear hb5))
                    go_ret
                    exact ⟨by rw [HF.out, HV.out, o5, o6]; rfl, HBw.out.trans (HB5.out.mono HBw.out.size)⟩
                  | false =>
                    go_wp2_with (first
                      | (go_at_call 22; refine (H1 _).mono ?_; rintro e' w2 ⟨rfl, rfl⟩)
                      | (go_at_call 23; refine (HT _).mono ?_; rintro e' w3 ⟨rfl, hb3⟩; have HB3 := Lib.hid ((al_below wr (.cells #[.string x.f0, .int .i64 x.f1] 42)).trans (hb3.mono (al_below wr (.cells #[.string x.f0, .int .i64 x.f1] 42)).size)); have hbx3 := blk_below HBX.out HB3.out; have z2 : w3.cell? ⟨w.heap.size, 2, none⟩ = some (.slice (some ad2) ts.length c2) := blk_cell hbx3 2; have ze : w3.cell? (ad2.add k) = some (.slice A0 t.length c0) := pw_cell_below HB3.out e0; clear hb3 hbx3)
                      | (go_at_call 24; refine (trRight_any _ A0 c0 t (Kd.C_below hC0'.out HB3.out) hts).mono ?_; (try simp only [o5]); rintro e' w4 ⟨rfl, hb4⟩; have HB4 := Lib.hid (HB3.out.trans (hb4.mono HB3.out.size)); have hbx4 := blk_below HBX.out HB4.out; have y2 : w4.cell? ⟨w.heap.size, 2, none⟩ = some (.slice (some ad2) ts.length c2) := blk_cell hbx4 2; have ye : w4.cell? (ad2.add k) = some (.slice A0 t.length c0) := pw_cell_below HB4.out e0; clear hb4 hbx4)
                      | (go_at_call 25; refine (contains_any _ A0 c0 t (Kd.C_below hC0'.out HB4.out) hts).mono ?_; (try simp only [o6]); rintro e' w5 ⟨rfl, hb5⟩; have HB5 := Lib.hid (HB4.out.trans (hb5.mono HB4.out.size)); clear hb5))
                    go_roundw
                    case rel => exact ⟨k + 1, by first | rfl | go_num, by omega, Lib.hid (HB.out.trans (HB5.out.mono HB.out.size)), Lib.hid (by rw [HF.out, HV.out, o5, o6]; rfl)⟩
                    case measure => simp [iOf]; omega
              · have hv' : S.toList = [] := hvt.mpr hv
                have hvE : S.toList.isEmpty = true := by simpa using hv'
                have HV : Hid ((decide (1 ≤ x.f1) && decide (x.f1 ≤ 7)) = false) := Lib.hid (by simp; omega)
                clear hv hvt
                go_wp2_with (first
                  | (go_at_call 22; refine (H1 _).mono ?_; rintro e' w2 ⟨rfl, rfl⟩)
                  | (go_at_call 23; refine (HT _).mono ?_; rintro e' w3 ⟨rfl, hb3⟩; have HB3 := Lib.hid ((al_below wr (.cells #[.string x.f0, .int .i64 x.f1] 42)).trans (hb3.mono (al_below wr (.cells #[.string x.f0, .int .i64 x.f1] 42)).size)); have hbx3 := blk_below HBX.out HB3.out; have z2 : w3.cell? ⟨w.heap.size, 2, none⟩ = some (.slice (some ad2) ts.length c2) := blk_cell hbx3 2; have ze : w3.cell? (ad2.add k) = some (.slice A0 t.length c0) := pw_cell_below HB3.out e0; clear hb3 hbx3))
                go_ret
                exact ⟨by rw [HF.out, HV.out]; rfl, HBw.out.trans (HB3.out.mono HBw.out.size)⟩
          · obtain rfl : k = rs.length := by omega
            go_wp2_with fail
            go_ret
            exact ⟨by rw [HE.out, List.drop_length]; rfl, HBw.out⟩
      · have g3 : ((rs.length : Int) != (ts.length : Int)) = true := by simp; omega
        have h3 : decide (rs.length = ts.length) = false := by simpa using hn
        rw [HD.out, h1, h2, h3]
        clear hn
        go_enter Try.func10, Try.ntmps10
        go_wp2_with fail
        go_ret
        exact ⟨rfl, al_below _ _⟩
end Go.Proofs.Ytnognmbapciegaa.Bk
namespace Go.Proofs.Ytnognmbapciegaa.Bk
open Go.RowKit Go.Proofs.YtnognmbapciegaaW.PrintWords Go.Proofs.YtnognmbapciegaaW.PrintLast Go.Proofs.YtnognmbapciegaaW.PrintMore Go.Proofs.Ytnognmbapciegaa.PBk
attribute [local go_sem] max2_int min2_int max_two min_two max_three min_three max_four min_four   -- for this text's walks alone
set_option linter.unusedVariables false
set_option linter.unusedSimpArgs false

/-- Bytes of the call's own. -/
def Own (w : World) (B : Nat) (v : Value) (xs : List Int) : Prop := Kd.R (Kd.int .u8) 5 w B (fun _ => True) v xs

set_option maxHeartbeats 400000 in
theorem clone_any (w : World) (A : Option Addr) (c : Nat) (xs : List Int) (hC : Kd.C (Kd.int .u8) w A xs.length xs) (hl : xs.length ≤ 70368744177664) : Calls Try.prog 43 #[.slice A xs.length c] w fun e w' => ∃ v, e = .returned v ∧ Own w' w.heap.size v xs ∧ Below w.heap.size w w' := by
  have qT : ∀ (w : World) (a : Option Addr) (n c n' c' : Nat), (binOp .eql 28 (.slice a n c) (.slice none n' c')).run Try.prog w = .ok (.bool a.isNone) w := fun w a n c n' c' => Lib.run_eql_slice_nil w 28 5 a n c n' c' Try.underlying28
  go_enter Try.func43, Try.ntmps43
  cases A with
  | none =>
    have hx : xs = [] := by
      cases xs with
      | nil => rfl
      | cons x xs =>
        obtain ⟨ad, h, _⟩ := ReadsInt.at_ (k := .u8) (Kd.reads_of_C (enc := Value.int .u8) (d := (0 : Int)) (h1 := fun _ => rfl) hC) 0 (by omega) (by simp)
        cases h
    subst hx
    go_wp2_with fail
    go_ret
    exact ⟨_, rfl, Kd.R_nil _ _ _ _ _, Below.refl _ _⟩
  | some ad =>
    go_wp2_with (first
      | ((with_reducible refine gate_dst (N := 5) rfl ?_); go_loud (refine Kd.R_lit (Kd.int .u8) w.heap.size 5 ?hg (N := 5) ?hd (xs := ([] : List Int)) (inner := []) (ok := fun _ => True) (okp := fun _ => True) ?hr ?hp (fun _ hk => hk) trivial (Below.refl w.heap.size w) (Nat.le_refl _) (by simp) ?_; (case hd => rfl); (case hg => rfl); (case hr => first | (go_simp; done) | (go_simp; rfl)); (case hp => exact (Reps.none _ _)); intro v5 w5 hr5 hb5 _ _; have HR5 := Lib.hid hr5; have HB5 := Lib.hid hb5; clear hr5 hb5))
      | ((with_reducible refine gate_builtin (b := .append) (xs := #[.tmp 5, .tmp 6]) rfl ?_); at_builtin; go_loud (refine Kd.R_append_rows (Kd.int .u8) (w0 := w) w.heap.size rfl (.tmp 5) (.tmp 6) 28 5 (.int .u8 0) 1 rfl Try.underlying28 info5 rfl (by decide) (by omega) v5 [] xs _ _ _ (fun _ => True) (fun _ => False) rfl rfl ?aO ?aR (fun _ _ h => h) (fun _ h => h.elim) ?aF ?aB ?aS ?aL ?_; (case aO => exact HR5.out); (case aR => exact Kd.C_below hC HB5.out); (case aF => exact fun _ _ => trivial); (case aB => exact HB5.out); (case aS => exact HB5.out.size); (case aL => simp; omega); intro v6 w6 hr6 hb6 _ _; have HR6 := Lib.hid hr6; have HB6 := Lib.hid hb6; clear hr6 hb6)))
    go_ret
    exact ⟨_, rfl, HR6.out, HB6.out⟩
theorem or128 (x : Int) (h0 : 0 ≤ x) (h1 : x < 256) : bits .or .u8 x 128 = x % 128 + 128 := by
  have key : ∀ n : Fin 256, bits .or .u8 ((n.val : Nat) : Int) 128 = ((n.val : Nat) : Int) % 128 + 128 := by decide +kernel
  have := key ⟨x.toNat, by omega⟩
  simpa [Int.toNat_of_nonneg h0] using this
theorem leb_more {f : Nat} {U : Int} (h : ¬ U < 128) : leb (f + 1) U = (U % 128 + 128) :: leb f (U / 128) := by rw [leb, if_neg h]
theorem leb_last {f : Nat} {U : Int} (h : U < 128) : leb f U = [U] := by
  cases f with
  | zero => rfl
  | succ f => rw [leb, if_pos h]
def PutInv (w : World) (B : Nat) (xs out : List Int) (i : Nat) (U : Int) (v : Value) (w' : World) : Prop :=
  i ≤ 8 ∧ 0 ≤ U ∧ U < 128 ^ (9 - i) ∧ ∃ ys, ys ++ leb (8 - i) U = out ∧ ys.length ≤ xs.length + i ∧ Own w' B v ys ∧ Below B w w'
theorem put_small {w w' : World} {B i : Nat} {xs out : List Int} {U : Int} {v : Value} (h : PutInv w B xs out i U v w') (hU : ¬ U < 128) : i < 8 ∧ U / 128 < 128 ^ (9 - (i + 1)) := by
  obtain ⟨h1, h2, h3, _⟩ := h
  have hi : i < 8 := by
    by_cases e : i = 8
    · subst e
      have : (128 : Int) ^ (9 - 8) = 128 := rfl
      omega
    · omega
  refine ⟨hi, ?_⟩
  have e : (128 : Int) ^ (9 - i) = 128 * 128 ^ (9 - (i + 1)) := by
    have e2 : 9 - i = (9 - (i + 1)) + 1 := by omega
    rw [e2, Int.pow_succ, Int.mul_comm]
  rw [e] at h3
  omega
theorem put_big {w w' : World} {B i : Nat} {xs out : List Int} {U : Int} {v : Value} (h : PutInv w B xs out i U v w') : U < 9223372036854775808 := by
  obtain ⟨h1, h2, h3, _⟩ := h
  have h4 : (128 : Int) ^ (9 - i) ≤ 128 ^ 9 := by exact_mod_cast Nat.pow_le_pow_right (n := 128) (by omega) (by omega : 9 - i ≤ 9)
  have e9 : (128 : Int) ^ 9 = 9223372036854775808 := rfl
  omega
theorem put_next {w w1 w6 : World} {B i : Nat} {xs out ys : List Int} {U : Int} {v v6 : Value} (h : PutInv w B xs out i U v w1) (hy : ys ++ leb (8 - i) U = out) (hyl : ys.length ≤ xs.length + i) (hp : 128 ≤ U ∧ i < 8 ∧ U / 128 < 128 ^ (9 - (i + 1))) (hR : Kd.R (Kd.int .u8) 5 w6 B (fun _ => True) v6 (ys ++ [U % 128 + 128])) (hb : Below B w w6) : PutInv w B xs out (i + 1) (U / 128) v6 w6 := by
  obtain ⟨h1, h2, h3, _⟩ := h
  refine ⟨by omega, by omega, hp.2.2, _, ?_, ?_, hR, hb⟩
  · rw [← hy]
    obtain ⟨f, hf⟩ : ∃ f, 8 - i = f + 1 := ⟨7 - i, by omega⟩
    have hf' : 8 - (i + 1) = f := by omega
    rw [hf, hf', leb_more (by omega), List.append_assoc]
    rfl
  · rw [List.length_append, List.length_singleton]
    omega
set_option maxHeartbeats 400000 in
set_option maxRecDepth 100000 in
theorem put_any (w : World) (B : Nat) (v : Value) (xs : List Int) (n : Int) (hB : B ≤ w.heap.size) (hR : Own w B v xs) (hl : xs.length ≤ 70368744177664) : Calls Try.prog 42 #[v, .int .i64 n] w fun e w' => ∃ v', e = .returned v' ∧ Own w' B v' (xs ++ num n) ∧ Below B w w' := by
  obtain ⟨N, hN⟩ : ∃ N, N = clamp n := ⟨_, rfl⟩
  have hN0 : 0 ≤ N ∧ N ≤ 4611686018427387904 := by rw [hN]; unfold clamp; omega
  have bN : IntKind.u64.wrap (min (max n 0) 4611686018427387904) = N := by rw [hN]; exact wraps_u64 _ (by omega) (by have e63 : (2 : Int) ^ 63 = 9223372036854775808 := rfl; omega)
  have HI : Hid (PutInv w B xs (xs ++ num n) 0 N v w) := by
    refine Lib.hid ⟨by omega, hN0.1, ?_, xs, ?_, by omega, hR, Below.refl _ _⟩
    · have e9 : (128 : Int) ^ (9 - 0) = 9223372036854775808 := rfl
      omega
    · rw [hN]; rfl
  have HNN : Hid (N = min (max n 0) 4611686018427387904) := Lib.hid (by rw [hN]; unfold clamp; rfl)
  clear hR hN
  go_enter Try.func42, Try.ntmps42
  go_wp2_with fail
  refine wp_scope_jumps 0 (fun a' w' => ∃ (i : Nat) (U : Int) (v' : Value) (u6 u7 u8 u9 u10 u11 u12 u13 u14 u15 u16 u17 u18 u19 u20 u21 u22 u23 u24 : Value), a' = { tmps := #[v', .int .i64 n, undef, undef, .slice none 0 0, .int .u64 U, u6, u7, u8, u9, u10, u11, u12, u13, u14, u15, u16, u17, u18, u19, u20, u21, u22, u23, u24], defers := [] } ∧ Hid (PutInv w B xs (xs ++ num n) i U v' w')) (fun a' _ => (iOf (a'.tmps.getD 5 undef)).toNat) rfl ?_ ?_
  · go_wp2_with fail
    all_goals go_step3
    · have HI2 : Hid (PutInv w B xs (xs ++ num n) 0 4611686018427387904 v w) := by
        have e : N = 4611686018427387904 := by have := HNN.out; omega
        have h := HI.out
        rw [e] at h
        exact Lib.hid h
      clear HI HNN
      obtain ⟨hi8, hU0, hUb, ys, hys, hyl, hown, hbel⟩ := HI2.out
      have hbig := put_big HI2.out
      have HO := Lib.hid hown
      have HW := Lib.hid hbel
      have HL : Hid ((ys.length + 1) * 1 ≤ 140737488355328) := Lib.hid (by omega)
      have HY := Lib.hid hys
      have HYL := Lib.hid hyl
      clear hown hbel hys
      have hps := Lib.hid (And.intro (show (128 : Int) ≤ 4611686018427387904 by decide) (put_small HI2.out (by decide)))
      have b1 : bits .or .u8 0 128 = 128 := by decide
      clear hUb
      go_wp2_with (first
        | ((with_reducible refine gate_builtin (b := .append) (xs := #[.tmp 12, .tmp 16]) rfl ?_); at_builtin; go_loud (refine Kd.R_append (Kd.int .u8) (w0 := w) B rfl (.tmp 12) (.tmp 16) 28 5 (.int .u8 0) 1 rfl Try.underlying28 info5 rfl (by decide) (by omega) (v) ys 128 [.int .u8 128] (fun _ => True) (fun _ => False) rfl rfl ?aP (fun _ hk => hk.elim) ?aF ?aO ?aB ?aS ?aL ?_; (case aP => exact rfl); (case aF => exact fun _ _ => trivial); (case aO => exact HO.out); (case aB => exact HW.out); (case aS => exact Nat.le_trans hB HW.out.size); (case aL => exact HL.out); intro v6 w6 hr6 hb6 _ _; have HR6 := Lib.hid hr6; have HB6 := Lib.hid hb6; clear hr6 hb6)))
      go_step3
      exact ⟨rfl, 1, 36028797018963968, v6, _, _, _, _, _, _, _, _, _, _, _, _, _, _, _, _, _, _, _, rfl, Lib.hid (put_next HI2.out HY.out HYL.out hps.out HR6.out HB6.out)⟩
    · have HI2 : Hid (PutInv w B xs (xs ++ num n) 0 0 v w) := by
        have e : N = 0 := by have := HNN.out; omega
        have h := HI.out
        rw [e] at h
        exact Lib.hid h
      clear HI HNN
      obtain ⟨hi8, hU0, hUb, ys, hys, hyl, hown, hbel⟩ := HI2.out
      have hbig := put_big HI2.out
      have HO := Lib.hid hown
      have HW := Lib.hid hbel
      have HL : Hid ((ys.length + 1) * 1 ≤ 140737488355328) := Lib.hid (by omega)
      have HY := Lib.hid hys
      have HYL := Lib.hid hyl
      clear hown hbel hys
      have HX : Hid (ys ++ [(0 : Int)] = xs ++ num n) := Lib.hid (by rw [← HY.out, leb_last (by decide)])
      clear hUb
      go_wp2_with (first
        | ((with_reducible refine gate_builtin (b := .append) (xs := #[.tmp 20, .tmp 23]) rfl ?_); at_builtin; go_loud (refine Kd.R_append (Kd.int .u8) (w0 := w) B rfl (.tmp 20) (.tmp 23) 28 5 (.int .u8 0) 1 rfl Try.underlying28 info5 rfl (by decide) (by omega) (v) ys 0 [.int .u8 0] (fun _ => True) (fun _ => False) rfl rfl ?aP (fun _ hk => hk.elim) ?aF ?aO ?aB ?aS ?aL ?_; (case aP => exact rfl); (case aF => exact fun _ _ => trivial); (case aO => exact HO.out); (case aB => exact HW.out); (case aS => exact Nat.le_trans hB HW.out.size); (case aL => exact HL.out); intro v6 w6 hr6 hb6 _ _; have HR6 := Lib.hid hr6; have HB6 := Lib.hid hb6; clear hr6 hb6)))
      simp only [Exit.jump]
      go_ret
      exact ⟨_, rfl, by rw [← HX.out]; exact HR6.out, HB6.out⟩
    · have HI2 : Hid (PutInv w B xs (xs ++ num n) 0 n v w) := by
        have e : N = n := by have := HNN.out; omega
        have h := HI.out
        rw [e] at h
        exact Lib.hid h
      clear HI HNN
      obtain ⟨hi8, hU0, hUb, ys, hys, hyl, hown, hbel⟩ := HI2.out
      have hbig := put_big HI2.out
      have HO := Lib.hid hown
      have HW := Lib.hid hbel
      have HL : Hid ((ys.length + 1) * 1 ≤ 140737488355328) := Lib.hid (by omega)
      have HY := Lib.hid hys
      have HYL := Lib.hid hyl
      clear hown hbel hys
      by_cases hU : n < 128
      · have g1 : decide (n > 127) = false := by simp; omega
        have g2 : n % 256 = n := by omega
        have HX : Hid (ys ++ [n] = xs ++ num n) := Lib.hid (by rw [← HY.out, leb_last hU])
        clear hU hUb
        go_wp2_with (first
          | ((with_reducible refine gate_builtin (b := .append) (xs := #[.tmp 20, .tmp 23]) rfl ?_); at_builtin; go_loud (refine Kd.R_append (Kd.int .u8) (w0 := w) B rfl (.tmp 20) (.tmp 23) 28 5 (.int .u8 0) 1 rfl Try.underlying28 info5 rfl (by decide) (by omega) (v) ys n [.int .u8 n] (fun _ => True) (fun _ => False) rfl rfl ?aP (fun _ hk => hk.elim) ?aF ?aO ?aB ?aS ?aL ?_; (case aP => exact rfl); (case aF => exact fun _ _ => trivial); (case aO => exact HO.out); (case aB => exact HW.out); (case aS => exact Nat.le_trans hB HW.out.size); (case aL => exact HL.out); intro v6 w6 hr6 hb6 _ _; have HR6 := Lib.hid hr6; have HB6 := Lib.hid hb6; clear hr6 hb6)))
        simp only [Exit.jump]
        go_ret
        exact ⟨_, rfl, by rw [← HX.out]; exact HR6.out, HB6.out⟩
      · have g1 : decide (n > 127) = true := by simp; omega
        have hps := Lib.hid (And.intro (show (128 : Int) ≤ n by omega) (put_small HI2.out hU))
        have b1 := or128 (n % 256) (by omega) (by omega)
        have b2 : n % 256 % 128 + 128 = n % 128 + 128 := by omega
        rw [b2] at b1
        clear b2 hU hUb
        go_wp2_with (first
          | ((with_reducible refine gate_builtin (b := .append) (xs := #[.tmp 12, .tmp 16]) rfl ?_); at_builtin; go_loud (refine Kd.R_append (Kd.int .u8) (w0 := w) B rfl (.tmp 12) (.tmp 16) 28 5 (.int .u8 0) 1 rfl Try.underlying28 info5 rfl (by decide) (by omega) (v) ys (n % 128 + 128) [.int .u8 (n % 128 + 128)] (fun _ => True) (fun _ => False) rfl rfl ?aP (fun _ hk => hk.elim) ?aF ?aO ?aB ?aS ?aL ?_; (case aP => exact rfl); (case aF => exact fun _ _ => trivial); (case aO => exact HO.out); (case aB => exact HW.out); (case aS => exact Nat.le_trans hB HW.out.size); (case aL => exact HL.out); intro v6 w6 hr6 hb6 _ _; have HR6 := Lib.hid hr6; have HB6 := Lib.hid hb6; clear hr6 hb6)))
        go_step3
        exact ⟨rfl, _, _, v6, _, _, _, _, _, _, _, _, _, _, _, _, _, _, _, _, _, _, _, rfl, Lib.hid (put_next HI2.out HY.out HYL.out hps.out HR6.out HB6.out)⟩
  · rintro a' w1 ⟨i, U, v1, u6, u7, u8, u9, u10, u11, u12, u13, u14, u15, u16, u17, u18, u19, u20, u21, u22, u23, u24, rfl, HI2⟩
    obtain ⟨hi8, hU0, hUb, ys, hys, hyl, hown, hbel⟩ := HI2.out
    have hbig := put_big HI2.out
    have HO := Lib.hid hown
    have HW := Lib.hid hbel
    have HL : Hid ((ys.length + 1) * 1 ≤ 140737488355328) := Lib.hid (by omega)
    have HY := Lib.hid hys
    have HYL := Lib.hid hyl
    clear hown hbel hys
    by_cases hU : U < 128
    · have g1 : decide (U > 127) = false := by simp; omega
      have g2 : U % 256 = U := by omega
      have HX : Hid (ys ++ [U] = xs ++ num n) := Lib.hid (by rw [← HY.out, leb_last hU])
      clear hU hUb
      go_wp2_with (first
        | ((with_reducible refine gate_builtin (b := .append) (xs := #[.tmp 20, .tmp 23]) rfl ?_); at_builtin; go_loud (refine Kd.R_append (Kd.int .u8) (w0 := w) B rfl (.tmp 20) (.tmp 23) 28 5 (.int .u8 0) 1 rfl Try.underlying28 info5 rfl (by decide) (by omega) (v1) ys U [.int .u8 U] (fun _ => True) (fun _ => False) rfl rfl ?aP (fun _ hk => hk.elim) ?aF ?aO ?aB ?aS ?aL ?_; (case aP => exact rfl); (case aF => exact fun _ _ => trivial); (case aO => exact HO.out); (case aB => exact HW.out); (case aS => exact Nat.le_trans hB HW.out.size); (case aL => exact HL.out); intro v6 w6 hr6 hb6 _ _; have HR6 := Lib.hid hr6; have HB6 := Lib.hid hb6; clear hr6 hb6)))
      simp only [Exit.jump]
      go_ret
      exact ⟨_, rfl, by rw [← HX.out]; exact HR6.out, HB6.out⟩
    · have g1 : decide (U > 127) = true := by simp; omega
      have hps := Lib.hid (And.intro (show (128 : Int) ≤ U by omega) (put_small HI2.out hU))
      have b1 := or128 (U % 256) (by omega) (by omega)
      have b2 : U % 256 % 128 + 128 = U % 128 + 128 := by omega
      rw [b2] at b1
      clear b2 hU hUb
      go_wp2_with (first
        | ((with_reducible refine gate_builtin (b := .append) (xs := #[.tmp 12, .tmp 16]) rfl ?_); at_builtin; go_loud (refine Kd.R_append (Kd.int .u8) (w0 := w) B rfl (.tmp 12) (.tmp 16) 28 5 (.int .u8 0) 1 rfl Try.underlying28 info5 rfl (by decide) (by omega) (v1) ys (U % 128 + 128) [.int .u8 (U % 128 + 128)] (fun _ => True) (fun _ => False) rfl rfl ?aP (fun _ hk => hk.elim) ?aF ?aO ?aB ?aS ?aL ?_; (case aP => exact rfl); (case aF => exact fun _ _ => trivial); (case aO => exact HO.out); (case aB => exact HW.out); (case aS => exact Nat.le_trans hB HW.out.size); (case aL => exact HL.out); intro v6 w6 hr6 hb6 _ _; have HR6 := Lib.hid hr6; have HB6 := Lib.hid hb6; clear hr6 hb6)))
      go_step3
      exact ⟨rfl, ⟨_, _, v6, _, _, _, _, _, _, _, _, _, _, _, _, _, _, _, _, _, _, _, rfl, Lib.hid (put_next HI2.out HY.out HYL.out hps.out HR6.out HB6.out)⟩, by have := hps.out.1; simp [iOf]; omega⟩
end Go.Proofs.Ytnognmbapciegaa.Bk
namespace Go.Proofs.Ytnognmbapciegaa.Bk
open Go.RowKit Go.Proofs.YtnognmbapciegaaW.PrintWords Go.Proofs.YtnognmbapciegaaW.PrintLast Go.Proofs.YtnognmbapciegaaW.PrintMore Go.Proofs.Ytnognmbapciegaa.PBk
set_option linter.unusedVariables false
set_option linter.unusedSimpArgs false

/-- A slice of bytes, made by the call. -/
def Made (w w' : World) (xs : List Int) (e : Ending) : Prop := ∃ (A : Option Addr) (n c : Nat), e = .returned (.slice A n c) ∧ n = xs.length ∧ Own w' w.heap.size (.slice A n c) xs ∧ Below w.heap.size w w'
theorem made_of {w w' : World} {xs : List Int} {v : Value} (h : Own w' w.heap.size v xs) (hb : Below w.heap.size w w') : Made w w' xs (.returned v) := by
  obtain ⟨A, c, rfl⟩ := Kd.R_slice h
  exact ⟨A, _, c, rfl, rfl, h, hb⟩
theorem own_C {w : World} {B n : Nat} {A : Option Addr} {c : Nat} {xs : List Int} (h : Own w B (.slice A n c) xs) (hn : n = xs.length) : Kd.C (Kd.int .u8) w A n xs := by
  subst hn
  exact (Kd.R_reads' h).2.2
theorem own_nums {w : World} {B : Nat} {v : Value} {xs : List Int} (h : Own w B v xs) : w.ownsRow B 5 1 v xs.length (nums .u8 xs) := Kd.own_of_R (enc := Value.int .u8) (h1 := fun _ => rfl) h

set_option maxHeartbeats 400000 in
theorem pnum_any (w : World) (A : Option Addr) (m c : Nat) (xs : List Int) (n : Int) (hm : m = xs.length) (hC : Kd.C (Kd.int .u8) w A m xs) (hl : xs.length ≤ 35184372088832) : Calls Try.prog 19 #[.slice A m c, .int .i64 n] w fun e w' => Made w w' (xs ++ num n) e := by
  subst hm
  have H1 := Lib.hid (clone_any w A c xs hC (by omega))
  have HL := Lib.hid hl
  clear hC hl
  go_enter Try.func19, Try.ntmps19
  go_wp2_with (first
    | (go_at_call 43; refine H1.out.mono ?_; rintro e w2 ⟨v2, rfl, ho, hb⟩; have HO := Lib.hid ho; have HB := Lib.hid hb; clear ho hb)
    | (go_at_call 42; refine (put_any w2 w.heap.size v2 xs n HB.out.size HO.out (by have := HL.out; omega)).mono ?_; rintro e w3 ⟨v3, rfl, ho, hb⟩; have HO3 := Lib.hid ho; have HB3 := Lib.hid (HB.out.trans hb); clear ho hb))
  go_ret
  exact made_of HO3.out HB3.out
set_option maxHeartbeats 400000 in
theorem ptext_any (w : World) (A : Option Addr) (m c : Nat) (xs : List Int) (s : ByteArray) (hm : m = xs.length) (hC : Kd.C (Kd.int .u8) w A m xs) (hl : xs.length ≤ 35184372088832) (hs : s.size ≤ 35184372088832) : Calls Try.prog 20 #[.slice A m c, .string s] w fun e w' => Made w w' (xs ++ txt s) e := by
  have H1 := Lib.hid (pnum_any w A m c xs (s.size : Int) hm hC hl)
  have HL := Lib.hid hl
  have HS := Lib.hid hs
  have hnl := (num_len (s.size : Int)).2
  have HN := Lib.hid hnl
  clear hC hl hs hnl hm
  go_enter Try.func20, Try.ntmps20
  go_wp2_with (first
    | (go_at_call 19; refine H1.out.mono ?_; rintro e w2 ⟨A2, n2, c2, rfl, hn2, ho, hb⟩; have HO := Lib.hid ho; have HB := Lib.hid hb; clear ho hb hn2)
    | ((with_reducible refine gate_builtin (b := .append) (xs := #[.tmp 8, .tmp 9]) rfl ?_); at_builtin; go_loud (refine print_append_str (w0 := w) w.heap.size rfl (.tmp 8) (.tmp 9) 28 9 5 rfl Try.underlying28 Try.underlying9 info5 (.slice A2 n2 c2) (xs ++ num (s.size : Int)) s rfl rfl ?aO HB.out HB.out.size ?aL ?_; (case aO => exact own_nums HO.out); (case aL => have h1 := HL.out; have h2 := HS.out; have h3 := HN.out; rw [List.length_append]; omega); intro v6 w6 hr6 hb6 _; have HR6 := Lib.hid hr6; have HB6 := Lib.hid hb6; clear hr6 hb6)))
  go_ret
  refine made_of ?_ HB6.out
  rw [txt, ← List.append_assoc]
  exact Kd.R_of_own HR6.out (fun _ _ => trivial)
end Go.Proofs.Ytnognmbapciegaa.Bk
namespace Go.Proofs.Ytnognmbapciegaa.Bk
open Go.RowKit Go.Proofs.YtnognmbapciegaaW.PrintWords Go.Proofs.YtnognmbapciegaaW.PrintLast Go.Proofs.YtnognmbapciegaaW.PrintMore Go.Proofs.Ytnognmbapciegaa.PBk
set_option linter.unusedVariables false
set_option linter.unusedSimpArgs false

theorem pack_bad (w : World) (en : Ent) (A1 A2 : Option Addr) (c1 c2 : Nat) (hC1 : Kd.C k42 w A1 en.rs.length en.rs) (hC2 : Kd.C (Kd.slice 44 k44) w A2 en.ts.length en.ts) (hl1 : en.rs.length ≤ c1) (hl2 : en.ts.length ≤ c2) (hs1 : en.rs.length ≤ 140737488355328) (hs2 : ∀ t, t ∈ en.ts → t.length ≤ 140737488355328) (hr : rightE en = false) :
    Calls Try.prog 9 #[.agg #[.int .i64 en.g, .slice A1 en.rs.length c1, .slice A2 en.ts.length c2]] w fun e w' => e = .returned (.tuple #[.slice none 0 0, .int .i64 1]) ∧ Below w.heap.size w w' := by
  have HR := Lib.hid (right_any (w.alloc (.cells (Cells25 en.g A1 A2 en.rs.length en.ts.length c1 c2) 25)) en A1 A2 c1 c2 (Kd.C_alloc hC1 _) (Kd.C_alloc hC2 _) hl1 hl2 hs1 hs2)
  rw [hr] at HR
  clear hC1 hC2 hs2 hr
  go_enter Try.func9, Try.ntmps9
  go_wp2_with (first | (go_at_call 10; refine HR.out.mono ?_; rintro e w2 ⟨rfl, hb⟩))
  go_ret2
  exact ⟨rfl, (al_below w _).trans (hb.mono (al_below w _).size)⟩

theorem nil_C (w : World) : Kd.C (Kd.int .u8) w none 0 [] := Kd.C_nil _ _
def PackW (w : World) (G : Int) (A1 A2 : Option Addr) (n1 n2 c1 c2 : Nat) : World := w.alloc (.cells (Cells25 G A1 A2 n1 n2 c1 c2) 25)
/-- So far packed, to be packed. -/
structure Pk (wE : World) (B : Nat) (out rest : List Int) (v : Value) (n : Nat) (wr : World) : Prop where
  below : Below wE.heap.size wE wr
  own : ∃ ys, n = ys.length ∧ Own wr B v ys ∧ ys ++ rest = out

set_option maxHeartbeats 1000000 in
set_option maxRecDepth 100000 in
theorem pack_ok (w : World) (en : Ent) (A1 A2 : Option Addr) (c1 c2 : Nat) (hC1 : Kd.C k42 w A1 en.rs.length en.rs) (hC2 : Kd.C (Kd.slice 44 k44) w A2 en.ts.length en.ts) (hl1 : en.rs.length ≤ c1) (hl2 : en.ts.length ≤ c2) (hs1 : en.rs.length ≤ 140737488355328) (hs2 : ∀ t, t ∈ en.ts → t.length ≤ 140737488355328) (hr : rightE en = true) (hout : (pack en).length ≤ 17592186044416) :
    Calls Try.prog 9 #[.agg #[.int .i64 en.g, .slice A1 en.rs.length c1, .slice A2 en.ts.length c2]] w fun e w' => ∃ (A : Option Addr) (n c : Nat), e = .returned (.tuple #[.slice A n c, .int .i64 0]) ∧ n = (pack en).length ∧ Own w' w.heap.size (.slice A n c) (pack en) ∧ Below w.heap.size w w' := by
  have HR := Lib.hid (right_any (w.alloc (.cells (Cells25 en.g A1 A2 en.rs.length en.ts.length c1 c2) 25)) en A1 A2 c1 c2 (Kd.C_alloc hC1 _) (Kd.C_alloc hC2 _) hl1 hl2 hs1 hs2)
  rw [hr] at HR
  obtain ⟨G, rs, ts⟩ := en
  simp only at hC1 hC2 hl1 hl2 hs1 hs2 HR ⊢
  have hlen : rs.length = ts.length := by
    simp only [rightE, Bool.and_eq_true, decide_eq_true_eq] at hr
    exact hr.1.2
  have hevs : ∀ k, k < rs.length → k < ts.length → RsOk (rd_T42 rs (k : Int), rd_L4 ts (k : Int)) ∧ (∀ e, e ∈ rd_L4 ts (k : Int) → EvOk e) := by
    intro k h1 h2
    have hz : (rd_T42 rs (k : Int), rd_L4 ts (k : Int)) ∈ rs.zip ts := by
      have h3 : (rd_T42 rs (k : Int), rd_L4 ts (k : Int)) ∈ (rs.drop k).zip (ts.drop k) := by
        rw [rd42_drop rs k h1, rdL_drop ts k h2, List.zip_cons_cons]
        exact List.mem_cons_self
      rw [List.zip, ← List.drop_zipWith] at h3
      exact List.mem_of_mem_drop h3
    simp only [rightE, Bool.and_eq_true, decide_eq_true_eq, List.all_eq_true] at hr
    have h4 := rsOk_of (hr.2 _ hz) (by have := hs2 _ (List.of_mem_zip hz).2; simp only; omega)
    exact ⟨h4, h4.es⟩
  have HEV := Lib.hid hevs
  have HLN := Lib.hid hlen
  have HOL := Lib.hid hout
  have H2 := Lib.hid hs2
  obtain ⟨out, hout'⟩ : ∃ out, out = pack ⟨G, rs, ts⟩ := ⟨_, rfl⟩
  have HOUT := Lib.hid hout'
  rw [← hout'] at HOL ⊢
  clear hs2 hr hout hevs hlen hout'
  go_enter Try.func9, Try.ntmps9
  go_upto_region 3 with (first | (go_at_call 10; refine HR.out.mono ?_; rintro e w2 ⟨rfl, hb⟩; have hbx := blk_below (blk_new w (.cells (Cells25 G A1 A2 rs.length ts.length c1 c2) 25)) hb; have b0 : w2.cell? ⟨w.heap.size, 0, none⟩ = some (.int .i64 G) := blk_cell hbx 0; have b1 : w2.cell? ⟨w.heap.size, 1, none⟩ = some (.slice A1 rs.length c1) := blk_cell hbx 1; have HB2 := Lib.hid hb; clear hb hbx))
  go_region_held3 (fun w' => w'.cell? ⟨w.heap.size, 0, none⟩ = some (.int .i64 G) ∧ w'.cell? ⟨w.heap.size, 1, none⟩ = some (.slice A1 rs.length c1)) (first | exact ⟨b0, b1⟩ | go_keep)
    (first
      | (go_at_call 19; (have hguard := HO4; clear hguard); go_loud (refine (pnum_any _ A4 n4 c4 ([] ++ num G) ((rs.length : Int)) HN4.out (by repeat (first | exact own_C HO4.out HN4.out | (with_reducible refine Kd.C_drew ?_))) (by have := (num_len G).2; simp; omega)).mono ?_; rintro e5 w5 ⟨A5, n5, c5, rfl, hn5, ho, hb⟩; have HB5 : Hid (Below (w.alloc (.cells (Cells25 G A1 A2 rs.length ts.length c1 c2) 25)).heap.size (w.alloc (.cells (Cells25 G A1 A2 rs.length ts.length c1 c2) 25)) w5) := Lib.hid (by first | exact HB4.out.trans (hb.mono HB4.out.size) | exact HB4.out.drew.trans (hb.mono HB4.out.size)); have HO5 : Hid (Own w5 w.heap.size (.slice A5 n5 c5) _) := Lib.hid (Kd.R_lower ho (by first | exact HB4.out.size | exact Nat.le_trans (al_below w _).size HB4.out.size)); have hbx := blk_below (blk_new w (.cells (Cells25 G A1 A2 rs.length ts.length c1 c2) 25)) HB5.out; have HN5 := Lib.hid hn5; have b0 : w5.cell? ⟨w.heap.size, 0, none⟩ = some (.int .i64 G) := blk_cell hbx 0; have b1 : w5.cell? ⟨w.heap.size, 1, none⟩ = some (.slice A1 rs.length c1) := blk_cell hbx 1; clear hb ho hbx hn5))
      | (go_at_call 19; (have hguard := HB2; clear hguard); go_loud (refine (pnum_any _ none 0 0 ([]) (G) rfl (nil_C _) (by simp)).mono ?_; rintro e5 w4 ⟨A4, n4, c4, rfl, hn4, ho, hb⟩; have HB4 : Hid (Below (w.alloc (.cells (Cells25 G A1 A2 rs.length ts.length c1 c2) 25)).heap.size (w.alloc (.cells (Cells25 G A1 A2 rs.length ts.length c1 c2) 25)) w4) := Lib.hid (by first | exact HB2.out.trans (hb.mono HB2.out.size) | exact HB2.out.drew.trans (hb.mono HB2.out.size)); have HO4 : Hid (Own w4 w.heap.size (.slice A4 n4 c4) _) := Lib.hid (Kd.R_lower ho (by first | exact HB2.out.size | exact Nat.le_trans (al_below w _).size HB2.out.size)); have hbx := blk_below (blk_new w (.cells (Cells25 G A1 A2 rs.length ts.length c1 c2) 25)) HB4.out; have HN4 := Lib.hid hn4; have b0 : w4.cell? ⟨w.heap.size, 0, none⟩ = some (.int .i64 G) := blk_cell hbx 0; have b1 : w4.cell? ⟨w.heap.size, 1, none⟩ = some (.slice A1 rs.length c1) := blk_cell hbx 1; clear hb ho hbx hn4)))
  all_goals go_wp2_with fail
  go_loopw [4, 22] (fun b i wr => ∃ (k : Nat) (A : Option Addr) (m c : Nat) (ys : List Int), b = .slice A m c ∧ i = .int .i64 (k : Int) ∧ k ≤ rs.length ∧ Hid (m = ys.length) ∧ Hid (Below (w.alloc (.cells (Cells25 G A1 A2 rs.length ts.length c1 c2) 25)).heap.size (w.alloc (.cells (Cells25 G A1 A2 rs.length ts.length c1 c2) 25)) wr) ∧ Hid (Own wr w.heap.size (.slice A m c) ys) ∧ Hid (ys ++ resesB ((rs.drop k).zip (ts.drop k)) = out)) (fun _ i _ => rs.length - (iOf i).toNat)
  case atStart => exact ⟨0, A5, n5, c5, _, rfl, rfl, by omega, HN5, HB5, HO5, Lib.hid (by rw [HOUT.out]; simp [pack])⟩
  case round =>
    clear HO5 HN5 HB5
    obtain ⟨k, A, m, c, ys, rfl, rfl, hk, HM, HB, HO, HE⟩ := hrel
    have HW := Lib.hid ((al_below w (.cells (Cells25 G A1 A2 rs.length ts.length c1 c2) 25)).trans (HB.out.mono (al_below w (.cells (Cells25 G A1 A2 rs.length ts.length c1 c2) 25)).size))
    have HYL : Hid (ys.length ≤ 17592186044416) := by
      have h1 := congrArg List.length HE.out
      rw [List.length_append] at h1
      have h2 := HOL.out
      exact Lib.hid (by omega)
    by_cases hlt : k < rs.length
    · have hlt2 : k < ts.length := by have := HLN.out; omega
      have hd1 := rd42_drop rs k hlt
      have hd2 := rdL_drop ts k hlt2
      obtain ⟨ad, rfl, f0, f1⟩ := at_T42 hC1 (k : Int) (by omega) (by omega)
      obtain ⟨ad2, A0, c0, rfl, e0, hl0, hC0⟩ := at_L4 hC2 (k : Int) (by omega) (by omega)
      have hev := HEV.out k hlt hlt2
      have hts := H2.out _ (List.mem_of_mem_drop (i := k) (by rw [hd2]; simp : rd_L4 ts (k : Int) ∈ ts.drop k))
      obtain ⟨x, hx⟩ : ∃ x, rd_T42 rs (k : Int) = x := ⟨_, rfl⟩
      obtain ⟨t, ht⟩ : ∃ t, rd_L4 ts (k : Int) = t := ⟨_, rfl⟩
      rw [hx] at f0 f1 hd1 hev
      rw [ht] at e0 hl0 hC0 hd2 hev hts
      simp only [Int.toNat_natCast] at f0 f1 e0
      have hE2 := HE.out
      rw [hd1, hd2, List.zip_cons_cons] at hE2
      have HF := Lib.hid hE2
      have HX2 := Lib.hid hev.2
      have HXS : Hid (x.f0.size ≤ 80 ∧ t.length ≤ 140737488355328) := Lib.hid ⟨by have := hev.1.s1; simp only at this; omega, hts⟩
      have hq0 := pw_cell_below HW.out f0
      have hq1 := pw_cell_below HW.out f1
      have hbx := blk_below (blk_new w (.cells (Cells25 G (some ad) (some ad2) rs.length ts.length c1 c2) 25)) HB.out
      have p2 : wr.cell? ⟨w.heap.size, 2, none⟩ = some (.slice (some ad2) ts.length c2) := blk_cell hbx 2
      have p3 := pw_cell_below HW.out e0
      have HC0 := Lib.hid hC0
      clear hE2 hev hd1 hd2 hx ht hC0 hbx hts
      go_upto_region 7 with (fail)
      go_region_held3 (fun w' => w'.cell? ⟨wr.heap.size, 0, none⟩ = some (.string x.f0) ∧ w'.cell? ⟨wr.heap.size, 1, none⟩ = some (.int .i64 x.f1) ∧ w'.cell? ⟨w.heap.size, 2, none⟩ = some (.slice (some ad2) ts.length c2) ∧ w'.cell? (ad2.add k) = some (.slice A0 t.length c0)) (first | exact ⟨p08, p18, p28, p38⟩ | exact ⟨p07, p17, p27, p37⟩ | exact ⟨p06, p16, p26, p36⟩ | go_keep)
        (first
          | (go_at_call 19; (have hguard := HO7; clear hguard); go_loud (refine (pnum_any _ A7 n7 c7 (ys ++ txt x.f0 ++ num x.f1) ((t.length : Int)) HN7.out (by repeat (first | exact own_C HO7.out HN7.out | (with_reducible refine Kd.C_alloc ?_ _) | (with_reducible refine Kd.C_drew ?_))) (by have t1 := HYL.out; have t2 := HXS.out.1; have t3 := (num_len (x.f0.size : Int)).2; have t4 := (num_len x.f1).2; (try simp only [List.length_append, txt, bytesOf_length]); omega)).mono ?_; rintro e5 w8 ⟨A8, n8, c8, rfl, hn8, ho, hb⟩; have HB8 : Hid (Below (w.alloc (.cells (Cells25 G (some ad) (some ad2) rs.length ts.length c1 c2) 25)).heap.size (w.alloc (.cells (Cells25 G (some ad) (some ad2) rs.length ts.length c1 c2) 25)) w8) := Lib.hid (by first | exact HB7.out.trans (hb.mono HB7.out.size) | exact HB7.out.drew.trans (hb.mono HB7.out.size) | exact (HB7.out.alloc HB7.out.size _).trans (hb.mono (HB7.out.alloc HB7.out.size _).size) | exact (HB7.out.alloc HB7.out.size _).drew.trans (hb.mono (HB7.out.alloc HB7.out.size _).size)); have HW8 : Hid (Below w.heap.size w w8) := Lib.hid ((al_below w _).trans (HB8.out.mono (al_below w _).size)); have HO8 : Hid (Own w8 w.heap.size (.slice A8 n8 c8) _) := Lib.hid (Kd.R_lower ho (Nat.le_trans (al_below w _).size (by first | exact HB7.out.size | exact (HB7.out.alloc HB7.out.size _).size))); have HN8 := Lib.hid hn8; have hbx := blk_below (blk_new w (.cells (Cells25 G (some ad) (some ad2) rs.length ts.length c1 c2) 25)) HB8.out; have xb8 : w8.heap[wr.heap.size]? = some (.cells #[.string x.f0, .int .i64 x.f1] 42 (0, 0)) := (by first | exact blk_below Hxb7.out hb | exact blk_below (blk_drew Hxb7.out) hb); have Hxb8 := Lib.hid xb8; have p08 : w8.cell? ⟨wr.heap.size, 0, none⟩ = some (.string x.f0) := blk_cell xb8 0; have p18 : w8.cell? ⟨wr.heap.size, 1, none⟩ = some (.int .i64 x.f1) := blk_cell xb8 1; have p28 : w8.cell? ⟨w.heap.size, 2, none⟩ = some (.slice (some ad2) ts.length c2) := blk_cell hbx 2; have p38 : w8.cell? (ad2.add k) = some (.slice A0 t.length c0) := pw_cell_below HW8.out e0; clear xb8; clear hb ho hbx hn8))
          | (go_at_call 19; (have hguard := HO6; clear hguard); go_loud (refine (pnum_any _ A6 n6 c6 (ys ++ txt x.f0) (x.f1) HN6.out (by repeat (first | exact own_C HO6.out HN6.out | (with_reducible refine Kd.C_alloc ?_ _) | (with_reducible refine Kd.C_drew ?_))) (by have t1 := HYL.out; have t2 := HXS.out.1; have t3 := (num_len (x.f0.size : Int)).2; have t4 := (num_len x.f1).2; (try simp only [List.length_append, txt, bytesOf_length]); omega)).mono ?_; rintro e5 w7 ⟨A7, n7, c7, rfl, hn7, ho, hb⟩; have HB7 : Hid (Below (w.alloc (.cells (Cells25 G (some ad) (some ad2) rs.length ts.length c1 c2) 25)).heap.size (w.alloc (.cells (Cells25 G (some ad) (some ad2) rs.length ts.length c1 c2) 25)) w7) := Lib.hid (by first | exact HB6.out.trans (hb.mono HB6.out.size) | exact HB6.out.drew.trans (hb.mono HB6.out.size) | exact (HB6.out.alloc HB6.out.size _).trans (hb.mono (HB6.out.alloc HB6.out.size _).size) | exact (HB6.out.alloc HB6.out.size _).drew.trans (hb.mono (HB6.out.alloc HB6.out.size _).size)); have HW7 : Hid (Below w.heap.size w w7) := Lib.hid ((al_below w _).trans (HB7.out.mono (al_below w _).size)); have HO7 : Hid (Own w7 w.heap.size (.slice A7 n7 c7) _) := Lib.hid (Kd.R_lower ho (Nat.le_trans (al_below w _).size (by first | exact HB6.out.size | exact (HB6.out.alloc HB6.out.size _).size))); have HN7 := Lib.hid hn7; have hbx := blk_below (blk_new w (.cells (Cells25 G (some ad) (some ad2) rs.length ts.length c1 c2) 25)) HB7.out; have xb7 : w7.heap[wr.heap.size]? = some (.cells #[.string x.f0, .int .i64 x.f1] 42 (0, 0)) := (by first | exact blk_below Hxb6.out hb | exact blk_below (blk_drew Hxb6.out) hb); have Hxb7 := Lib.hid xb7; have p07 : w7.cell? ⟨wr.heap.size, 0, none⟩ = some (.string x.f0) := blk_cell xb7 0; have p17 : w7.cell? ⟨wr.heap.size, 1, none⟩ = some (.int .i64 x.f1) := blk_cell xb7 1; have p27 : w7.cell? ⟨w.heap.size, 2, none⟩ = some (.slice (some ad2) ts.length c2) := blk_cell hbx 2; have p37 : w7.cell? (ad2.add k) = some (.slice A0 t.length c0) := pw_cell_below HW7.out e0; clear xb7; clear hb ho hbx hn7))
          | (go_at_call 20; (have hguard := HO; clear hguard); go_loud (refine (ptext_any _ A m c (ys) (x.f0) HM.out (by repeat (first | exact own_C HO.out HM.out | (with_reducible refine Kd.C_alloc ?_ _) | (with_reducible refine Kd.C_drew ?_))) (by have t1 := HYL.out; have t2 := HXS.out.1; have t3 := (num_len (x.f0.size : Int)).2; have t4 := (num_len x.f1).2; (try simp only [List.length_append, txt, bytesOf_length]); omega) (by have t2 := HXS.out.1; omega)).mono ?_; rintro e5 w6 ⟨A6, n6, c6, rfl, hn6, ho, hb⟩; have HB6 : Hid (Below (w.alloc (.cells (Cells25 G (some ad) (some ad2) rs.length ts.length c1 c2) 25)).heap.size (w.alloc (.cells (Cells25 G (some ad) (some ad2) rs.length ts.length c1 c2) 25)) w6) := Lib.hid (by first | exact HB.out.trans (hb.mono HB.out.size) | exact HB.out.drew.trans (hb.mono HB.out.size) | exact (HB.out.alloc HB.out.size _).trans (hb.mono (HB.out.alloc HB.out.size _).size) | exact (HB.out.alloc HB.out.size _).drew.trans (hb.mono (HB.out.alloc HB.out.size _).size)); have HW6 : Hid (Below w.heap.size w w6) := Lib.hid ((al_below w _).trans (HB6.out.mono (al_below w _).size)); have HO6 : Hid (Own w6 w.heap.size (.slice A6 n6 c6) _) := Lib.hid (Kd.R_lower ho (Nat.le_trans (al_below w _).size (by first | exact HB.out.size | exact (HB.out.alloc HB.out.size _).size))); have HN6 := Lib.hid hn6; have hbx := blk_below (blk_new w (.cells (Cells25 G (some ad) (some ad2) rs.length ts.length c1 c2) 25)) HB6.out; have xb6 : w6.heap[wr.heap.size]? = some (.cells #[.string x.f0, .int .i64 x.f1] 42 (0, 0)) := (by first | exact blk_below (blk_new wr (.cells #[.string x.f0, .int .i64 x.f1] 42)) hb | exact blk_below (blk_drew (blk_new wr (.cells #[.string x.f0, .int .i64 x.f1] 42))) hb); have Hxb6 := Lib.hid xb6; have p06 : w6.cell? ⟨wr.heap.size, 0, none⟩ = some (.string x.f0) := blk_cell xb6 0; have p16 : w6.cell? ⟨wr.heap.size, 1, none⟩ = some (.int .i64 x.f1) := blk_cell xb6 1; have p26 : w6.cell? ⟨w.heap.size, 2, none⟩ = some (.slice (some ad2) ts.length c2) := blk_cell hbx 2; have p36 : w6.cell? (ad2.add k) = some (.slice A0 t.length c0) := pw_cell_below HW6.out e0; clear xb6; clear hb ho hbx hn6)))
      all_goals go_wp2_with fail
      have htl := HXS.out.2
      go_loopw [4, 47] (fun b i wi => ∃ (j : Nat) (Ai : Option Addr) (mi ci : Nat) (zs : List Int), b = .slice Ai mi ci ∧ i = .int .i64 (j : Int) ∧ j ≤ t.length ∧ Hid (mi = zs.length) ∧ Hid (Below (w.alloc (.cells (Cells25 G (some ad) (some ad2) rs.length ts.length c1 c2) 25)).heap.size (w.alloc (.cells (Cells25 G (some ad) (some ad2) rs.length ts.length c1 c2) 25)) wi) ∧ Hid (Own wi w.heap.size (.slice Ai mi ci) zs) ∧ Hid (zs ++ (evsB (t.drop j) ++ resesB ((rs.drop (k + 1)).zip (ts.drop (k + 1)))) = out)) (fun _ i _ => t.length - (iOf i).toNat)
      case atStart => exact ⟨0, A8, n8, c8, _, rfl, rfl, by omega, HN8, HB8, HO8, Lib.hid (by rw [← HF.out]; simp [resesB, resB, List.append_assoc])⟩
      case round =>
        clear HO8 HN8 HB8
        obtain ⟨j, Ai, mi, ci, zs, rfl, rfl, hj, HMi, HBi, HOi, HEi⟩ := hrel
        obtain ⟨wi, hwi⟩ : ∃ wi, wi = wr := ⟨_, rfl⟩
        subst hwi
        have HWi := Lib.hid ((al_below w (.cells (Cells25 G (some ad) (some ad2) rs.length ts.length c1 c2) 25)).trans (HBi.out.mono (al_below w (.cells (Cells25 G (some ad) (some ad2) rs.length ts.length c1 c2) 25)).size))
        have HZL : Hid (zs.length ≤ 17592186044416) := by
          have h1 := congrArg List.length HEi.out
          rw [List.length_append] at h1
          have h2 := HOL.out
          exact Lib.hid (by omega)
        by_cases hlj : j < t.length
        · have hd := rd44_drop t j hlj
          obtain ⟨ad3, rfl, g0, g1, g2, g3⟩ := at_T44 HC0.out (j : Int) (by omega) (by omega)
          obtain ⟨e, he⟩ : ∃ e, rd_T44 t (j : Int) = e := ⟨_, rfl⟩
          rw [he] at g0 g1 g2 g3 hd
          simp only [Int.toNat_natCast] at g0 g1 g2 g3
          have hok := HX2.out e (List.mem_of_mem_drop (i := j) (by rw [hd]; simp))
          have hE3 := HEi.out
          rw [hd] at hE3
          have HG := Lib.hid hE3
          have HES : Hid (e.f2.size ≤ 1048576) := Lib.hid (by have := hok.s1; omega)
          have hw1 : IntKind.i64.wrap (e.f1 + 1) = e.f1 + 1 := by
            have t1 := hok.n0
            have t2 := hok.n1
            rw [IntKind.wrap_i64]
            omega
          have hw2 : wrap64 (e.f1 + 1) = e.f1 + 1 := by
            have t1 := hok.n0
            have t2 := hok.n1
            unfold wrap64
            omega
          have g0' := pw_cell_below HWi.out g0
          have g1' := pw_cell_below HWi.out g1
          have g2' := pw_cell_below HWi.out g2
          have g3' := pw_cell_below HWi.out g3
          clear hE3 hok hd he
          go_upto_region 11 with (fail)
          go_region_held3 (fun w' => w'.cell? ⟨wi.heap.size, 0, none⟩ = some (.int .i64 e.f0) ∧ w'.cell? ⟨wi.heap.size, 1, none⟩ = some (.int .i64 e.f1) ∧ w'.cell? ⟨wi.heap.size, 3, none⟩ = some (.int .i64 e.f3)) (first | exact ⟨y0c, y1c, y3c⟩ | exact ⟨y0b, y1b, y3b⟩ | exact ⟨y0a, y1a, y3a⟩ | go_keep)
            (first
              | (go_at_call 19; (have hguard := HOb; clear hguard); go_loud (refine (pnum_any _ Ab nb cb (zs ++ num e.f0 ++ num (e.f1 + 1)) (e.f3) HNb.out (by repeat (first | exact own_C HOb.out HNb.out | (with_reducible refine Kd.C_alloc ?_ _) | (with_reducible refine Kd.C_drew ?_))) (by have t1 := HZL.out; have t2 := HES.out; have t3 := (num_len e.f0).2; have t4 := (num_len (e.f1 + 1)).2; have t5 := (num_len e.f3).2; (try simp only [List.length_append, txt, bytesOf_length]); omega)).mono ?_; rintro e5 wc ⟨Ac, nc, cc, rfl, hnc, ho, hb⟩; have HBc : Hid (Below (w.alloc (.cells (Cells25 G (some ad) (some ad2) rs.length ts.length c1 c2) 25)).heap.size (w.alloc (.cells (Cells25 G (some ad) (some ad2) rs.length ts.length c1 c2) 25)) wc) := Lib.hid (by first | exact HBb.out.trans (hb.mono HBb.out.size) | exact HBb.out.drew.trans (hb.mono HBb.out.size) | exact (HBb.out.alloc HBb.out.size _).trans (hb.mono (HBb.out.alloc HBb.out.size _).size) | exact (HBb.out.alloc HBb.out.size _).drew.trans (hb.mono (HBb.out.alloc HBb.out.size _).size)); have HWc : Hid (Below w.heap.size w wc) := Lib.hid ((al_below w _).trans (HBc.out.mono (al_below w _).size)); have HOc : Hid (Own wc w.heap.size (.slice Ac nc cc) _) := Lib.hid (Kd.R_lower ho (Nat.le_trans (al_below w _).size (by first | exact HBb.out.size | exact (HBb.out.alloc HBb.out.size _).size))); have HNc := Lib.hid hnc; have hbx := blk_below (blk_new w (.cells (Cells25 G (some ad) (some ad2) rs.length ts.length c1 c2) 25)) HBc.out; have ybc : wc.heap[wi.heap.size]? = some (.cells #[.int .i64 e.f0, .int .i64 e.f1, .string e.f2, .int .i64 e.f3] 44 (0, 0)) := (by first | exact blk_below Hybb.out hb | exact blk_below (blk_drew Hybb.out) hb); have Hybc := Lib.hid ybc; have y0c : wc.cell? ⟨wi.heap.size, 0, none⟩ = some (.int .i64 e.f0) := blk_cell ybc 0; have y1c : wc.cell? ⟨wi.heap.size, 1, none⟩ = some (.int .i64 e.f1) := blk_cell ybc 1; have y2c : wc.cell? ⟨wi.heap.size, 2, none⟩ = some (.string e.f2) := blk_cell ybc 2; have y3c : wc.cell? ⟨wi.heap.size, 3, none⟩ = some (.int .i64 e.f3) := blk_cell ybc 3; clear ybc; clear hb ho hbx hnc))
              | (go_at_call 19; (have hguard := HOa; clear hguard); go_loud (refine (pnum_any _ Aa na ca (zs ++ num e.f0) (e.f1 + 1) HNa.out (by repeat (first | exact own_C HOa.out HNa.out | (with_reducible refine Kd.C_alloc ?_ _) | (with_reducible refine Kd.C_drew ?_))) (by have t1 := HZL.out; have t2 := HES.out; have t3 := (num_len e.f0).2; have t4 := (num_len (e.f1 + 1)).2; have t5 := (num_len e.f3).2; (try simp only [List.length_append, txt, bytesOf_length]); omega)).mono ?_; rintro e5 wb ⟨Ab, nb, cb, rfl, hnb, ho, hb⟩; have HBb : Hid (Below (w.alloc (.cells (Cells25 G (some ad) (some ad2) rs.length ts.length c1 c2) 25)).heap.size (w.alloc (.cells (Cells25 G (some ad) (some ad2) rs.length ts.length c1 c2) 25)) wb) := Lib.hid (by first | exact HBa.out.trans (hb.mono HBa.out.size) | exact HBa.out.drew.trans (hb.mono HBa.out.size) | exact (HBa.out.alloc HBa.out.size _).trans (hb.mono (HBa.out.alloc HBa.out.size _).size) | exact (HBa.out.alloc HBa.out.size _).drew.trans (hb.mono (HBa.out.alloc HBa.out.size _).size)); have HWb : Hid (Below w.heap.size w wb) := Lib.hid ((al_below w _).trans (HBb.out.mono (al_below w _).size)); have HOb : Hid (Own wb w.heap.size (.slice Ab nb cb) _) := Lib.hid (Kd.R_lower ho (Nat.le_trans (al_below w _).size (by first | exact HBa.out.size | exact (HBa.out.alloc HBa.out.size _).size))); have HNb := Lib.hid hnb; have hbx := blk_below (blk_new w (.cells (Cells25 G (some ad) (some ad2) rs.length ts.length c1 c2) 25)) HBb.out; have ybb : wb.heap[wi.heap.size]? = some (.cells #[.int .i64 e.f0, .int .i64 e.f1, .string e.f2, .int .i64 e.f3] 44 (0, 0)) := (by first | exact blk_below Hyba.out hb | exact blk_below (blk_drew Hyba.out) hb); have Hybb := Lib.hid ybb; have y0b : wb.cell? ⟨wi.heap.size, 0, none⟩ = some (.int .i64 e.f0) := blk_cell ybb 0; have y1b : wb.cell? ⟨wi.heap.size, 1, none⟩ = some (.int .i64 e.f1) := blk_cell ybb 1; have y2b : wb.cell? ⟨wi.heap.size, 2, none⟩ = some (.string e.f2) := blk_cell ybb 2; have y3b : wb.cell? ⟨wi.heap.size, 3, none⟩ = some (.int .i64 e.f3) := blk_cell ybb 3; clear ybb; clear hb ho hbx hnb))
              | (go_at_call 19; (have hguard := HOi; clear hguard); go_loud (refine (pnum_any _ Ai mi ci (zs) (e.f0) HMi.out (by repeat (first | exact own_C HOi.out HMi.out | (with_reducible refine Kd.C_alloc ?_ _) | (with_reducible refine Kd.C_drew ?_))) (by have t1 := HZL.out; have t2 := HES.out; have t3 := (num_len e.f0).2; have t4 := (num_len (e.f1 + 1)).2; have t5 := (num_len e.f3).2; (try simp only [List.length_append, txt, bytesOf_length]); omega)).mono ?_; rintro e5 wa ⟨Aa, na, ca, rfl, hna, ho, hb⟩; have HBa : Hid (Below (w.alloc (.cells (Cells25 G (some ad) (some ad2) rs.length ts.length c1 c2) 25)).heap.size (w.alloc (.cells (Cells25 G (some ad) (some ad2) rs.length ts.length c1 c2) 25)) wa) := Lib.hid (by first | exact HBi.out.trans (hb.mono HBi.out.size) | exact HBi.out.drew.trans (hb.mono HBi.out.size) | exact (HBi.out.alloc HBi.out.size _).trans (hb.mono (HBi.out.alloc HBi.out.size _).size) | exact (HBi.out.alloc HBi.out.size _).drew.trans (hb.mono (HBi.out.alloc HBi.out.size _).size)); have HWa : Hid (Below w.heap.size w wa) := Lib.hid ((al_below w _).trans (HBa.out.mono (al_below w _).size)); have HOa : Hid (Own wa w.heap.size (.slice Aa na ca) _) := Lib.hid (Kd.R_lower ho (Nat.le_trans (al_below w _).size (by first | exact HBi.out.size | exact (HBi.out.alloc HBi.out.size _).size))); have HNa := Lib.hid hna; have hbx := blk_below (blk_new w (.cells (Cells25 G (some ad) (some ad2) rs.length ts.length c1 c2) 25)) HBa.out; have yba : wa.heap[wi.heap.size]? = some (.cells #[.int .i64 e.f0, .int .i64 e.f1, .string e.f2, .int .i64 e.f3] 44 (0, 0)) := (by first | exact blk_below (blk_new wi (.cells #[.int .i64 e.f0, .int .i64 e.f1, .string e.f2, .int .i64 e.f3] 44)) hb | exact blk_below (blk_drew (blk_new wi (.cells #[.int .i64 e.f0, .int .i64 e.f1, .string e.f2, .int .i64 e.f3] 44))) hb); have Hyba := Lib.hid yba; have y0a : wa.cell? ⟨wi.heap.size, 0, none⟩ = some (.int .i64 e.f0) := blk_cell yba 0; have y1a : wa.cell? ⟨wi.heap.size, 1, none⟩ = some (.int .i64 e.f1) := blk_cell yba 1; have y2a : wa.cell? ⟨wi.heap.size, 2, none⟩ = some (.string e.f2) := blk_cell yba 2; have y3a : wa.cell? ⟨wi.heap.size, 3, none⟩ = some (.int .i64 e.f3) := blk_cell yba 3; clear yba; clear hb ho hbx hna)))
          all_goals
            go_wp2_with (first
              | (go_at_call 20; (have hguard := HOc; clear hguard); go_loud (refine (ptext_any _ Ac nc cc (zs ++ num e.f0 ++ num (e.f1 + 1) ++ num e.f3) (e.f2) HNc.out (by repeat (first | exact own_C HOc.out HNc.out | (with_reducible refine Kd.C_alloc ?_ _) | (with_reducible refine Kd.C_drew ?_))) (by have t1 := HZL.out; have t2 := HES.out; have t3 := (num_len e.f0).2; have t4 := (num_len (e.f1 + 1)).2; have t5 := (num_len e.f3).2; (try simp only [List.length_append, txt, bytesOf_length]); omega) (by have t2 := HES.out; omega)).mono ?_; rintro e5 wd ⟨Ad, nd, cd, rfl, hnd, ho, hb⟩; have HBd : Hid (Below (w.alloc (.cells (Cells25 G (some ad) (some ad2) rs.length ts.length c1 c2) 25)).heap.size (w.alloc (.cells (Cells25 G (some ad) (some ad2) rs.length ts.length c1 c2) 25)) wd) := Lib.hid (by first | exact HBc.out.trans (hb.mono HBc.out.size) | exact HBc.out.drew.trans (hb.mono HBc.out.size) | exact (HBc.out.alloc HBc.out.size _).trans (hb.mono (HBc.out.alloc HBc.out.size _).size) | exact (HBc.out.alloc HBc.out.size _).drew.trans (hb.mono (HBc.out.alloc HBc.out.size _).size)); have HWd : Hid (Below w.heap.size w wd) := Lib.hid ((al_below w _).trans (HBd.out.mono (al_below w _).size)); have HOd : Hid (Own wd w.heap.size (.slice Ad nd cd) _) := Lib.hid (Kd.R_lower ho (Nat.le_trans (al_below w _).size (by first | exact HBc.out.size | exact (HBc.out.alloc HBc.out.size _).size))); have HNd := Lib.hid hnd; have hbx := blk_below (blk_new w (.cells (Cells25 G (some ad) (some ad2) rs.length ts.length c1 c2) 25)) HBd.out; clear hb ho hbx hnd)))
            go_roundw
          case rel => exact ⟨j + 1, Ad, nd, cd, _, rfl, by first | rfl | go_num, by omega, HNd, HBd, HOd, Lib.hid (by rw [← HG.out]; simp [evsB, evB, List.append_assoc])⟩
          case measure => simp [iOf]; omega
        · obtain rfl : j = t.length := by omega
          go_wp2_with fail
          go_roundw
          case rel => exact ⟨k + 1, Ai, mi, ci, zs, rfl, by first | rfl | go_num, by omega, HMi, HBi, HOi, Lib.hid (by rw [← HEi.out, List.drop_length]; simp [evsB])⟩
          case measure => simp [iOf]; omega
    · obtain rfl : k = rs.length := by omega
      have hys : ys = out := by
        have := HE.out
        rw [List.drop_length, List.zip_nil_left] at this
        simpa [resesB] using this
      go_wp2_with fail
      go_ret2
      exact ⟨A, m, c, rfl, by rw [HM.out, hys], by rw [← hys]; exact HO.out, HW.out⟩
end Go.Proofs.Ytnognmbapciegaa.Bk
