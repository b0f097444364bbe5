/- rex, plainly: an error has a number. -/
import Derived.Test.YtcdkooebhpfknaaPm
namespace Go.Proofs.Ytcdkooebhpfknaa.Rx
open Go.RowKit Go.Proofs.YtcdkooebhpfknaaW.PrintWords Go.Proofs.YtcdkooebhpfknaaW.PrintLast Go.Proofs.YtcdkooebhpfknaaW.PrintMore Go.Proofs.Ytcdkooebhpfknaa.PRx
set_option linter.unusedVariables false
set_option linter.unusedSimpArgs false

theorem bind_err {α β : Type} {q : R α} {f : α → List Int → R β} {c : Int} {k : Nat} (h : q.bind f = .err c k) : q = .err c k ∨ ∃ u r, q = .ok u r ∧ f u r = .err c k := by
  cases q with
  | ok u r1 => exact .inr ⟨u, r1, rfl, h⟩
  | err c' k' =>
    have h' : (R.err c' k' : R β) = .err c k := h
    injection h' with a b
    exact .inl (by rw [a, b])
theorem esc_err {j k : Nat} {xs : List Int} {c : Int} (h : escR j xs = .err c k) : c ≠ 0 := by
  cases xs with
  | nil => injection h with a b; omega
  | cons d xs =>
    rw [escR] at h
    repeat' split at h
    all_goals first | (cases h; done) | (injection h with a b; omega)
theorem item_err {k : Nat} {xs : List Int} {c : Int} (h : itemR xs = .err c k) : c ≠ 0 := by
  cases xs with
  | nil => injection h with a b; omega
  | cons d xs =>
    rw [itemR] at h
    split at h
    · exact esc_err h
    · cases h
theorem range_err {k : Nat} {xs : List Int} {c : Int} (h : rangeR xs = .err c k) : c ≠ 0 := by
  rcases bind_err h with h | ⟨lo, r, _, h⟩
  · exact item_err h
  · rcases bind_err h with h | ⟨hi, r, _, h⟩
    · split at h
      · exact item_err h
      · cases h
    · split at h
      · injection h with a b; omega
      · cases h
theorem cls_err : ∀ (n : Nat) (acc : List S37) (xs : List Int) (c : Int) (k : Nat), xs.length < n → clsR n acc xs = .err c k → c ≠ 0
  | 0, acc, xs, c, k, hn, h => by omega
  | n + 1, acc, xs, c, k, hn, h => by
    unfold clsR at h
    split at h
    · cases h
    · rcases bind_err h with h | ⟨x, r, e, h⟩
      · exact range_err h
      · have := range_shrinks e
        exact cls_err n _ _ _ _ (by omega) h
theorem class_err {k : Nat} {xs : List Int} {c : Int} (h : classR xs = .err c k) : c ≠ 0 := by
  unfold classR at h
  repeat' split at h
  · injection h with a b; omega
  · rcases bind_err h with h | ⟨x, r, e, h⟩
    · exact cls_err _ _ _ _ _ (Nat.lt_succ_self _) h
    · cases h
  · injection h with a b; omega
  · rcases bind_err h with h | ⟨x, r, e, h⟩
    · exact cls_err _ _ _ _ _ (Nat.lt_succ_self _) h
    · cases h
theorem atom_err {alt : List Int → R S26} {k : Nat} {xs : List Int} {c : Int} (ha : ∀ ys c k, ys.length < xs.length → alt ys = .err c k → c ≠ 0) (h : atomR alt xs = .err c k) : c ≠ 0 := by
  cases xs with
  | nil => injection h with a b; omega
  | cons d xs =>
    rw [atomR] at h
    split at h
    · rcases bind_err h with h | ⟨x, r, e, h⟩
      · exact ha _ _ _ (by simp) h
      · cases r with
        | nil => injection h with a b; omega
        | cons e r => cases h
    · split at h
      · cases h
      · split at h
        · exact class_err h
        · split at h
          · split at h
            · cases h
            · rcases bind_err h with h | ⟨x, r, e, h⟩
              · exact esc_err h
              · cases h
          · split at h
            · injection h with a b; omega
            · cases h
theorem go_err : ∀ (n : Nat) (P K : List S26) (xs : List Int) (c : Int) (k : Nat), xs.length < n → goR n P K xs = .err c k → c ≠ 0
  | 0, P, K, xs, c, k, hn, h => by omega
  | n + 1, P, K, [], c, k, hn, h => by cases h
  | n + 1, P, K, d :: xs, c, k, hn, h => by
    simp only [List.length_cons] at hn
    unfold goR at h
    split at h
    · exact go_err n _ _ _ _ _ (by omega) h
    · split at h
      · cases h
      · rcases bind_err h with h | ⟨x, r, e, h⟩
        · refine atom_err (fun ys c k hy h => ?_) h
          simp only [List.length_cons] at hy
          rcases bind_err h with h | ⟨x, r, e, h⟩
          · exact go_err n _ _ _ _ _ (by omega) h
          · cases h
        · have a := atom_shrinks (fun ys v r _ h => by
            obtain ⟨ps, r2, h3, h4⟩ := bind_ok h
            have := go_shrinks n _ _ _ _ _ h3
            injection h4 with h5 h6; subst h6; exact this) e
          have b := sign_shrinks r x
          simp only [List.length_cons] at a
          exact go_err n _ _ _ _ _ (by omega) h
theorem alt_err_ne {xs : List Int} {c : Int} {k : Nat} (h : altR xs = .err c k) : c ≠ 0 := by
  rcases bind_err h with h | ⟨x, r, e, h⟩
  · exact go_err _ _ _ _ _ _ (Nat.lt_succ_self _) h
  · cases h
end Go.Proofs.Ytcdkooebhpfknaa.Rx
