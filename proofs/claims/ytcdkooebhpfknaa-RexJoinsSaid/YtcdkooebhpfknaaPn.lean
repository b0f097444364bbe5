/- rex, plainly: what stands behind a pattern doesn't change what is read of it. -/
import Derived.Test.YtcdkooebhpfknaaPm
namespace Go.Proofs.Ytcdkooebhpfknaa.Rx
open Go.RowKit Go.Proofs.YtcdkooebhpfknaaW.PrintWords Go.Proofs.YtcdkooebhpfknaaW.PrintLast Go.Proofs.YtcdkooebhpfknaaW.PrintMore Go.Proofs.Ytcdkooebhpfknaa.PRx
set_option linter.unusedVariables false
set_option linter.unusedSimpArgs false

/-- No sign begins it. -/
def calm (ys : List Int) : Prop := ∀ c, ys.head? = some c → c ≠ 42 ∧ c ≠ 43 ∧ c ≠ 63
theorem esc_app {k k' : Nat} {xs r ys : List Int} {v : Int} (h : escR k xs = .ok v r) : escR k' (xs ++ ys) = .ok v (r ++ ys) := by
  cases xs with
  | nil => cases h
  | cons c xs =>
    rw [escR] at h
    rw [List.cons_append, escR]
    by_cases h1 : c = 110
    · rw [if_pos h1] at h ⊢; injection h with a b; subst a b; rfl
    · rw [if_neg h1] at h ⊢
      by_cases h2 : c = 116
      · rw [if_pos h2] at h ⊢; injection h with a b; subst a b; rfl
      · rw [if_neg h2] at h ⊢
        by_cases h3 : alnumI c = true
        · rw [if_pos h3] at h; cases h
        · rw [if_neg h3] at h ⊢; injection h with a b; subst a b; rfl
theorem item_app {xs r ys : List Int} {v : Int} (h : itemR xs = .ok v r) : itemR (xs ++ ys) = .ok v (r ++ ys) := by
  cases xs with
  | nil => cases h
  | cons c xs =>
    rw [itemR] at h
    rw [List.cons_append, itemR]
    by_cases h1 : c = 92
    · rw [if_pos h1] at h ⊢; exact esc_app h
    · rw [if_neg h1] at h ⊢; injection h with a b; subst a b; rfl
theorem dash_app {r ys : List Int} (h1 : r ≠ []) (h2 : r ≠ [45]) : dash (r ++ ys) = dash r := by
  cases r with
  | nil => exact absurd rfl h1
  | cons c r =>
    cases r with
    | nil =>
      have hc : c ≠ 45 := fun e => h2 (by rw [e])
      cases ys with
      | nil => rfl
      | cons d ys =>
        unfold dash
        simp [hc]
    | cons d r =>
      by_cases hc : c = 45
      · subst hc; rfl
      · unfold dash
        simp [hc]
theorem dash_cons {r : List Int} (h : dash r = true) : ∃ d l, r = 45 :: d :: l := by
  unfold dash at h
  split at h
  · exact ⟨_, _, rfl⟩
  · cases h
theorem range_app {xs r ys : List Int} {v : S37} (h : rangeR xs = .ok v r) (h1 : r ≠ []) (h2 : r ≠ [45]) : rangeR (xs ++ ys) = .ok v (r ++ ys) := by
  obtain ⟨lo, r1, e1, h⟩ := bind_ok h
  obtain ⟨hi, r2, e2, h⟩ := bind_ok h
  unfold rangeR
  rw [item_app e1]
  show R.bind (if dash (r1 ++ ys) then itemR (r1 ++ ys).tail else .ok lo (r1 ++ ys)) _ = _
  have e3 : (if dash (r1 ++ ys) then itemR (r1 ++ ys).tail else .ok lo (r1 ++ ys)) = (.ok hi (r2 ++ ys) : R Int) := by
    cases hd : dash r1 with
    | true =>
      obtain ⟨d, l, rfl⟩ := dash_cons hd
      rw [dash_app (by simp) (by simp), hd, if_pos rfl]
      rw [hd, if_pos rfl] at e2
      exact item_app e2
    | false =>
      rw [hd, if_neg (by decide)] at e2
      injection e2 with a b
      subst a b
      have hr : r = r1 := by
        split at h
        · cases h
        · injection h with a b; exact b.symm
      subst hr
      rw [dash_app h1 h2, hd, if_neg (by decide)]
  rw [e3]
  show (if hi < lo then R.err 32 (xs ++ ys).length else R.ok (⟨lo, hi⟩ : S37) (r2 ++ ys)) = _
  split at h
  · cases h
  · rename_i hlt
    injection h with a b
    subst a b
    rw [if_neg hlt]
theorem cls_nil (n : Nat) (acc : List S37) (r : List Int) (v : List S37) : clsR n acc [] ≠ .ok v r := by
  cases n with
  | zero => intro h; cases h
  | succ n =>
    intro h
    unfold clsR at h
    split at h
    · rename_i h1; simp at h1
    · cases h
theorem cls_dash (n : Nat) (acc : List S37) (r : List Int) (v : List S37) : clsR n acc [45] ≠ .ok v r := by
  cases n with
  | zero => intro h; cases h
  | succ n =>
    intro h
    unfold clsR at h
    split at h
    · rename_i h1; simp at h1
    · exact cls_nil _ _ _ _ h
theorem cls_app : ∀ (n m : Nat) (acc : List S37) (xs r ys : List Int) (v : List S37), n ≤ m → clsR n acc xs = .ok v r → clsR m acc (xs ++ ys) = .ok v (r ++ ys)
  | 0, m, acc, xs, r, ys, v, hm, h => by cases h
  | n + 1, 0, acc, xs, r, ys, v, hm, h => by omega
  | n + 1, m + 1, acc, xs, r, ys, v, hm, h => by
    cases xs with
    | nil => exact absurd h (cls_nil _ _ _ _)
    | cons c xs =>
      unfold clsR at h ⊢
      rw [show (c :: xs ++ ys).head? = (c :: xs).head? from rfl]
      by_cases h1 : acc ≠ [] ∧ (c :: xs).head? = some 93
      · rw [if_pos h1] at h ⊢
        injection h with a b
        subst a b
        rfl
      · rw [if_neg h1] at h ⊢
        obtain ⟨x, r1, e1, h⟩ := bind_ok h
        have n1 : r1 ≠ [] := fun e => by rw [e] at h; exact cls_nil _ _ _ _ h
        have n2 : r1 ≠ [45] := fun e => by rw [e] at h; exact cls_dash _ _ _ _ h
        rw [range_app e1 n1 n2]
        exact cls_app n m _ r1 r ys v (by omega) h
theorem class_app {xs r ys : List Int} {v : S26} (h : classR xs = .ok v r) : classR (xs ++ ys) = .ok v (r ++ ys) := by
  cases xs with
  | nil => cases h
  | cons c xs =>
    unfold classR at h ⊢
    rw [show (c :: xs ++ ys).head? = (c :: xs).head? from rfl, show (c :: xs ++ ys).tail = xs ++ ys from rfl]
    rw [show (c :: xs).tail = xs from rfl] at h
    by_cases h1 : (c :: xs).head? = some 94
    · rw [if_pos h1] at h ⊢
      cases xs with
      | nil =>
        cases h
      | cons d xs =>
        rw [show (d :: xs ++ ys).head? = (d :: xs).head? from rfl]
        by_cases h2 : (d :: xs).head? = some 93
        · rw [if_pos h2] at h; cases h
        · rw [if_neg h2] at h ⊢
          obtain ⟨x, r1, e1, h⟩ := bind_ok h
          rw [cls_app _ ((d :: xs ++ ys).length + 1) _ _ _ ys _ (by simp) e1]
          injection h with a b
          subst a b
          rfl
    · rw [if_neg h1] at h ⊢
      by_cases h2 : (c :: xs).head? = some 93
      · rw [if_pos h2] at h; cases h
      · rw [if_neg h2] at h ⊢
        obtain ⟨x, r1, e1, h⟩ := bind_ok h
        rw [cls_app _ ((c :: xs ++ ys).length + 1) _ _ _ ys _ (by simp) e1]
        injection h with a b
        subst a b
        rfl
theorem atom_app {xs r ys : List Int} {v : S26} (ha : ∀ zs v r, zs.length < xs.length → altR zs = .ok v r → r ≠ [] → altR (zs ++ ys) = .ok v (r ++ ys)) (h : atomR altR xs = .ok v r) : atomR altR (xs ++ ys) = .ok v (r ++ ys) := by
  cases xs with
  | nil => cases h
  | cons c xs =>
    rw [atomR] at h
    rw [List.cons_append, atomR]
    by_cases h1 : c = 40
    · rw [if_pos h1] at h ⊢
      obtain ⟨x, r1, e1, h⟩ := bind_ok h
      cases r1 with
      | nil => cases h
      | cons d r1 =>
        rw [ha xs _ _ (by simp) e1 (by simp)]
        injection h with a b
        subst a b
        rfl
    · rw [if_neg h1] at h ⊢
      by_cases h2 : c = 46
      · rw [if_pos h2] at h ⊢; injection h with a b; subst a b; rfl
      · rw [if_neg h2] at h ⊢
        by_cases h3 : c = 91
        · rw [if_pos h3] at h ⊢; exact class_app h
        · rw [if_neg h3] at h ⊢
          by_cases h4 : c = 92
          · rw [if_pos h4] at h ⊢
            cases xs with
            | nil => cases h
            | cons d xs =>
              rw [show (d :: xs ++ ys).head? = (d :: xs).head? from rfl, show (d :: xs ++ ys).tail = xs ++ ys from rfl]
              rw [show (d :: xs).tail = xs from rfl] at h
              by_cases h5 : (d :: xs).head? = some 100
              · rw [if_pos h5] at h ⊢; injection h with a b; subst a b; rfl
              · rw [if_neg h5] at h ⊢
                obtain ⟨x, r1, e1, h⟩ := bind_ok h
                rw [esc_app e1]
                injection h with a b
                subst a b
                rfl
          · rw [if_neg h4] at h ⊢
            by_cases h5 : c = 42 ∨ c = 43 ∨ c = 63
            · rw [if_pos h5] at h; cases h
            · rw [if_neg h5] at h ⊢; injection h with a b; subst a b; rfl
theorem sign_app : ∀ (r0 : List Int) (u t : S26) (r1 ys : List Int), signR u r0 = (t, r1) → (r1 ≠ [] ∨ calm ys) → signR u (r0 ++ ys) = (t, r1 ++ ys)
  | [], u, t, r1, ys, h, hr => by
    obtain ⟨rfl, rfl⟩ := Prod.mk.inj h
    have hc : calm ys := hr.resolve_left (fun h => h rfl)
    cases ys with
    | nil => rfl
    | cons c ys =>
      obtain ⟨a, b, d⟩ := hc c rfl
      rw [List.nil_append, signR, if_neg a, if_neg b, if_neg d]
  | c :: r0, u, t, r1, ys, h, hr => by
    rw [signR] at h
    rw [List.cons_append, signR]
    by_cases h1 : c = 42
    · rw [if_pos h1] at h ⊢; exact sign_app r0 _ _ _ _ h hr
    · rw [if_neg h1] at h ⊢
      by_cases h2 : c = 43
      · rw [if_pos h2] at h ⊢; exact sign_app r0 _ _ _ _ h hr
      · rw [if_neg h2] at h ⊢
        by_cases h3 : c = 63
        · rw [if_pos h3] at h ⊢; exact sign_app r0 _ _ _ _ h hr
        · rw [if_neg h3] at h ⊢
          obtain ⟨rfl, rfl⟩ := Prod.mk.inj h
          rfl
theorem piece_app {xs r1 ys : List Int} {t : S26} (ha : ∀ zs v r, zs.length < xs.length → altR zs = .ok v r → r ≠ [] → altR (zs ++ ys) = .ok v (r ++ ys)) (h : pieceR xs = .ok t r1) (hr : r1 ≠ [] ∨ calm ys) : pieceR (xs ++ ys) = .ok t (r1 ++ ys) := by
  obtain ⟨u, r0, e1, h⟩ := bind_ok h
  unfold pieceR
  rw [atom_app ha e1]
  injection h with a b
  have := sign_app r0 u t r1 ys (by rw [← a, ← b]) hr
  show R.ok (signR u (r0 ++ ys)).1 (signR u (r0 ++ ys)).2 = _
  rw [this]
theorem parts_app : ∀ (n : Nat) (xs : List Int), xs.length ≤ n → ∀ (P K ps : List S26) (r : List Int), partsR P K xs = .ok ps r →
    (r ≠ [] → ∀ ys, partsR P K (xs ++ ys) = .ok ps (r ++ ys)) ∧ (r = [] → ∃ P' K', ps = P' ++ [catN K'] ∧ ∀ ys, calm ys → partsR P K (xs ++ ys) = partsR P' K' ys)
  | n, [], hn, P, K, ps, r, h => by
    rw [parts_nil] at h
    injection h with a b
    subst a b
    exact ⟨fun h => absurd rfl h, fun _ => ⟨P, K, rfl, fun ys _ => rfl⟩⟩
  | 0, c :: xs, hn, P, K, ps, r, h => by simp at hn
  | n + 1, c :: xs, hn, P, K, ps, r, h => by
    simp only [List.length_cons] at hn
    by_cases h1 : c = 124
    · subst h1
      rw [parts_bar] at h
      have := parts_app n xs (by omega) _ _ _ _ h
      refine ⟨fun hr ys => ?_, fun hr => ?_⟩
      · rw [List.cons_append, parts_bar]; exact this.1 hr ys
      · obtain ⟨P', K', e, f⟩ := this.2 hr
        exact ⟨P', K', e, fun ys hc => by rw [List.cons_append, parts_bar]; exact f ys hc⟩
    · by_cases h2 : c = 41
      · subst h2
        rw [parts_end] at h
        injection h with a b
        subst a b
        exact ⟨fun _ ys => by rw [List.cons_append, parts_end], fun h => by cases h⟩
      · rw [parts_piece _ _ _ _ h1 h2] at h
        obtain ⟨t, r1, e1, h⟩ := bind_ok h
        have hs := piece_shrinks e1
        simp only [List.length_cons] at hs
        have ha : ∀ ys zs v r, zs.length < (c :: xs).length → altR zs = .ok v r → r ≠ [] → altR (zs ++ ys) = .ok v (r ++ ys) := by
          intro ys zs v r hz hq hr
          obtain ⟨qs, r2, e2, hq⟩ := bind_ok hq
          injection hq with a b
          subst a b
          simp only [List.length_cons] at hz
          have := (parts_app n zs (by omega) _ _ _ _ e2).1 hr ys
          unfold altR
          rw [this]
          rfl
        have := parts_app n r1 (by omega) _ _ _ _ h
        refine ⟨fun hr ys => ?_, fun hr => ?_⟩
        · have hr1 : r1 ≠ [] := by
            rintro rfl
            rw [parts_nil] at h
            injection h with a b
            exact hr b.symm
          rw [List.cons_append, parts_piece _ _ _ _ h1 h2, ← List.cons_append, piece_app (ha ys) e1 (.inl hr1)]
          exact this.1 hr ys
        · obtain ⟨P', K', e, f⟩ := this.2 hr
          refine ⟨P', K', e, fun ys hc => ?_⟩
          rw [List.cons_append, parts_piece _ _ _ _ h1 h2, ← List.cons_append, piece_app (ha ys) e1 (.inr hc)]
          exact f ys hc
/-- What is read of a whole pattern stays, whatever stands behind it. -/
theorem whole_app {xs : List Int} {t : S26} (h : altR xs = .ok t []) : ∃ P K, t = mkAlt (P ++ [catN K]) ∧ ∀ ys, calm ys → partsR [] [] (xs ++ ys) = partsR P K ys := by
  obtain ⟨ps, r, e, h⟩ := bind_ok h
  injection h with a b
  subst b
  obtain ⟨P, K, e2, f⟩ := (parts_app xs.length xs (Nat.le_refl _) _ _ _ _ e).2 rfl
  exact ⟨P, K, by rw [← a, e2], f⟩
/-- In ( ), a pattern is an atom. -/
theorem group_app {xs ys : List Int} {t : S26} (h : altR xs = .ok t []) : atomR altR (40 :: xs ++ 41 :: ys) = .ok t ys := by
  obtain ⟨P, K, e, f⟩ := whole_app h
  rw [List.cons_append, atomR, if_pos rfl]
  unfold altR
  rw [f (41 :: ys) (fun c hc => by have : (41 : Int) = c := Option.some.inj hc; omega), parts_end, e]
  rfl
/-- The parts of a pattern's tree. -/
def partsOf (t : S26) : List S26 := if t.f0 = 3 then t.f2 else [t]
theorem partsOf_mk (P K : List S26) : partsOf (mkAlt (P ++ [catN K])) = P ++ [catN K] := by
  cases P with
  | nil => rfl
  | cons x P =>
    unfold mkAlt
    rw [if_neg (by simp)]
    rfl
theorem join_or {xs ys : List Int} {a b : S26} (h1 : altR xs = .ok a []) (h2 : altR ys = .ok b []) : altR (xs ++ 124 :: ys) = .ok ⟨3, [], partsOf a ++ partsOf b⟩ [] := by
  obtain ⟨P, K, e, f⟩ := whole_app h1
  obtain ⟨ps, r, e2, h2⟩ := bind_ok h2
  injection h2 with a1 b1
  subst b1
  have hgen : ∀ (n : Nat) (ys : List Int), ys.length ≤ n → ∀ (P K Q ps : List S26) (r : List Int), partsR P K ys = .ok ps r → partsR (Q ++ P) K ys = .ok (Q ++ ps) r := by
    intro n
    induction n with
    | zero =>
      intro ys hn P K Q ps r h
      obtain rfl : ys = [] := by cases ys with | nil => rfl | cons c ys => simp at hn
      rw [parts_nil] at h ⊢
      injection h with a b
      subst a b
      rw [List.append_assoc]
    | succ n ih =>
      intro ys hn P K Q ps r h
      cases ys with
      | nil =>
        rw [parts_nil] at h ⊢
        injection h with a b
        subst a b
        rw [List.append_assoc]
      | cons c ys =>
        simp only [List.length_cons] at hn
        by_cases h1 : c = 124
        · subst h1
          rw [parts_bar] at h ⊢
          rw [List.append_assoc]
          exact ih ys (by omega) _ _ _ _ _ h
        · by_cases h2 : c = 41
          · subst h2
            rw [parts_end] at h ⊢
            injection h with a b
            subst a b
            rw [List.append_assoc]
          · rw [parts_piece _ _ _ _ h1 h2] at h ⊢
            obtain ⟨t, r1, e1, h⟩ := bind_ok h
            have hs := piece_shrinks e1
            simp only [List.length_cons] at hs
            rw [e1]
            exact ih r1 (by omega) _ _ _ _ _ h
  have hq := hgen ys.length ys (Nat.le_refl _) [] [] (P ++ [catN K]) ps [] e2
  rw [List.append_nil] at hq
  unfold altR
  rw [f (124 :: ys) (fun c hc => by have : (124 : Int) = c := Option.some.inj hc; omega), parts_bar, hq]
  obtain ⟨P2, K2, e3, _⟩ := (parts_app ys.length ys (Nat.le_refl _) _ _ _ _ e2).2 rfl
  show R.ok (mkAlt (P ++ [catN K] ++ ps)) [] = _
  rw [e, ← a1, e3, partsOf_mk, partsOf_mk]
  unfold mkAlt
  rw [if_neg (by simp; omega)]
theorem sign_calm {t : S26} {ys : List Int} (h : calm ys) : signR t ys = (t, ys) := by
  cases ys with
  | nil => rfl
  | cons c ys =>
    obtain ⟨a, b, d⟩ := h c rfl
    rw [signR, if_neg a, if_neg b, if_neg d]
theorem join_cat {xs ys : List Int} {a b : S26} (h1 : altR xs = .ok a []) (h2 : altR ys = .ok b []) : altR (40 :: xs ++ 41 :: 40 :: ys ++ [41]) = .ok (catN [a, b]) [] := by
  unfold altR
  have e1 : pieceR (40 :: xs ++ 41 :: (40 :: ys ++ [41])) = .ok a (40 :: ys ++ [41]) := by
    unfold pieceR
    rw [group_app h1]
    show R.ok (signR a (40 :: ys ++ [41])).1 (signR a (40 :: ys ++ [41])).2 = _
    rw [sign_calm (fun c hc => by have : (40 : Int) = c := Option.some.inj hc; omega)]
  have e2 : pieceR (40 :: ys ++ [41]) = .ok b [] := by
    unfold pieceR
    rw [group_app h2]
    rfl
  rw [show (40 :: xs ++ 41 :: 40 :: ys ++ [41] : List Int) = 40 :: (xs ++ 41 :: (40 :: ys ++ [41])) by simp]
  rw [parts_piece _ _ _ _ (by decide) (by decide)]
  rw [show (40 :: (xs ++ 41 :: (40 :: ys ++ [41])) : List Int) = 40 :: xs ++ 41 :: (40 :: ys ++ [41]) from rfl, e1]
  show R.bind (partsR [] [a] (40 :: (ys ++ [41]))) _ = _
  rw [parts_piece _ _ _ _ (by decide) (by decide)]
  rw [show (40 :: (ys ++ [41]) : List Int) = 40 :: ys ++ [41] from rfl, e2]
  rfl
theorem join_star {xs : List Int} {a : S26} (h1 : altR xs = .ok a []) : altR (40 :: xs ++ [41, 42]) = .ok (catN [⟨4, [], [a]⟩]) [] := by
  unfold altR
  have e1 : pieceR (40 :: xs ++ 41 :: [42]) = .ok ⟨4, [], [a]⟩ [] := by
    unfold pieceR
    rw [group_app h1]
    rfl
  rw [List.cons_append, parts_piece _ _ _ _ (by decide) (by decide), ← List.cons_append, e1]
  rfl
/-- Behind a whole pattern something can't be read. -/
theorem wrong_app {xs s : List Int} {t : S26} {c : Int} {k : Nat} (h : altR xs = .ok t []) (hs : calm s) (he : ∀ P K, partsR P K s = .err c k) : altR (xs ++ s) = .err c k := by
  obtain ⟨P, K, e, f⟩ := whole_app h
  unfold altR
  rw [f s hs, he P K]
  rfl
theorem wrong_end {xs s : List Int} {t : S26} (h : altR xs = .ok t []) : altR (xs ++ [41]) = .ok t [41] := by
  obtain ⟨P, K, e, f⟩ := whole_app h
  unfold altR
  rw [f [41] (fun c hc => by have : (41 : Int) = c := Option.some.inj hc; omega), parts_end, e]
  rfl
theorem parts_err (P K : List S26) {d : Int} {s : List Int} {c : Int} {k : Nat} (h1 : d ≠ 124) (h2 : d ≠ 41) (h : pieceR (d :: s) = .err c k) : partsR P K (d :: s) = .err c k := by
  rw [parts_piece _ _ _ _ h1 h2, h]; rfl
end Go.Proofs.Ytcdkooebhpfknaa.Rx
