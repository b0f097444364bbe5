/- rex, plainly: atoms, pieces, alternations. -/
import Derived.Test.YtcdkooebhpfknaaPl
import Derived.Sort.Defs
import Derived.Lib.BitFns
namespace Go.Proofs.Ytcdkooebhpfknaa.Rx
open Go.RowKit Go.Proofs.YtcdkooebhpfknaaW.PrintWords Go.Proofs.YtcdkooebhpfknaaW.PrintLast Go.Proofs.YtcdkooebhpfknaaW.PrintMore Go.Proofs.Ytcdkooebhpfknaa.PRx
set_option linter.unusedVariables false
set_option linter.unusedSimpArgs false

instance : Inhabited S37 := ⟨z37⟩
/-- The ranges that aren't empty, as the sort lays them. -/
def srt (rs : List S37) : List S37 :=
  let d := (rs.filter fun r => decide (r.f0 ≤ r.f1)).toArray
  (Go.Sort.pdq (fun x y => decide (cmpS x y < 0)) d 0 d.size (Go.Lib.bitLen d.size) true true).toList
/-- Ranges' bytes, or all others, as one row. -/
def rg (neg : Bool) (rs : List S37) : List S37 :=
  let q := mergeGo neg [] (srt rs) 0
  if neg = true ∧ q.2 < 256 then q.1 ++ [⟨q.2, 255⟩] else q.1
def setN (neg : Bool) (rs : List S37) : S26 := ⟨1, rg neg rs, []⟩
/-- A class, behind its [. -/
def classR (xs : List Int) : R S26 :=
  if xs.head? = some 94 then
    (if xs.tail.head? = some 93 then .err 30 xs.tail.length else (clsR (xs.tail.length + 1) [] xs.tail).bind fun rs r => .ok (setN true rs) r)
  else (if xs.head? = some 93 then .err 30 xs.length else (clsR (xs.length + 1) [] xs).bind fun rs r => .ok (setN false rs) r)
/-- An atom, if an alternation is as said. -/
def atomR (alt : List Int → R S26) : List Int → R S26
  | [] => .err 31 0
  | c :: r =>
    if c = 40 then (alt r).bind fun n r1 => match r1 with | [] => .err 31 0 | _ :: r2 => .ok n r2
    else if c = 46 then .ok (setN true [⟨10, 10⟩]) r
    else if c = 91 then classR r
    else if c = 92 then (if r.head? = some 100 then .ok (setN false [⟨48, 57⟩]) r.tail else (escR (r.length + 1) r).bind fun d r1 => .ok (setN false [⟨d, d⟩]) r1)
    else if c = 42 ∨ c = 43 ∨ c = 63 then .err 30 (r.length + 1)
    else .ok (setN false [⟨c, c⟩]) r
/-- The signs behind an atom. -/
def signR : S26 → List Int → S26 × List Int
  | t, [] => (t, [])
  | t, c :: r => if c = 42 then signR ⟨4, [], [t]⟩ r else if c = 43 then signR ⟨5, [], [t]⟩ r else if c = 63 then signR ⟨6, [], [t]⟩ r else (t, c :: r)
def catN (K : List S26) : S26 := ⟨2, [], K⟩
def mkAlt (ps : List S26) : S26 := if ps.length = 1 then ps.headD z26 else ⟨3, [], ps⟩
/-- The parts of an alternation: P are done, K are the kids of the next one. -/
def goR : Nat → List S26 → List S26 → List Int → R (List S26)
  | 0, _, _, _ => .err 0 0
  | _ + 1, P, K, [] => .ok (P ++ [catN K]) []
  | n + 1, P, K, c :: r =>
    if c = 124 then goR n (P ++ [catN K]) [] r
    else if c = 41 then .ok (P ++ [catN K]) (c :: r)
    else (atomR (fun ys => (goR n [] [] ys).bind fun ps r => .ok (mkAlt ps) r) (c :: r)).bind fun t r1 => goR n P (K ++ [(signR t r1).1]) (signR t r1).2
def partsR (P K : List S26) (xs : List Int) : R (List S26) := goR (xs.length + 1) P K xs
def altR (xs : List Int) : R S26 := (partsR [] [] xs).bind fun ps r => .ok (mkAlt ps) r
def pieceR (xs : List Int) : R S26 := (atomR altR xs).bind fun t r => .ok (signR t r).1 (signR t r).2

theorem bind_ok {α β : Type} {q : R α} {f : α → List Int → R β} {v : β} {r : List Int} (h : q.bind f = .ok v r) : ∃ u r1, q = .ok u r1 ∧ f u r1 = .ok v r := by
  cases q with
  | ok u r1 => exact ⟨u, r1, rfl, h⟩
  | err c k => cases h
theorem esc_shrinks {k : Nat} {xs r : List Int} {v : Int} (h : escR k xs = .ok v r) : r.length < xs.length := by
  cases xs with
  | nil => cases h
  | cons c xs =>
    rw [escR] at h
    repeat' split at h
    all_goals first | (cases h; done) | (injection h with h1 h2; subst h2; simp)
theorem item_shrinks {xs r : List Int} {v : Int} (h : itemR xs = .ok v r) : r.length < xs.length := by
  cases xs with
  | nil => cases h
  | cons c xs =>
    rw [itemR] at h
    split at h
    · have := esc_shrinks h; simp only [List.length_cons]; omega
    · injection h with h1 h2; subst h2; simp
theorem range_shrinks {xs r : List Int} {v : S37} (h : rangeR xs = .ok v r) : r.length < xs.length := by
  obtain ⟨lo, r1, h1, h2⟩ := bind_ok h
  obtain ⟨hi, r2, h3, h4⟩ := bind_ok h2
  have a := item_shrinks h1
  split at h3
  · have b := item_shrinks h3
    have e : r1.tail.length = r1.length - 1 := List.length_tail
    split at h4
    · cases h4
    · injection h4 with h5 h6; subst h6; omega
  · injection h3 with h5 h6
    subst h6
    split at h4
    · cases h4
    · injection h4 with h7 h8; subst h8; exact a
theorem cls_shrinks : ∀ (n : Nat) (acc : List S37) (xs r : List Int) (v : List S37), clsR n acc xs = .ok v r → r.length ≤ xs.length
  | 0, acc, xs, r, v, h => by cases h
  | n + 1, acc, xs, r, v, h => by
    unfold clsR at h
    split at h
    · injection h with h1 h2; subst h2; simp
    · obtain ⟨x, r1, h1, h2⟩ := bind_ok h
      have a := range_shrinks h1
      have b := cls_shrinks n _ _ _ _ h2
      omega
theorem cls_fuel : ∀ (n m : Nat) (acc : List S37) (xs : List Int), xs.length < n → xs.length < m → clsR n acc xs = clsR m acc xs
  | 0, m, acc, xs, hn, hm => by omega
  | n + 1, 0, acc, xs, hn, hm => by omega
  | n + 1, m + 1, acc, xs, hn, hm => by
    unfold clsR
    split
    · rfl
    · cases hq : rangeR xs with
      | err c k => rfl
      | ok x r =>
        have a := range_shrinks hq
        exact cls_fuel n m _ r (by omega) (by omega)
theorem class_shrinks {xs r : List Int} {v : S26} (h : classR xs = .ok v r) : r.length ≤ xs.length := by
  have e : xs.tail.length = xs.length - 1 := List.length_tail
  unfold classR at h
  repeat' split at h
  · cases h
  · obtain ⟨x, r1, h1, h2⟩ := bind_ok h
    have a := cls_shrinks _ _ _ _ _ h1
    injection h2 with h3 h4; subst h4; omega
  · cases h
  · obtain ⟨x, r1, h1, h2⟩ := bind_ok h
    have a := cls_shrinks _ _ _ _ _ h1
    injection h2 with h3 h4; subst h4; omega
theorem atom_shrinks {alt : List Int → R S26} {xs r : List Int} {v : S26} (ha : ∀ ys v r, ys.length < xs.length → alt ys = .ok v r → r.length ≤ ys.length) (h : atomR alt xs = .ok v r) : r.length < xs.length := by
  cases xs with
  | nil => cases h
  | cons c xs =>
    have e : xs.tail.length = xs.length - 1 := List.length_tail
    simp only [List.length_cons]
    rw [atomR] at h
    split at h
    · obtain ⟨x, r1, h1, h2⟩ := bind_ok h
      have a := ha xs _ _ (by simp) h1
      cases r1 with
      | nil => cases h2
      | cons d r2 => injection h2 with h3 h4; subst h4; simp only [List.length_cons] at a; omega
    · split at h
      · injection h with h3 h4; subst h4; omega
      · split at h
        · have := class_shrinks h; omega
        · split at h
          · split at h
            · injection h with h3 h4; subst h4; omega
            · obtain ⟨x, r1, h1, h2⟩ := bind_ok h
              have := esc_shrinks h1
              injection h2 with h3 h4; subst h4; omega
          · split at h
            · cases h
            · injection h with h3 h4; subst h4; omega
theorem sign_shrinks : ∀ (xs : List Int) (t : S26), (signR t xs).2.length ≤ xs.length
  | [], t => by simp [signR]
  | c :: r, t => by
    unfold signR
    repeat' split
    · have := sign_shrinks r ⟨4, [], [t]⟩; simp only [List.length_cons]; omega
    · have := sign_shrinks r ⟨5, [], [t]⟩; simp only [List.length_cons]; omega
    · have := sign_shrinks r ⟨6, [], [t]⟩; simp only [List.length_cons]; omega
    · simp
theorem go_shrinks : ∀ (n : Nat) (P K : List S26) (xs r : List Int) (v : List S26), goR n P K xs = .ok v r → r.length ≤ xs.length
  | 0, P, K, xs, r, v, h => by cases h
  | n + 1, P, K, [], r, v, h => by injection h with h1 h2; subst h2; simp
  | n + 1, P, K, c :: xs, r, v, h => by
    unfold goR at h
    split at h
    · have := go_shrinks n _ _ _ _ _ h; simp only [List.length_cons]; omega
    · split at h
      · injection h with h1 h2; subst h2; simp
      · obtain ⟨t, r1, h1, h2⟩ := bind_ok h
        have a := atom_shrinks (fun ys v r _ h => by
          obtain ⟨ps, r2, h3, h4⟩ := bind_ok h
          have := go_shrinks n _ _ _ _ _ h3
          injection h4 with h5 h6; subst h6; exact this) h1
        have b := sign_shrinks r1 t
        have c := go_shrinks n _ _ _ _ _ h2
        omega
theorem atom_congr {f g : List Int → R S26} {c : Int} {xs : List Int} (h : f xs = g xs) : atomR f (c :: xs) = atomR g (c :: xs) := by
  rw [atomR, atomR, h]
theorem go_fuel : ∀ (n m : Nat) (P K : List S26) (xs : List Int), xs.length < n → xs.length < m → goR n P K xs = goR m P K xs
  | 0, m, P, K, xs, hn, hm => by omega
  | n + 1, 0, P, K, xs, hn, hm => by omega
  | n + 1, m + 1, P, K, [], hn, hm => rfl
  | n + 1, m + 1, P, K, c :: xs, hn, hm => by
    simp only [List.length_cons] at hn hm
    unfold goR
    rw [go_fuel n m (P ++ [catN K]) [] xs (by omega) (by omega)]
    rw [atom_congr (f := fun ys => (goR n [] [] ys).bind fun ps r => .ok (mkAlt ps) r) (g := fun ys => (goR m [] [] ys).bind fun ps r => .ok (mkAlt ps) r) (by show (goR n [] [] xs).bind _ = (goR m [] [] xs).bind _; rw [go_fuel n m [] [] xs (by omega) (by omega)])]
    split
    · rfl
    · split
      · rfl
      · cases hq : atomR (fun ys => (goR m [] [] ys).bind fun ps r => .ok (mkAlt ps) r) (c :: xs) with
        | err c k => rfl
        | ok t r1 =>
          have a := atom_shrinks (fun ys v r _ h => by
            obtain ⟨ps, r2, h3, h4⟩ := bind_ok h
            have := go_shrinks m _ _ _ _ _ h3
            injection h4 with h5 h6; subst h6; exact this) hq
          have b := sign_shrinks r1 t
          simp only [List.length_cons] at a
          exact go_fuel n m _ _ _ (by omega) (by omega)
theorem alt_shrinks {xs r : List Int} {v : S26} (h : altR xs = .ok v r) : r.length ≤ xs.length := by
  obtain ⟨ps, r2, h3, h4⟩ := bind_ok h
  have := go_shrinks _ _ _ _ _ _ h3
  injection h4 with h5 h6; subst h6; exact this
theorem parts_nil (P K : List S26) : partsR P K [] = .ok (P ++ [catN K]) [] := rfl
theorem parts_bar (P K : List S26) (r : List Int) : partsR P K (124 :: r) = partsR (P ++ [catN K]) [] r := rfl
theorem parts_end (P K : List S26) (r : List Int) : partsR P K (41 :: r) = .ok (P ++ [catN K]) (41 :: r) := rfl
theorem piece_shrinks {xs r : List Int} {t : S26} (h : pieceR xs = .ok t r) : r.length < xs.length := by
  obtain ⟨u, r1, h1, h2⟩ := bind_ok h
  have a := atom_shrinks (fun ys v r _ h => alt_shrinks h) h1
  have b := sign_shrinks r1 u
  injection h2 with h3 h4; subst h4; omega
theorem parts_piece (P K : List S26) (c : Int) (r : List Int) (h1 : c ≠ 124) (h2 : c ≠ 41) : partsR P K (c :: r) = (pieceR (c :: r)).bind fun t r1 => partsR P (K ++ [t]) r1 := by
  unfold partsR pieceR
  rw [List.length_cons, goR, if_neg h1, if_neg h2]
  rw [atom_congr (f := fun ys => (goR (r.length + 1) [] [] ys).bind fun ps r => .ok (mkAlt ps) r) (g := altR) rfl]
  cases hq : atomR altR (c :: r) with
  | err c k => rfl
  | ok t r1 =>
    have a := atom_shrinks (fun ys v r _ h => alt_shrinks h) hq
    have b := sign_shrinks r1 t
    simp only [List.length_cons] at a
    exact go_fuel _ _ _ _ _ (by omega) (by omega)
end Go.Proofs.Ytcdkooebhpfknaa.Rx
