/- glob, plainly: what a file pattern's bytes come to. No program in sight. A text's bytes as a file pattern and as an expression: the same tree. -/
import Derived.Test.YtdgidcfmggmbiaaMa
import Derived.Test.YtdgidcfmggmbiaaMi
namespace Go.Proofs.Ytdgidcfmggmbiaa.Rx
open Go.RowKit Go.Proofs.YtdgidcfmggmbiaaW.PrintWords Go.Proofs.YtdgidcfmggmbiaaW.PrintLast Go.Proofs.YtdgidcfmggmbiaaW.PrintMore Go.Proofs.Ytdgidcfmggmbiaa.PRx
set_option linter.unusedVariables false
set_option linter.unusedSimpArgs false

def quotG : List Int → R (Int × Bool)
  | [] => .err 31 0
  | d :: r => .ok (d, true) r
/-- A byte, behind a backslash perhaps (then true). -/
def itemG : List Int → R (Int × Bool)
  | [] => .err 31 0
  | c :: r => if c = 92 then quotG r else .ok (c, false) r
/-- A class's ranges, and what is behind its ]. -/
def clsG : Nat → List S98 → List Int → R (List S98)
  | 0, _, _ => .err 0 0
  | n + 1, acc, xs => (itemG xs).bind fun q r =>
    if acc ≠ [] ∧ q = (93, false) then .ok acc r
    else ((if dash r then itemG r.tail else .ok q r) : R (Int × Bool)).bind fun p r2 => if p.1 < q.1 then .err 32 xs.length else clsG n (acc ++ [⟨q.1, p.1⟩]) r2
/-- A class, behind its [. -/
def classG (xs : List Int) : R S30 :=
  if xs.head? = some 33 then (clsG (xs.tail.length + 1) [] xs.tail).bind fun rs r => .ok (setN true rs) r
  else (clsG (xs.length + 1) [] xs).bind fun rs r => .ok (setN false rs) r
def oneN (c : Int) : S30 := ⟨1, [⟨c, c⟩], []⟩
def anyN : S30 := ⟨1, [⟨0, 255⟩], []⟩
/-- One part of a pattern. -/
def partG (xs : List Int) : R S30 := (itemG xs).bind fun q r =>
  if q.2 = true then .ok (oneN q.1) r
  else if q.1 = 63 then .ok anyN r
  else if q.1 = 42 then .ok ⟨4, [], [anyN]⟩ r
  else if q.1 = 91 then classG r
  else .ok (oneN q.1) r
def goG : Nat → List S30 → List Int → R (List S30)
  | 0, _, _ => .err 0 0
  | n + 1, K, xs => if xs = [] then .ok K [] else (partG xs).bind fun t r => goG n (K ++ [t]) r
def globP (xs : List Int) : S30 × Int × Int :=
  if 256 < xs.length then (z30, 2, 0) else
  match goG (xs.length + 1) [] xs with
  | .ok K _ => (catN K, 0, 0)
  | .err c k => (z30, c, (xs.length : Int) - (k : Int))

theorem itemG_shrinks {xs r : List Int} {v : Int × Bool} (h : itemG xs = .ok v r) : r.length < xs.length := by
  cases xs with
  | nil => cases h
  | cons c xs =>
    rw [itemG] at h
    split at h
    · cases xs with
      | nil => cases h
      | cons d r1 => injection h with h1 h2; subst h2; simp only [List.length_cons]; omega
    · injection h with h1 h2; subst h2; simp
theorem clsG_shrinks : ∀ (n : Nat) (acc : List S98) (xs r : List Int) (v : List S98), clsG n acc xs = .ok v r → r.length < xs.length
  | 0, acc, xs, r, v, h => by cases h
  | n + 1, acc, xs, r, v, h => by
    rw [clsG] at h
    obtain ⟨q, r1, h1, h2⟩ := bind_ok h
    have a := itemG_shrinks h1
    split at h2
    · injection h2 with h3 h4; subst h4; exact a
    · obtain ⟨p, r2, h3, h4⟩ := bind_ok h2
      have e : r1.tail.length = r1.length - 1 := List.length_tail
      have b : r2.length ≤ r1.length := by
        split at h3
        · have := itemG_shrinks h3; omega
        · injection h3 with h5 h6; subst h6; exact Nat.le_refl _
      split at h4
      · cases h4
      · have := clsG_shrinks n _ _ _ _ h4; omega
theorem clsG_fuel : ∀ (n m : Nat) (acc : List S98) (xs : List Int), xs.length < n → xs.length < m → clsG n acc xs = clsG m acc xs
  | 0, m, acc, xs, hn, hm => by omega
  | n + 1, 0, acc, xs, hn, hm => by omega
  | n + 1, m + 1, acc, xs, hn, hm => by
    rw [clsG, clsG]
    cases hq : itemG xs with
    | err c k => rfl
    | ok q r =>
      have a := itemG_shrinks hq
      have e : r.tail.length = r.length - 1 := List.length_tail
      show (if acc ≠ [] ∧ q = (93, false) then _ else _) = if acc ≠ [] ∧ q = (93, false) then _ else _
      by_cases hb : acc ≠ [] ∧ q = (93, false)
      · rw [if_pos hb, if_pos hb]
      · rw [if_neg hb, if_neg hb]
        cases hp : ((if dash r then itemG r.tail else .ok q r) : R (Int × Bool)) with
        | err c k => rfl
        | ok p r2 =>
          have b : r2.length ≤ r.length := by
            split at hp
            · have := itemG_shrinks hp; omega
            · injection hp with h5 h6; subst h6; exact Nat.le_refl _
          show (if p.1 < q.1 then _ else _) = if p.1 < q.1 then _ else _
          rw [clsG_fuel n m _ r2 (by omega) (by omega)]
theorem classG_shrinks {xs r : List Int} {v : S30} (h : classG xs = .ok v r) : r.length ≤ xs.length := by
  have e : xs.tail.length = xs.length - 1 := List.length_tail
  unfold classG at h
  split at h
  · obtain ⟨x, r1, h1, h2⟩ := bind_ok h
    have a := clsG_shrinks _ _ _ _ _ h1
    injection h2 with h3 h4; subst h4; omega
  · obtain ⟨x, r1, h1, h2⟩ := bind_ok h
    have a := clsG_shrinks _ _ _ _ _ h1
    injection h2 with h3 h4; subst h4; omega
theorem partG_shrinks {xs r : List Int} {v : S30} (h : partG xs = .ok v r) : r.length < xs.length := by
  obtain ⟨q, r1, h1, h2⟩ := bind_ok h
  have a := itemG_shrinks h1
  repeat' split at h2
  · injection h2 with h3 h4; subst h4; exact a
  · injection h2 with h3 h4; subst h4; exact a
  · injection h2 with h3 h4; subst h4; exact a
  · have := classG_shrinks h2; omega
  · injection h2 with h3 h4; subst h4; exact a
theorem goG_fuel : ∀ (n m : Nat) (K : List S30) (xs : List Int), xs.length < n → xs.length < m → goG n K xs = goG m K xs
  | 0, m, K, xs, hn, hm => by omega
  | n + 1, 0, K, xs, hn, hm => by omega
  | n + 1, m + 1, K, xs, hn, hm => by
    rw [goG, goG]
    split
    · rfl
    · cases hp : partG xs with
      | err c k => rfl
      | ok t r =>
        have a := partG_shrinks hp
        exact goG_fuel n m _ r (by omega) (by omega)
/-- A quoted text's pattern is its bytes' sets, one behind the other. -/
theorem goG_quoted : ∀ (cs : List Int) (n : Nat) (K : List S30), 2 * cs.length < n → goG n K (cs.flatMap fun c => [92, c]) = .ok (K ++ cs.map oneN) []
  | [], 0, K, hn => by omega
  | [], n + 1, K, hn => by simp [goG]
  | c :: cs, 0, K, hn => by omega
  | c :: cs, n + 1, K, hn => by
    rw [goG, List.flatMap_cons, if_neg (by simp)]
    show goG n (K ++ [oneN c]) (cs.flatMap fun c => [92, c]) = _
    simp only [List.length_cons] at hn
    rw [goG_quoted cs n _ (by omega), List.map_cons, List.append_assoc]; rfl
/-- Letters are their sets. -/
theorem goG_plain : ∀ (cs : List Int) (n : Nat) (K : List S30), (∀ c, c ∈ cs → c ≠ 92 ∧ c ≠ 63 ∧ c ≠ 42 ∧ c ≠ 91) → cs.length < n → goG n K cs = .ok (K ++ cs.map oneN) []
  | [], 0, K, hc, hn => by omega
  | [], n + 1, K, hc, hn => by simp [goG]
  | c :: cs, 0, K, hc, hn => by omega
  | c :: cs, n + 1, K, hc, hn => by
    obtain ⟨h1, h2, h3, h4⟩ := hc c (by simp)
    simp only [List.length_cons] at hn
    have hp : partG (c :: cs) = .ok (oneN c) cs := by
      simp [partG, itemG, R.bind, h1, h2, h3, h4]
    rw [goG, if_neg (by simp), hp]
    show goG n (K ++ [oneN c]) cs = _
    rw [goG_plain cs n _ (fun x hx => hc x (by simp [hx])) (by omega), List.map_cons, List.append_assoc]; rfl
theorem globP_quoted (cs : List Int) (h : 2 * cs.length ≤ 256) : globP (cs.flatMap fun c => [92, c]) = (catN (cs.map oneN), 0, 0) := by
  have hl : (cs.flatMap fun c => [92, c]).length = 2 * cs.length := by
    induction cs with
    | nil => rfl
    | cons c cs ih => simp only [List.flatMap_cons, List.length_append, List.length_cons, List.length_nil] at *; rw [ih (by omega)]; omega
  rw [globP, hl, if_neg (by omega), goG_quoted cs _ [] (by omega)]; rfl
theorem globP_plain (cs : List Int) (hc : ∀ c, c ∈ cs → c ≠ 92 ∧ c ≠ 63 ∧ c ≠ 42 ∧ c ≠ 91) (h : cs.length ≤ 256) : globP cs = (catN (cs.map oneN), 0, 0) := by
  rw [globP, if_neg (by omega), goG_plain cs _ [] hc (by omega)]; rfl
end Go.Proofs.Ytdgidcfmggmbiaa.Rx
namespace Go.Proofs.Ytdgidcfmggmbiaa.Rx
open Go.RowKit Go.Proofs.YtdgidcfmggmbiaaW.PrintWords Go.Proofs.YtdgidcfmggmbiaaW.PrintLast Go.Proofs.YtdgidcfmggmbiaaW.PrintMore Go.Proofs.Ytdgidcfmggmbiaa.PRx
set_option linter.unusedVariables false
set_option linter.unusedSimpArgs false

/-- A byte, with a backslash ahead if it is a sign. -/
def sgn (c : Int) : List Int := if specials.contains c = true then [92, c] else [c]
theorem sgn_atom {c : Int} (hc : 0 ≤ c ∧ c ≤ 255) (ys : List Int) : atomR altR (sgn c ++ ys) = .ok (oneN c) ys := by
  have hs : setN false [⟨c, c⟩] = oneN c := by unfold setN oneN; rw [rg_same (canon_one hc)]
  rw [← hs]
  unfold sgn
  by_cases h : specials.contains c = true
  · rw [if_pos h]
    obtain ⟨h1, h2, h3, h4⟩ := spec_alnum h
    show atomR altR (92 :: c :: ys) = _
    simp [atomR, escR, R.bind, h1, h2, h3, h4]
  · rw [if_neg h]
    obtain ⟨h1, h2, h3, h4, h5, h6, h7, h8, h9⟩ := spec_not (by simpa using h)
    show atomR altR (c :: ys) = _
    simp [atomR, h1, h2, h3, h4, h5, h6, h7, h8, h9]
theorem sgn_head (c : Int) : ∃ d l, sgn c = d :: l ∧ d ≠ 124 ∧ d ≠ 41 ∧ d ≠ 42 ∧ d ≠ 43 ∧ d ≠ 63 := by
  unfold sgn
  by_cases h : specials.contains c = true
  · rw [if_pos h]; exact ⟨92, [c], rfl, by decide, by decide, by decide, by decide, by decide⟩
  · rw [if_neg h]
    obtain ⟨h1, h2, h3, h4, h5, h6, h7, h8, h9⟩ := spec_not (by simpa using h)
    exact ⟨c, [], rfl, h1, h3, h4, h5, h6⟩
theorem sign_sgn (t : S30) (cs : List Int) : signR t (cs.flatMap sgn) = (t, cs.flatMap sgn) := by
  cases cs with
  | nil => rfl
  | cons c cs =>
    obtain ⟨d, l, e, h1, h2, h3, h4, h5⟩ := sgn_head c
    rw [List.flatMap_cons, e, List.cons_append, signR, if_neg h3, if_neg h4, if_neg h5]
theorem parts_sgn : ∀ (cs : List Int) (P K : List S30), (∀ c, c ∈ cs → 0 ≤ c ∧ c ≤ 255) → partsR P K (cs.flatMap sgn) = .ok (P ++ [catN (K ++ cs.map oneN)]) []
  | [], P, K, hc => by simp [parts_nil]
  | c :: cs, P, K, hc => by
    obtain ⟨d, l, e, h1, h2, h3, h4, h5⟩ := sgn_head c
    have hp : pieceR (sgn c ++ cs.flatMap sgn) = .ok (oneN c) (cs.flatMap sgn) := by
      unfold pieceR
      rw [sgn_atom (hc c (by simp))]
      show R.ok (signR (oneN c) (cs.flatMap sgn)).1 (signR (oneN c) (cs.flatMap sgn)).2 = _
      rw [sign_sgn]
    rw [List.flatMap_cons]
    rw [e, List.cons_append] at hp ⊢
    rw [parts_piece _ _ _ _ h1 h2, hp]
    show partsR P (K ++ [oneN c]) (cs.flatMap sgn) = _
    rw [parts_sgn cs P _ (fun x hx => hc x (by simp [hx])), List.map_cons, List.append_assoc]; rfl
theorem alt_sgn (cs : List Int) (hc : ∀ c, c ∈ cs → 0 ≤ c ∧ c ≤ 255) : altR (cs.flatMap sgn) = .ok (catN (cs.map oneN)) [] := by
  unfold altR
  rw [parts_sgn cs [] [] hc]
  rfl
theorem sgn_plain {cs : List Int} (h : ∀ c, c ∈ cs → specials.contains c = false) : cs.flatMap sgn = cs := by
  induction cs with
  | nil => rfl
  | cons c cs ih => rw [List.flatMap_cons, ih (fun x hx => h x (by simp [hx]))]; unfold sgn; rw [h c (by simp)]; rfl
end Go.Proofs.Ytdgidcfmggmbiaa.Rx
