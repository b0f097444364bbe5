/- rex, plainly: what a pattern's bytes come to. No program in sight. rex, plainly: atoms, pieces, alternations. rex, plainly: a set's ranges are one row for each set of bytes. rex, plainly: what stands behind a pattern doesn't change what is read of it. rex, plainly: an error has a number. -/
import Derived.Test.YtdgidcfmggmbiaaPRxx0
import Derived.Sort.Defs
import Derived.Lib.BitFns
namespace Go.Proofs.Ytdgidcfmggmbiaa.Rx
open Go.RowKit Go.Proofs.YtdgidcfmggmbiaaW.PrintWords Go.Proofs.YtdgidcfmggmbiaaW.PrintLast Go.Proofs.YtdgidcfmggmbiaaW.PrintMore Go.Proofs.Ytdgidcfmggmbiaa.PRx
set_option linter.unusedVariables false
set_option linter.unusedSimpArgs false

/-- A text's bytes. -/
def bI (s : ByteArray) : List Int := s.data.toList.map fun b => (b.toNat : Int)
theorem bI_len (s : ByteArray) : (bI s).length = s.size := by simp [bI]
theorem bI_rng (s : ByteArray) : ∀ x, x ∈ bI s → 0 ≤ x ∧ x < 256 := by
  intro x hx
  simp only [bI, List.mem_map] at hx
  obtain ⟨b, _, rfl⟩ := hx
  have := b.toNat_lt
  omega
/-- Read on, with what is left; or an error and how much was left at its place. -/
inductive R (α : Type) where
  | ok (v : α) (r : List Int)
  | err (c : Int) (k : Nat)
def R.bind {α β : Type} : R α → (α → List Int → R β) → R β
  | .ok v r, f => f v r
  | .err c k, _ => .err c k
/-- A letter or a digit. -/
def alnumI (c : Int) : Bool := decide (97 ≤ c ∧ c ≤ 122) || decide (65 ≤ c ∧ c ≤ 90) || decide (48 ≤ c ∧ c ≤ 57)
/-- Behind a backslash (k: what was left at it). -/
def escR (k : Nat) : List Int → R Int
  | [] => .err 31 0
  | c :: r => if c = 110 then .ok 10 r else if c = 116 then .ok 9 r else if alnumI c = true then .err 30 k else .ok c r
def itemR : List Int → R Int
  | [] => .err 31 0
  | c :: r => if c = 92 then escR (r.length + 1) r else .ok c r
/-- Is a - here, and behind it something that is no ]? -/
def dash : List Int → Bool
  | 45 :: d :: _ => decide (d ≠ 93)
  | _ => false
/-- One range of a class. -/
def rangeR (xs : List Int) : R S98 :=
  (itemR xs).bind fun lo r => ((if dash r then itemR r.tail else .ok lo r) : R Int).bind fun hi r2 => if hi < lo then .err 32 xs.length else .ok ⟨lo, hi⟩ r2
/-- A class's ranges, up to its ]. -/
def clsR : Nat → List S98 → List Int → R (List S98)
  | 0, _, _ => .err 0 0
  | n + 1, acc, xs => if acc ≠ [] ∧ xs.head? = some 93 then .ok acc xs.tail else (rangeR xs).bind fun x r => clsR n (acc ++ [x]) r

/-- The ranges, sorted, made one row (or all others). -/
def mergeGo (neg : Bool) : List S98 → List S98 → Int → List S98 × Int
  | out, [], next => (out, next)
  | out, r :: rs, next =>
    let nx := max next (r.f1 + 1)
    if neg = true then
      (if next < r.f0 then mergeGo neg (out ++ [⟨next, r.f0 - 1⟩]) rs nx else mergeGo neg out rs nx)
    else if 0 < out.length ∧ r.f0 ≤ next then
      mergeGo neg (out.dropLast ++ [⟨(out.getLast?.getD z98).f0, max (out.getLast?.getD z98).f1 r.f1⟩]) rs nx
    else mergeGo neg (out ++ [r]) rs nx
def cmpS (x y : S98) : Int := if x.f0 < y.f0 then -1 else if x.f0 > y.f0 then 1 else 0
end Go.Proofs.Ytdgidcfmggmbiaa.Rx
namespace Go.Proofs.Ytdgidcfmggmbiaa.Rx
open Go.RowKit Go.Proofs.YtdgidcfmggmbiaaW.PrintWords Go.Proofs.YtdgidcfmggmbiaaW.PrintLast Go.Proofs.YtdgidcfmggmbiaaW.PrintMore Go.Proofs.Ytdgidcfmggmbiaa.PRx
set_option linter.unusedVariables false
set_option linter.unusedSimpArgs false

instance : Inhabited S98 := ⟨z98⟩
/-- The ranges that aren't empty, as the sort lays them. -/
def srt (rs : List S98) : List S98 :=
  let d := (rs.filter fun r => decide (r.f0 ≤ r.f1)).toArray
  (Go.Sort.pdq (fun x y => decide (cmpS x y < 0)) d 0 d.size (Go.Lib.bitLen d.size) true true).toList
/-- Ranges' bytes, or all others, as one row. -/
def rg (neg : Bool) (rs : List S98) : List S98 :=
  let q := mergeGo neg [] (srt rs) 0
  if neg = true ∧ q.2 < 256 then q.1 ++ [⟨q.2, 255⟩] else q.1
def setN (neg : Bool) (rs : List S98) : S30 := ⟨1, rg neg rs, []⟩
/-- A class, behind its [. -/
def classR (xs : List Int) : R S30 :=
  if xs.head? = some 94 then
    (if xs.tail.head? = some 93 then .err 30 xs.tail.length else (clsR (xs.tail.length + 1) [] xs.tail).bind fun rs r => .ok (setN true rs) r)
  else (if xs.head? = some 93 then .err 30 xs.length else (clsR (xs.length + 1) [] xs).bind fun rs r => .ok (setN false rs) r)
/-- An atom, if an alternation is as said. -/
def atomR (alt : List Int → R S30) : List Int → R S30
  | [] => .err 31 0
  | c :: r =>
    if c = 40 then (alt r).bind fun n r1 => match r1 with | [] => .err 31 0 | _ :: r2 => .ok n r2
    else if c = 46 then .ok (setN true [⟨10, 10⟩]) r
    else if c = 91 then classR r
    else if c = 92 then (if r.head? = some 100 then .ok (setN false [⟨48, 57⟩]) r.tail else (escR (r.length + 1) r).bind fun d r1 => .ok (setN false [⟨d, d⟩]) r1)
    else if c = 42 ∨ c = 43 ∨ c = 63 then .err 30 (r.length + 1)
    else .ok (setN false [⟨c, c⟩]) r
/-- The signs behind an atom. -/
def signR : S30 → List Int → S30 × List Int
  | t, [] => (t, [])
  | t, c :: r => if c = 42 then signR ⟨4, [], [t]⟩ r else if c = 43 then signR ⟨5, [], [t]⟩ r else if c = 63 then signR ⟨6, [], [t]⟩ r else (t, c :: r)
def catN (K : List S30) : S30 := ⟨2, [], K⟩
def mkAlt (ps : List S30) : S30 := if ps.length = 1 then ps.headD z30 else ⟨3, [], ps⟩
/-- The parts of an alternation: P are done, K are the kids of the next one. -/
def goR : Nat → List S30 → List S30 → List Int → R (List S30)
  | 0, _, _, _ => .err 0 0
  | _ + 1, P, K, [] => .ok (P ++ [catN K]) []
  | n + 1, P, K, c :: r =>
    if c = 124 then goR n (P ++ [catN K]) [] r
    else if c = 41 then .ok (P ++ [catN K]) (c :: r)
    else (atomR (fun ys => (goR n [] [] ys).bind fun ps r => .ok (mkAlt ps) r) (c :: r)).bind fun t r1 => goR n P (K ++ [(signR t r1).1]) (signR t r1).2
def partsR (P K : List S30) (xs : List Int) : R (List S30) := goR (xs.length + 1) P K xs
def altR (xs : List Int) : R S30 := (partsR [] [] xs).bind fun ps r => .ok (mkAlt ps) r
def pieceR (xs : List Int) : R S30 := (atomR altR xs).bind fun t r => .ok (signR t r).1 (signR t r).2

theorem bind_ok {α β : Type} {q : R α} {f : α → List Int → R β} {v : β} {r : List Int} (h : q.bind f = .ok v r) : ∃ u r1, q = .ok u r1 ∧ f u r1 = .ok v r := by
  cases q with
  | ok u r1 => exact ⟨u, r1, rfl, h⟩
  | err c k => cases h
theorem esc_shrinks {k : Nat} {xs r : List Int} {v : Int} (h : escR k xs = .ok v r) : r.length < xs.length := by
  cases xs with
  | nil => cases h
  | cons c xs =>
    rw [escR] at h
    repeat' split at h
    all_goals first | (cases h; done) | (injection h with h1 h2; subst h2; simp)
theorem item_shrinks {xs r : List Int} {v : Int} (h : itemR xs = .ok v r) : r.length < xs.length := by
  cases xs with
  | nil => cases h
  | cons c xs =>
    rw [itemR] at h
    split at h
    · have := esc_shrinks h; simp only [List.length_cons]; omega
    · injection h with h1 h2; subst h2; simp
theorem range_shrinks {xs r : List Int} {v : S98} (h : rangeR xs = .ok v r) : r.length < xs.length := by
  obtain ⟨lo, r1, h1, h2⟩ := bind_ok h
  obtain ⟨hi, r2, h3, h4⟩ := bind_ok h2
  have a := item_shrinks h1
  split at h3
  · have b := item_shrinks h3
    have e : r1.tail.length = r1.length - 1 := List.length_tail
    split at h4
    · cases h4
    · injection h4 with h5 h6; subst h6; omega
  · injection h3 with h5 h6
    subst h6
    split at h4
    · cases h4
    · injection h4 with h7 h8; subst h8; exact a
theorem cls_shrinks : ∀ (n : Nat) (acc : List S98) (xs r : List Int) (v : List S98), clsR n acc xs = .ok v r → r.length ≤ xs.length
  | 0, acc, xs, r, v, h => by cases h
  | n + 1, acc, xs, r, v, h => by
    unfold clsR at h
    split at h
    · injection h with h1 h2; subst h2; simp
    · obtain ⟨x, r1, h1, h2⟩ := bind_ok h
      have a := range_shrinks h1
      have b := cls_shrinks n _ _ _ _ h2
      omega
theorem cls_fuel : ∀ (n m : Nat) (acc : List S98) (xs : List Int), xs.length < n → xs.length < m → clsR n acc xs = clsR m acc xs
  | 0, m, acc, xs, hn, hm => by omega
  | n + 1, 0, acc, xs, hn, hm => by omega
  | n + 1, m + 1, acc, xs, hn, hm => by
    unfold clsR
    split
    · rfl
    · cases hq : rangeR xs with
      | err c k => rfl
      | ok x r =>
        have a := range_shrinks hq
        exact cls_fuel n m _ r (by omega) (by omega)
theorem class_shrinks {xs r : List Int} {v : S30} (h : classR xs = .ok v r) : r.length ≤ xs.length := by
  have e : xs.tail.length = xs.length - 1 := List.length_tail
  unfold classR at h
  repeat' split at h
  · cases h
  · obtain ⟨x, r1, h1, h2⟩ := bind_ok h
    have a := cls_shrinks _ _ _ _ _ h1
    injection h2 with h3 h4; subst h4; omega
  · cases h
  · obtain ⟨x, r1, h1, h2⟩ := bind_ok h
    have a := cls_shrinks _ _ _ _ _ h1
    injection h2 with h3 h4; subst h4; omega
theorem atom_shrinks {alt : List Int → R S30} {xs r : List Int} {v : S30} (ha : ∀ ys v r, ys.length < xs.length → alt ys = .ok v r → r.length ≤ ys.length) (h : atomR alt xs = .ok v r) : r.length < xs.length := by
  cases xs with
  | nil => cases h
  | cons c xs =>
    have e : xs.tail.length = xs.length - 1 := List.length_tail
    simp only [List.length_cons]
    rw [atomR] at h
    split at h
    · obtain ⟨x, r1, h1, h2⟩ := bind_ok h
      have a := ha xs _ _ (by simp) h1
      cases r1 with
      | nil => cases h2
      | cons d r2 => injection h2 with h3 h4; subst h4; simp only [List.length_cons] at a; omega
    · split at h
      · injection h with h3 h4; subst h4; omega
      · split at h
        · have := class_shrinks h; omega
        · split at h
          · split at h
            · injection h with h3 h4; subst h4; omega
            · obtain ⟨x, r1, h1, h2⟩ := bind_ok h
              have := esc_shrinks h1
              injection h2 with h3 h4; subst h4; omega
          · split at h
            · cases h
            · injection h with h3 h4; subst h4; omega
theorem sign_shrinks : ∀ (xs : List Int) (t : S30), (signR t xs).2.length ≤ xs.length
  | [], t => by simp [signR]
  | c :: r, t => by
    unfold signR
    repeat' split
    · have := sign_shrinks r ⟨4, [], [t]⟩; simp only [List.length_cons]; omega
    · have := sign_shrinks r ⟨5, [], [t]⟩; simp only [List.length_cons]; omega
    · have := sign_shrinks r ⟨6, [], [t]⟩; simp only [List.length_cons]; omega
    · simp
theorem go_shrinks : ∀ (n : Nat) (P K : List S30) (xs r : List Int) (v : List S30), goR n P K xs = .ok v r → r.length ≤ xs.length
  | 0, P, K, xs, r, v, h => by cases h
  | n + 1, P, K, [], r, v, h => by injection h with h1 h2; subst h2; simp
  | n + 1, P, K, c :: xs, r, v, h => by
    unfold goR at h
    split at h
    · have := go_shrinks n _ _ _ _ _ h; simp only [List.length_cons]; omega
    · split at h
      · injection h with h1 h2; subst h2; simp
      · obtain ⟨t, r1, h1, h2⟩ := bind_ok h
        have a := atom_shrinks (fun ys v r _ h => by
          obtain ⟨ps, r2, h3, h4⟩ := bind_ok h
          have := go_shrinks n _ _ _ _ _ h3
          injection h4 with h5 h6; subst h6; exact this) h1
        have b := sign_shrinks r1 t
        have c := go_shrinks n _ _ _ _ _ h2
        omega
theorem atom_congr {f g : List Int → R S30} {c : Int} {xs : List Int} (h : f xs = g xs) : atomR f (c :: xs) = atomR g (c :: xs) := by
  rw [atomR, atomR, h]
theorem go_fuel : ∀ (n m : Nat) (P K : List S30) (xs : List Int), xs.length < n → xs.length < m → goR n P K xs = goR m P K xs
  | 0, m, P, K, xs, hn, hm => by omega
  | n + 1, 0, P, K, xs, hn, hm => by omega
  | n + 1, m + 1, P, K, [], hn, hm => rfl
  | n + 1, m + 1, P, K, c :: xs, hn, hm => by
    simp only [List.length_cons] at hn hm
    unfold goR
    rw [go_fuel n m (P ++ [catN K]) [] xs (by omega) (by omega)]
    rw [atom_congr (f := fun ys => (goR n [] [] ys).bind fun ps r => .ok (mkAlt ps) r) (g := fun ys => (goR m [] [] ys).bind fun ps r => .ok (mkAlt ps) r) (by show (goR n [] [] xs).bind _ = (goR m [] [] xs).bind _; rw [go_fuel n m [] [] xs (by omega) (by omega)])]
    split
    · rfl
    · split
      · rfl
      · cases hq : atomR (fun ys => (goR m [] [] ys).bind fun ps r => .ok (mkAlt ps) r) (c :: xs) with
        | err c k => rfl
        | ok t r1 =>
          have a := atom_shrinks (fun ys v r _ h => by
            obtain ⟨ps, r2, h3, h4⟩ := bind_ok h
            have := go_shrinks m _ _ _ _ _ h3
            injection h4 with h5 h6; subst h6; exact this) hq
          have b := sign_shrinks r1 t
          simp only [List.length_cons] at a
          exact go_fuel n m _ _ _ (by omega) (by omega)
theorem alt_shrinks {xs r : List Int} {v : S30} (h : altR xs = .ok v r) : r.length ≤ xs.length := by
  obtain ⟨ps, r2, h3, h4⟩ := bind_ok h
  have := go_shrinks _ _ _ _ _ _ h3
  injection h4 with h5 h6; subst h6; exact this
theorem parts_nil (P K : List S30) : partsR P K [] = .ok (P ++ [catN K]) [] := rfl
theorem parts_bar (P K : List S30) (r : List Int) : partsR P K (124 :: r) = partsR (P ++ [catN K]) [] r := rfl
theorem parts_end (P K : List S30) (r : List Int) : partsR P K (41 :: r) = .ok (P ++ [catN K]) (41 :: r) := rfl
theorem piece_shrinks {xs r : List Int} {t : S30} (h : pieceR xs = .ok t r) : r.length < xs.length := by
  obtain ⟨u, r1, h1, h2⟩ := bind_ok h
  have a := atom_shrinks (fun ys v r _ h => alt_shrinks h) h1
  have b := sign_shrinks r1 u
  injection h2 with h3 h4; subst h4; omega
theorem parts_piece (P K : List S30) (c : Int) (r : List Int) (h1 : c ≠ 124) (h2 : c ≠ 41) : partsR P K (c :: r) = (pieceR (c :: r)).bind fun t r1 => partsR P (K ++ [t]) r1 := by
  unfold partsR pieceR
  rw [List.length_cons, goR, if_neg h1, if_neg h2]
  rw [atom_congr (f := fun ys => (goR (r.length + 1) [] [] ys).bind fun ps r => .ok (mkAlt ps) r) (g := altR) rfl]
  cases hq : atomR altR (c :: r) with
  | err c k => rfl
  | ok t r1 =>
    have a := atom_shrinks (fun ys v r _ h => alt_shrinks h) hq
    have b := sign_shrinks r1 t
    simp only [List.length_cons] at a
    exact go_fuel _ _ _ _ _ (by omega) (by omega)
end Go.Proofs.Ytdgidcfmggmbiaa.Rx
namespace Go.Proofs.Ytdgidcfmggmbiaa.Rx
open Go.RowKit Go.Proofs.YtdgidcfmggmbiaaW.PrintWords Go.Proofs.YtdgidcfmggmbiaaW.PrintLast Go.Proofs.YtdgidcfmggmbiaaW.PrintMore Go.Proofs.Ytdgidcfmggmbiaa.PRx
set_option linter.unusedVariables false
set_option linter.unusedSimpArgs false

/-- A row of ranges as it is laid: rising, with a gap between any two. -/
def Canon (rs : List S98) : Prop := (∀ r ∈ rs, 0 ≤ r.f0 ∧ r.f0 ≤ r.f1 ∧ r.f1 ≤ 255) ∧ List.Pairwise (fun x y : S98 => x.f1 + 2 ≤ y.f0) rs
def has (rs : List S98) (c : Int) : Prop := ∃ r ∈ rs, r.f0 ≤ c ∧ c ≤ r.f1
theorem has_nil (c : Int) : ¬ has [] c := by rintro ⟨r, h, _⟩; cases h
theorem has_cons {x : S98} {xs : List S98} {c : Int} : has (x :: xs) c ↔ (x.f0 ≤ c ∧ c ≤ x.f1) ∨ has xs c := by
  constructor
  · rintro ⟨r, h, hc⟩
    rcases List.mem_cons.mp h with rfl | h
    · exact .inl hc
    · exact .inr ⟨r, h, hc⟩
  · rintro (hc | ⟨r, h, hc⟩)
    · exact ⟨x, by simp, hc⟩
    · exact ⟨r, by simp [h], hc⟩
theorem has_append {xs ys : List S98} {c : Int} : has (xs ++ ys) c ↔ has xs c ∨ has ys c := by
  constructor
  · rintro ⟨r, h, hc⟩
    rcases List.mem_append.mp h with h | h
    · exact .inl ⟨r, h, hc⟩
    · exact .inr ⟨r, h, hc⟩
  · rintro (⟨r, h, hc⟩ | ⟨r, h, hc⟩)
    · exact ⟨r, by simp [h], hc⟩
    · exact ⟨r, by simp [h], hc⟩
theorem has_one {x : S98} {c : Int} : has [x] c ↔ x.f0 ≤ c ∧ c ≤ x.f1 := by
  rw [has_cons]
  exact ⟨fun h => h.resolve_right (has_nil c), .inl⟩
theorem canon_nil : Canon [] := ⟨fun r h => (by cases h), List.Pairwise.nil⟩
theorem canon_tail {x : S98} {xs : List S98} (h : Canon (x :: xs)) : Canon xs := ⟨fun r hr => h.1 r (by simp [hr]), (List.pairwise_cons.mp h.2).2⟩
theorem canon_head {x : S98} {xs : List S98} (h : Canon (x :: xs)) {c : Int} (hc : has xs c) : x.f1 + 2 ≤ c := by
  obtain ⟨r, hr, h1, h2⟩ := hc
  have := (List.pairwise_cons.mp h.2).1 r hr
  omega
theorem canon_ext : ∀ (xs ys : List S98), Canon xs → Canon ys → (∀ c, has xs c ↔ has ys c) → xs = ys
  | [], [], _, _, _ => rfl
  | [], y :: ys, _, hy, h => by
    have := hy.1 y (by simp)
    exact absurd ((h y.f0).mpr (has_cons.mpr (.inl ⟨Int.le_refl _, this.2.1⟩))) (has_nil _)
  | x :: xs, [], hx, _, h => by
    have := hx.1 x (by simp)
    exact absurd ((h x.f0).mp (has_cons.mpr (.inl ⟨Int.le_refl _, this.2.1⟩))) (has_nil _)
  | x :: xs, y :: ys, hx, hy, h => by
    have bx := hx.1 x (by simp)
    have by_ := hy.1 y (by simp)
    have lx : ∀ c, has (x :: xs) c → x.f0 ≤ c := fun c hc => by
      rcases has_cons.mp hc with hc | hc
      · exact hc.1
      · have := canon_head hx hc; omega
    have ly : ∀ c, has (y :: ys) c → y.f0 ≤ c := fun c hc => by
      rcases has_cons.mp hc with hc | hc
      · exact hc.1
      · have := canon_head hy hc; omega
    have e0 : x.f0 = y.f0 := by
      have a := ly _ ((h x.f0).mp (has_cons.mpr (.inl ⟨Int.le_refl _, bx.2.1⟩)))
      have b := lx _ ((h y.f0).mpr (has_cons.mpr (.inl ⟨Int.le_refl _, by_.2.1⟩)))
      omega
    have e1 : x.f1 = y.f1 := by
      rcases Int.lt_trichotomy x.f1 y.f1 with hl | hl | hl
      · have := (h (x.f1 + 1)).mpr (has_cons.mpr (.inl ⟨by omega, by omega⟩))
        rcases has_cons.mp this with hc | hc
        · omega
        · have := canon_head hx hc; omega
      · exact hl
      · have := (h (y.f1 + 1)).mp (has_cons.mpr (.inl ⟨by omega, by omega⟩))
        rcases has_cons.mp this with hc | hc
        · omega
        · have := canon_head hy hc; omega
    obtain ⟨a, b⟩ := x
    obtain ⟨a', b'⟩ := y
    obtain rfl : a = a' := e0
    obtain rfl : b = b' := e1
    rw [canon_ext xs ys (canon_tail hx) (canon_tail hy) fun c => ?_]
    constructor
    · intro hc
      have hb := canon_head hx hc
      rcases has_cons.mp ((h c).mp (has_cons.mpr (.inr hc))) with hd | hd
      · have : c ≤ b := hd.2
        have : b + 2 ≤ c := hb
        omega
      · exact hd
    · intro hc
      have hb := canon_head hy hc
      rcases has_cons.mp ((h c).mpr (has_cons.mpr (.inr hc))) with hd | hd
      · have : c ≤ b := hd.2
        have : b + 2 ≤ c := hb
        omega
      · exact hd
theorem canon_snoc {xs : List S98} {y : S98} (h : Canon xs) (hy : 0 ≤ y.f0 ∧ y.f0 ≤ y.f1 ∧ y.f1 ≤ 255) (hl : ∀ x ∈ xs, x.f1 + 2 ≤ y.f0) : Canon (xs ++ [y]) := by
  refine ⟨fun r hr => ?_, List.pairwise_append.mpr ⟨h.2, by simp, fun a ha b hb => ?_⟩⟩
  · rcases List.mem_append.mp hr with hr | hr
    · exact h.1 r hr
    · obtain rfl := List.mem_singleton.mp hr; exact hy
  · obtain rfl := List.mem_singleton.mp hb; exact hl a ha
theorem canon_init {xs : List S98} {y : S98} (h : Canon (xs ++ [y])) : Canon xs ∧ (0 ≤ y.f0 ∧ y.f0 ≤ y.f1 ∧ y.f1 ≤ 255) ∧ ∀ x ∈ xs, x.f1 + 2 ≤ y.f0 := by
  have := List.pairwise_append.mp h.2
  exact ⟨⟨fun r hr => h.1 r (by simp [hr]), this.1⟩, h.1 y (by simp), fun x hx => this.2.2 x hx y (by simp)⟩
def Rng (rs : List S98) : Prop := ∀ r ∈ rs, 0 ≤ r.f0 ∧ r.f0 ≤ r.f1 ∧ r.f1 ≤ 255
def Up (rs : List S98) : Prop := List.Pairwise (fun x y : S98 => x.f0 ≤ y.f0) rs
/-- The ranges, made one row: from a row that is begun. -/
theorem merge_on : ∀ (rs out : List S98) (l : S98) (next : Int), Canon (out ++ [l]) → Rng rs → Up rs → l.f1 + 1 = next → (∀ r ∈ rs, l.f0 ≤ r.f0) →
    Canon (mergeGo false (out ++ [l]) rs next).1 ∧ ∀ c, has (mergeGo false (out ++ [l]) rs next).1 c ↔ has (out ++ [l]) c ∨ has rs c
  | [], out, l, next, hc, hr, hu, hn, hl => by
    refine ⟨hc, fun c => ?_⟩
    show has (out ++ [l]) c ↔ _
    exact ⟨.inl, fun h => h.resolve_right (has_nil c)⟩
  | r :: rs, out, l, next, hc, hr, hu, hn, hl => by
    have br := hr r (by simp)
    have hl0 := hl r (by simp)
    have hcu := List.pairwise_cons.mp hu
    have hi := canon_init hc
    rw [mergeGo]
    rw [if_neg (by decide)]
    have hpos : 0 < (out ++ [l]).length := by simp
    have hlast : (out ++ [l]).getLast?.getD z98 = l := by simp
    by_cases h1 : r.f0 ≤ next
    · rw [if_pos ⟨hpos, h1⟩, hlast, List.dropLast_concat]
      have := merge_on rs out ⟨l.f0, max l.f1 r.f1⟩ (max next (r.f1 + 1)) (canon_snoc hi.1 ⟨hi.2.1.1, by show l.f0 ≤ max l.f1 r.f1; omega, by show max l.f1 r.f1 ≤ 255; omega⟩ hi.2.2) (fun x hx => hr x (by simp [hx])) hcu.2 (by show max l.f1 r.f1 + 1 = _; omega) (fun x hx => hl x (by simp [hx]))
      refine ⟨this.1, fun c => ?_⟩
      rw [this.2 c, has_append, has_append, has_one, has_one, has_cons]
      show (_ ∨ l.f0 ≤ c ∧ c ≤ max l.f1 r.f1) ∨ _ ↔ _
      have e : (l.f0 ≤ c ∧ c ≤ max l.f1 r.f1) ↔ (l.f0 ≤ c ∧ c ≤ l.f1) ∨ (r.f0 ≤ c ∧ c ≤ r.f1) := by omega
      rw [e]
      simp only [or_assoc]
    · rw [if_neg (fun h => h1 h.2)]
      have := merge_on rs (out ++ [l]) r (max next (r.f1 + 1)) (canon_snoc hc br (fun x hx => by
        rcases List.mem_append.mp hx with hx | hx
        · have := hi.2.2 x hx; omega
        · obtain rfl := List.mem_singleton.mp hx; omega)) (fun x hx => hr x (by simp [hx])) hcu.2 (by omega) (fun x hx => hcu.1 x hx)
      refine ⟨this.1, fun c => ?_⟩
      rw [this.2 c, has_append (xs := out ++ [l]), has_one, has_cons]
      simp only [or_assoc]
theorem merge_all (rs : List S98) (hr : Rng rs) (hu : Up rs) : Canon (mergeGo false [] rs 0).1 ∧ ∀ c, has (mergeGo false [] rs 0).1 c ↔ has rs c := by
  cases rs with
  | nil => exact ⟨canon_nil, fun c => Iff.rfl⟩
  | cons r rs =>
    have br := hr r (by simp)
    have hcu := List.pairwise_cons.mp hu
    rw [mergeGo, if_neg (by decide), if_neg (fun h => by simp at h)]
    have := merge_on rs [] r (max 0 (r.f1 + 1)) (canon_snoc canon_nil br (fun x hx => by cases hx)) (fun x hx => hr x (by simp [hx])) hcu.2 (by omega) (fun x hx => hcu.1 x hx)
    refine ⟨this.1, fun c => ?_⟩
    have h2 := this.2 c
    rw [List.nil_append, has_one] at h2
    rw [List.nil_append, h2, has_cons]
/-- All others. -/
theorem merge_not : ∀ (rs out : List S98) (next : Int), Canon out → Rng rs → Up rs → 0 ≤ next → next ≤ 256 → (∀ x ∈ out, x.f1 + 2 ≤ next) →
    let q := mergeGo true out rs next
    Canon q.1 ∧ 0 ≤ q.2 ∧ q.2 ≤ 256 ∧ (∀ x ∈ q.1, x.f1 + 2 ≤ q.2) ∧ ∀ c, (has q.1 c ∨ q.2 ≤ c) ↔ (has out c ∨ (next ≤ c ∧ ¬ has rs c))
  | [], out, next, hc, hr, hu, h0, h1, hl => by
    refine ⟨hc, h0, h1, hl, fun c => ?_⟩
    show (has out c ∨ next ≤ c) ↔ _
    simp only [has_nil, not_false_eq_true, and_true]
  | r :: rs, out, next, hc, hr, hu, h0, h1, hl => by
    have br := hr r (by simp)
    have hcu := List.pairwise_cons.mp hu
    have hup : ∀ c, has rs c → r.f0 ≤ c := fun c hc => by
      obtain ⟨x, hx, h2, h3⟩ := hc
      have := hcu.1 x hx
      omega
    rw [mergeGo, if_pos rfl]
    by_cases h2 : next < r.f0
    · rw [if_pos h2]
      have := merge_not rs (out ++ [⟨next, r.f0 - 1⟩]) (max next (r.f1 + 1)) (canon_snoc hc ⟨h0, by show next ≤ r.f0 - 1; omega, by show r.f0 - 1 ≤ 255; omega⟩ hl) (fun x hx => hr x (by simp [hx])) hcu.2 (by omega) (by omega) (fun x hx => by
        rcases List.mem_append.mp hx with hx | hx
        · have := hl x hx; omega
        · obtain rfl := List.mem_singleton.mp hx; show r.f0 - 1 + 2 ≤ _; omega)
      refine ⟨this.1, this.2.1, this.2.2.1, this.2.2.2.1, fun c => ?_⟩
      rw [this.2.2.2.2 c, has_append, has_one, has_cons]
      show (_ ∨ next ≤ c ∧ c ≤ r.f0 - 1) ∨ _ ↔ _
      constructor
      · rintro ((h | h) | h)
        · exact .inl h
        · refine .inr ⟨h.1, ?_⟩
          rintro (h3 | h3)
          · omega
          · have := hup c h3; omega
        · refine .inr ⟨by omega, ?_⟩
          rintro (h3 | h3)
          · omega
          · exact h.2 h3
      · rintro (h | h)
        · exact .inl (.inl h)
        · by_cases h3 : c < r.f0
          · exact .inl (.inr ⟨h.1, by omega⟩)
          · refine .inr ⟨?_, fun h4 => h.2 (.inr h4)⟩
            have : ¬ (r.f0 ≤ c ∧ c ≤ r.f1) := fun h4 => h.2 (.inl h4)
            omega
    · rw [if_neg h2]
      have := merge_not rs out (max next (r.f1 + 1)) hc (fun x hx => hr x (by simp [hx])) hcu.2 (by omega) (by omega) (fun x hx => by have := hl x hx; omega)
      refine ⟨this.1, this.2.1, this.2.2.1, this.2.2.2.1, fun c => ?_⟩
      rw [this.2.2.2.2 c, has_cons]
      constructor
      · rintro (h | h)
        · exact .inl h
        · refine .inr ⟨by omega, ?_⟩
          rintro (h3 | h3)
          · omega
          · exact h.2 h3
      · rintro (h | h)
        · exact .inl h
        · refine .inr ⟨?_, fun h4 => h.2 (.inr h4)⟩
          have : ¬ (r.f0 ≤ c ∧ c ≤ r.f1) := fun h4 => h.2 (.inl h4)
          omega
/-- Ranges' bytes, or all others, are one row. -/
theorem rg_of_srt (neg : Bool) (rs : List S98) (hr : Rng (srt rs)) (hu : Up (srt rs)) : Canon (rg neg rs) ∧ ∀ c, 0 ≤ c → c ≤ 255 → (has (rg neg rs) c ↔ if neg = true then ¬ has (srt rs) c else has (srt rs) c) := by
  cases neg with
  | false =>
    have := merge_all (srt rs) hr hu
    have e : rg false rs = (mergeGo false [] (srt rs) 0).1 := by unfold rg; exact if_neg (fun h => by cases h.1)
    rw [e]
    exact ⟨this.1, fun c _ _ => this.2 c⟩
  | true =>
    have := merge_not (srt rs) [] 0 canon_nil hr hu (Int.le_refl _) (by decide) (fun x hx => by cases hx)
    unfold rg
    obtain ⟨q, hq⟩ : ∃ q, q = mergeGo true [] (srt rs) 0 := ⟨_, rfl⟩
    simp only [← hq] at this ⊢
    obtain ⟨h1, h2, h3, h4, h5⟩ := this
    by_cases hlt : q.2 < 256
    · simp only [hlt, and_self, if_true]
      refine ⟨canon_snoc h1 ⟨h2, by show q.2 ≤ 255; omega, by show (255 : Int) ≤ 255; omega⟩ h4, fun c c0 c1 => ?_⟩
      have h6 := h5 c
      rw [has_append, has_one]
      show _ ∨ (q.2 ≤ c ∧ c ≤ 255) ↔ _
      have e : (q.2 ≤ c ∧ c ≤ 255) ↔ q.2 ≤ c := by omega
      rw [e, h6]
      constructor
      · rintro (h | h)
        · exact absurd h (has_nil c)
        · exact h.2
      · intro h; exact .inr ⟨c0, h⟩
    · simp only [hlt, and_false, if_true, if_false]
      refine ⟨h1, fun c c0 c1 => ?_⟩
      have h6 := h5 c
      have e : ¬ q.2 ≤ c := by omega
      simp only [e, or_false] at h6
      rw [h6]
      constructor
      · rintro (h | h)
        · exact absurd h (has_nil c)
        · exact h.2
      · intro h; exact .inr ⟨c0, h⟩
theorem has_rng {rs : List S98} (h : Canon rs) {c : Int} (hc : has rs c) : 0 ≤ c ∧ c ≤ 255 := by
  obtain ⟨r, hr, h1, h2⟩ := hc
  have := h.1 r hr
  omega
end Go.Proofs.Ytdgidcfmggmbiaa.Rx
namespace Go.Proofs.Ytdgidcfmggmbiaa.Rx
open Go.RowKit Go.Proofs.YtdgidcfmggmbiaaW.PrintWords Go.Proofs.YtdgidcfmggmbiaaW.PrintLast Go.Proofs.YtdgidcfmggmbiaaW.PrintMore Go.Proofs.Ytdgidcfmggmbiaa.PRx
set_option linter.unusedVariables false
set_option linter.unusedSimpArgs false

/-- No sign begins it. -/
def calm (ys : List Int) : Prop := ∀ c, ys.head? = some c → c ≠ 42 ∧ c ≠ 43 ∧ c ≠ 63
theorem esc_app {k k' : Nat} {xs r ys : List Int} {v : Int} (h : escR k xs = .ok v r) : escR k' (xs ++ ys) = .ok v (r ++ ys) := by
  cases xs with
  | nil => cases h
  | cons c xs =>
    rw [escR] at h
    rw [List.cons_append, escR]
    by_cases h1 : c = 110
    · rw [if_pos h1] at h ⊢; injection h with a b; subst a b; rfl
    · rw [if_neg h1] at h ⊢
      by_cases h2 : c = 116
      · rw [if_pos h2] at h ⊢; injection h with a b; subst a b; rfl
      · rw [if_neg h2] at h ⊢
        by_cases h3 : alnumI c = true
        · rw [if_pos h3] at h; cases h
        · rw [if_neg h3] at h ⊢; injection h with a b; subst a b; rfl
theorem item_app {xs r ys : List Int} {v : Int} (h : itemR xs = .ok v r) : itemR (xs ++ ys) = .ok v (r ++ ys) := by
  cases xs with
  | nil => cases h
  | cons c xs =>
    rw [itemR] at h
    rw [List.cons_append, itemR]
    by_cases h1 : c = 92
    · rw [if_pos h1] at h ⊢; exact esc_app h
    · rw [if_neg h1] at h ⊢; injection h with a b; subst a b; rfl
theorem dash_app {r ys : List Int} (h1 : r ≠ []) (h2 : r ≠ [45]) : dash (r ++ ys) = dash r := by
  cases r with
  | nil => exact absurd rfl h1
  | cons c r =>
    cases r with
    | nil =>
      have hc : c ≠ 45 := fun e => h2 (by rw [e])
      cases ys with
      | nil => rfl
      | cons d ys =>
        unfold dash
        simp [hc]
    | cons d r =>
      by_cases hc : c = 45
      · subst hc; rfl
      · unfold dash
        simp [hc]
theorem dash_cons {r : List Int} (h : dash r = true) : ∃ d l, r = 45 :: d :: l := by
  unfold dash at h
  split at h
  · exact ⟨_, _, rfl⟩
  · cases h
theorem range_app {xs r ys : List Int} {v : S98} (h : rangeR xs = .ok v r) (h1 : r ≠ []) (h2 : r ≠ [45]) : rangeR (xs ++ ys) = .ok v (r ++ ys) := by
  obtain ⟨lo, r1, e1, h⟩ := bind_ok h
  obtain ⟨hi, r2, e2, h⟩ := bind_ok h
  unfold rangeR
  rw [item_app e1]
  show R.bind (if dash (r1 ++ ys) then itemR (r1 ++ ys).tail else .ok lo (r1 ++ ys)) _ = _
  have e3 : (if dash (r1 ++ ys) then itemR (r1 ++ ys).tail else .ok lo (r1 ++ ys)) = (.ok hi (r2 ++ ys) : R Int) := by
    cases hd : dash r1 with
    | true =>
      obtain ⟨d, l, rfl⟩ := dash_cons hd
      rw [dash_app (by simp) (by simp), hd, if_pos rfl]
      rw [hd, if_pos rfl] at e2
      exact item_app e2
    | false =>
      rw [hd, if_neg (by decide)] at e2
      injection e2 with a b
      subst a b
      have hr : r = r1 := by
        split at h
        · cases h
        · injection h with a b; exact b.symm
      subst hr
      rw [dash_app h1 h2, hd, if_neg (by decide)]
  rw [e3]
  show (if hi < lo then R.err 32 (xs ++ ys).length else R.ok (⟨lo, hi⟩ : S98) (r2 ++ ys)) = _
  split at h
  · cases h
  · rename_i hlt
    injection h with a b
    subst a b
    rw [if_neg hlt]
theorem cls_nil (n : Nat) (acc : List S98) (r : List Int) (v : List S98) : clsR n acc [] ≠ .ok v r := by
  cases n with
  | zero => intro h; cases h
  | succ n =>
    intro h
    unfold clsR at h
    split at h
    · rename_i h1; simp at h1
    · cases h
theorem cls_dash (n : Nat) (acc : List S98) (r : List Int) (v : List S98) : clsR n acc [45] ≠ .ok v r := by
  cases n with
  | zero => intro h; cases h
  | succ n =>
    intro h
    unfold clsR at h
    split at h
    · rename_i h1; simp at h1
    · exact cls_nil _ _ _ _ h
theorem cls_app : ∀ (n m : Nat) (acc : List S98) (xs r ys : List Int) (v : List S98), n ≤ m → clsR n acc xs = .ok v r → clsR m acc (xs ++ ys) = .ok v (r ++ ys)
  | 0, m, acc, xs, r, ys, v, hm, h => by cases h
  | n + 1, 0, acc, xs, r, ys, v, hm, h => by omega
  | n + 1, m + 1, acc, xs, r, ys, v, hm, h => by
    cases xs with
    | nil => exact absurd h (cls_nil _ _ _ _)
    | cons c xs =>
      unfold clsR at h ⊢
      rw [show (c :: xs ++ ys).head? = (c :: xs).head? from rfl]
      by_cases h1 : acc ≠ [] ∧ (c :: xs).head? = some 93
      · rw [if_pos h1] at h ⊢
        injection h with a b
        subst a b
        rfl
      · rw [if_neg h1] at h ⊢
        obtain ⟨x, r1, e1, h⟩ := bind_ok h
        have n1 : r1 ≠ [] := fun e => by rw [e] at h; exact cls_nil _ _ _ _ h
        have n2 : r1 ≠ [45] := fun e => by rw [e] at h; exact cls_dash _ _ _ _ h
        rw [range_app e1 n1 n2]
        exact cls_app n m _ r1 r ys v (by omega) h
theorem class_app {xs r ys : List Int} {v : S30} (h : classR xs = .ok v r) : classR (xs ++ ys) = .ok v (r ++ ys) := by
  cases xs with
  | nil => cases h
  | cons c xs =>
    unfold classR at h ⊢
    rw [show (c :: xs ++ ys).head? = (c :: xs).head? from rfl, show (c :: xs ++ ys).tail = xs ++ ys from rfl]
    rw [show (c :: xs).tail = xs from rfl] at h
    by_cases h1 : (c :: xs).head? = some 94
    · rw [if_pos h1] at h ⊢
      cases xs with
      | nil =>
        cases h
      | cons d xs =>
        rw [show (d :: xs ++ ys).head? = (d :: xs).head? from rfl]
        by_cases h2 : (d :: xs).head? = some 93
        · rw [if_pos h2] at h; cases h
        · rw [if_neg h2] at h ⊢
          obtain ⟨x, r1, e1, h⟩ := bind_ok h
          rw [cls_app _ ((d :: xs ++ ys).length + 1) _ _ _ ys _ (by simp) e1]
          injection h with a b
          subst a b
          rfl
    · rw [if_neg h1] at h ⊢
      by_cases h2 : (c :: xs).head? = some 93
      · rw [if_pos h2] at h; cases h
      · rw [if_neg h2] at h ⊢
        obtain ⟨x, r1, e1, h⟩ := bind_ok h
        rw [cls_app _ ((c :: xs ++ ys).length + 1) _ _ _ ys _ (by simp) e1]
        injection h with a b
        subst a b
        rfl
theorem atom_app {xs r ys : List Int} {v : S30} (ha : ∀ zs v r, zs.length < xs.length → altR zs = .ok v r → r ≠ [] → altR (zs ++ ys) = .ok v (r ++ ys)) (h : atomR altR xs = .ok v r) : atomR altR (xs ++ ys) = .ok v (r ++ ys) := by
  cases xs with
  | nil => cases h
  | cons c xs =>
    rw [atomR] at h
    rw [List.cons_append, atomR]
    by_cases h1 : c = 40
    · rw [if_pos h1] at h ⊢
      obtain ⟨x, r1, e1, h⟩ := bind_ok h
      cases r1 with
      | nil => cases h
      | cons d r1 =>
        rw [ha xs _ _ (by simp) e1 (by simp)]
        injection h with a b
        subst a b
        rfl
    · rw [if_neg h1] at h ⊢
      by_cases h2 : c = 46
      · rw [if_pos h2] at h ⊢; injection h with a b; subst a b; rfl
      · rw [if_neg h2] at h ⊢
        by_cases h3 : c = 91
        · rw [if_pos h3] at h ⊢; exact class_app h
        · rw [if_neg h3] at h ⊢
          by_cases h4 : c = 92
          · rw [if_pos h4] at h ⊢
            cases xs with
            | nil => cases h
            | cons d xs =>
              rw [show (d :: xs ++ ys).head? = (d :: xs).head? from rfl, show (d :: xs ++ ys).tail = xs ++ ys from rfl]
              rw [show (d :: xs).tail = xs from rfl] at h
              by_cases h5 : (d :: xs).head? = some 100
              · rw [if_pos h5] at h ⊢; injection h with a b; subst a b; rfl
              · rw [if_neg h5] at h ⊢
                obtain ⟨x, r1, e1, h⟩ := bind_ok h
                rw [esc_app e1]
                injection h with a b
                subst a b
                rfl
          · rw [if_neg h4] at h ⊢
            by_cases h5 : c = 42 ∨ c = 43 ∨ c = 63
            · rw [if_pos h5] at h; cases h
            · rw [if_neg h5] at h ⊢; injection h with a b; subst a b; rfl
theorem sign_app : ∀ (r0 : List Int) (u t : S30) (r1 ys : List Int), signR u r0 = (t, r1) → (r1 ≠ [] ∨ calm ys) → signR u (r0 ++ ys) = (t, r1 ++ ys)
  | [], u, t, r1, ys, h, hr => by
    obtain ⟨rfl, rfl⟩ := Prod.mk.inj h
    have hc : calm ys := hr.resolve_left (fun h => h rfl)
    cases ys with
    | nil => rfl
    | cons c ys =>
      obtain ⟨a, b, d⟩ := hc c rfl
      rw [List.nil_append, signR, if_neg a, if_neg b, if_neg d]
  | c :: r0, u, t, r1, ys, h, hr => by
    rw [signR] at h
    rw [List.cons_append, signR]
    by_cases h1 : c = 42
    · rw [if_pos h1] at h ⊢; exact sign_app r0 _ _ _ _ h hr
    · rw [if_neg h1] at h ⊢
      by_cases h2 : c = 43
      · rw [if_pos h2] at h ⊢; exact sign_app r0 _ _ _ _ h hr
      · rw [if_neg h2] at h ⊢
        by_cases h3 : c = 63
        · rw [if_pos h3] at h ⊢; exact sign_app r0 _ _ _ _ h hr
        · rw [if_neg h3] at h ⊢
          obtain ⟨rfl, rfl⟩ := Prod.mk.inj h
          rfl
theorem piece_app {xs r1 ys : List Int} {t : S30} (ha : ∀ zs v r, zs.length < xs.length → altR zs = .ok v r → r ≠ [] → altR (zs ++ ys) = .ok v (r ++ ys)) (h : pieceR xs = .ok t r1) (hr : r1 ≠ [] ∨ calm ys) : pieceR (xs ++ ys) = .ok t (r1 ++ ys) := by
  obtain ⟨u, r0, e1, h⟩ := bind_ok h
  unfold pieceR
  rw [atom_app ha e1]
  injection h with a b
  have := sign_app r0 u t r1 ys (by rw [← a, ← b]) hr
  show R.ok (signR u (r0 ++ ys)).1 (signR u (r0 ++ ys)).2 = _
  rw [this]
theorem parts_app : ∀ (n : Nat) (xs : List Int), xs.length ≤ n → ∀ (P K ps : List S30) (r : List Int), partsR P K xs = .ok ps r →
    (r ≠ [] → ∀ ys, partsR P K (xs ++ ys) = .ok ps (r ++ ys)) ∧ (r = [] → ∃ P' K', ps = P' ++ [catN K'] ∧ ∀ ys, calm ys → partsR P K (xs ++ ys) = partsR P' K' ys)
  | n, [], hn, P, K, ps, r, h => by
    rw [parts_nil] at h
    injection h with a b
    subst a b
    exact ⟨fun h => absurd rfl h, fun _ => ⟨P, K, rfl, fun ys _ => rfl⟩⟩
  | 0, c :: xs, hn, P, K, ps, r, h => by simp at hn
  | n + 1, c :: xs, hn, P, K, ps, r, h => by
    simp only [List.length_cons] at hn
    by_cases h1 : c = 124
    · subst h1
      rw [parts_bar] at h
      have := parts_app n xs (by omega) _ _ _ _ h
      refine ⟨fun hr ys => ?_, fun hr => ?_⟩
      · rw [List.cons_append, parts_bar]; exact this.1 hr ys
      · obtain ⟨P', K', e, f⟩ := this.2 hr
        exact ⟨P', K', e, fun ys hc => by rw [List.cons_append, parts_bar]; exact f ys hc⟩
    · by_cases h2 : c = 41
      · subst h2
        rw [parts_end] at h
        injection h with a b
        subst a b
        exact ⟨fun _ ys => by rw [List.cons_append, parts_end], fun h => by cases h⟩
      · rw [parts_piece _ _ _ _ h1 h2] at h
        obtain ⟨t, r1, e1, h⟩ := bind_ok h
        have hs := piece_shrinks e1
        simp only [List.length_cons] at hs
        have ha : ∀ ys zs v r, zs.length < (c :: xs).length → altR zs = .ok v r → r ≠ [] → altR (zs ++ ys) = .ok v (r ++ ys) := by
          intro ys zs v r hz hq hr
          obtain ⟨qs, r2, e2, hq⟩ := bind_ok hq
          injection hq with a b
          subst a b
          simp only [List.length_cons] at hz
          have := (parts_app n zs (by omega) _ _ _ _ e2).1 hr ys
          unfold altR
          rw [this]
          rfl
        have := parts_app n r1 (by omega) _ _ _ _ h
        refine ⟨fun hr ys => ?_, fun hr => ?_⟩
        · have hr1 : r1 ≠ [] := by
            rintro rfl
            rw [parts_nil] at h
            injection h with a b
            exact hr b.symm
          rw [List.cons_append, parts_piece _ _ _ _ h1 h2, ← List.cons_append, piece_app (ha ys) e1 (.inl hr1)]
          exact this.1 hr ys
        · obtain ⟨P', K', e, f⟩ := this.2 hr
          refine ⟨P', K', e, fun ys hc => ?_⟩
          rw [List.cons_append, parts_piece _ _ _ _ h1 h2, ← List.cons_append, piece_app (ha ys) e1 (.inr hc)]
          exact f ys hc
/-- What is read of a whole pattern stays, whatever stands behind it. -/
theorem whole_app {xs : List Int} {t : S30} (h : altR xs = .ok t []) : ∃ P K, t = mkAlt (P ++ [catN K]) ∧ ∀ ys, calm ys → partsR [] [] (xs ++ ys) = partsR P K ys := by
  obtain ⟨ps, r, e, h⟩ := bind_ok h
  injection h with a b
  subst b
  obtain ⟨P, K, e2, f⟩ := (parts_app xs.length xs (Nat.le_refl _) _ _ _ _ e).2 rfl
  exact ⟨P, K, by rw [← a, e2], f⟩
/-- In ( ), a pattern is an atom. -/
theorem group_app {xs ys : List Int} {t : S30} (h : altR xs = .ok t []) : atomR altR (40 :: xs ++ 41 :: ys) = .ok t ys := by
  obtain ⟨P, K, e, f⟩ := whole_app h
  rw [List.cons_append, atomR, if_pos rfl]
  unfold altR
  rw [f (41 :: ys) (fun c hc => by have : (41 : Int) = c := Option.some.inj hc; omega), parts_end, e]
  rfl
/-- The parts of a pattern's tree. -/
def partsOf (t : S30) : List S30 := if t.f0 = 3 then t.f2 else [t]
theorem partsOf_mk (P K : List S30) : partsOf (mkAlt (P ++ [catN K])) = P ++ [catN K] := by
  cases P with
  | nil => rfl
  | cons x P =>
    unfold mkAlt
    rw [if_neg (by simp)]
    rfl
theorem join_or {xs ys : List Int} {a b : S30} (h1 : altR xs = .ok a []) (h2 : altR ys = .ok b []) : altR (xs ++ 124 :: ys) = .ok ⟨3, [], partsOf a ++ partsOf b⟩ [] := by
  obtain ⟨P, K, e, f⟩ := whole_app h1
  obtain ⟨ps, r, e2, h2⟩ := bind_ok h2
  injection h2 with a1 b1
  subst b1
  have hgen : ∀ (n : Nat) (ys : List Int), ys.length ≤ n → ∀ (P K Q ps : List S30) (r : List Int), partsR P K ys = .ok ps r → partsR (Q ++ P) K ys = .ok (Q ++ ps) r := by
    intro n
    induction n with
    | zero =>
      intro ys hn P K Q ps r h
      obtain rfl : ys = [] := by cases ys with | nil => rfl | cons c ys => simp at hn
      rw [parts_nil] at h ⊢
      injection h with a b
      subst a b
      rw [List.append_assoc]
    | succ n ih =>
      intro ys hn P K Q ps r h
      cases ys with
      | nil =>
        rw [parts_nil] at h ⊢
        injection h with a b
        subst a b
        rw [List.append_assoc]
      | cons c ys =>
        simp only [List.length_cons] at hn
        by_cases h1 : c = 124
        · subst h1
          rw [parts_bar] at h ⊢
          rw [List.append_assoc]
          exact ih ys (by omega) _ _ _ _ _ h
        · by_cases h2 : c = 41
          · subst h2
            rw [parts_end] at h ⊢
            injection h with a b
            subst a b
            rw [List.append_assoc]
          · rw [parts_piece _ _ _ _ h1 h2] at h ⊢
            obtain ⟨t, r1, e1, h⟩ := bind_ok h
            have hs := piece_shrinks e1
            simp only [List.length_cons] at hs
            rw [e1]
            exact ih r1 (by omega) _ _ _ _ _ h
  have hq := hgen ys.length ys (Nat.le_refl _) [] [] (P ++ [catN K]) ps [] e2
  rw [List.append_nil] at hq
  unfold altR
  rw [f (124 :: ys) (fun c hc => by have : (124 : Int) = c := Option.some.inj hc; omega), parts_bar, hq]
  obtain ⟨P2, K2, e3, _⟩ := (parts_app ys.length ys (Nat.le_refl _) _ _ _ _ e2).2 rfl
  show R.ok (mkAlt (P ++ [catN K] ++ ps)) [] = _
  rw [e, ← a1, e3, partsOf_mk, partsOf_mk]
  unfold mkAlt
  rw [if_neg (by simp; omega)]
theorem sign_calm {t : S30} {ys : List Int} (h : calm ys) : signR t ys = (t, ys) := by
  cases ys with
  | nil => rfl
  | cons c ys =>
    obtain ⟨a, b, d⟩ := h c rfl
    rw [signR, if_neg a, if_neg b, if_neg d]
theorem join_cat {xs ys : List Int} {a b : S30} (h1 : altR xs = .ok a []) (h2 : altR ys = .ok b []) : altR (40 :: xs ++ 41 :: 40 :: ys ++ [41]) = .ok (catN [a, b]) [] := by
  unfold altR
  have e1 : pieceR (40 :: xs ++ 41 :: (40 :: ys ++ [41])) = .ok a (40 :: ys ++ [41]) := by
    unfold pieceR
    rw [group_app h1]
    show R.ok (signR a (40 :: ys ++ [41])).1 (signR a (40 :: ys ++ [41])).2 = _
    rw [sign_calm (fun c hc => by have : (40 : Int) = c := Option.some.inj hc; omega)]
  have e2 : pieceR (40 :: ys ++ [41]) = .ok b [] := by
    unfold pieceR
    rw [group_app h2]
    rfl
  rw [show (40 :: xs ++ 41 :: 40 :: ys ++ [41] : List Int) = 40 :: (xs ++ 41 :: (40 :: ys ++ [41])) by simp]
  rw [parts_piece _ _ _ _ (by decide) (by decide)]
  rw [show (40 :: (xs ++ 41 :: (40 :: ys ++ [41])) : List Int) = 40 :: xs ++ 41 :: (40 :: ys ++ [41]) from rfl, e1]
  show R.bind (partsR [] [a] (40 :: (ys ++ [41]))) _ = _
  rw [parts_piece _ _ _ _ (by decide) (by decide)]
  rw [show (40 :: (ys ++ [41]) : List Int) = 40 :: ys ++ [41] from rfl, e2]
  rfl
theorem join_star {xs : List Int} {a : S30} (h1 : altR xs = .ok a []) : altR (40 :: xs ++ [41, 42]) = .ok (catN [⟨4, [], [a]⟩]) [] := by
  unfold altR
  have e1 : pieceR (40 :: xs ++ 41 :: [42]) = .ok ⟨4, [], [a]⟩ [] := by
    unfold pieceR
    rw [group_app h1]
    rfl
  rw [List.cons_append, parts_piece _ _ _ _ (by decide) (by decide), ← List.cons_append, e1]
  rfl
/-- Behind a whole pattern something can't be read. -/
theorem wrong_app {xs s : List Int} {t : S30} {c : Int} {k : Nat} (h : altR xs = .ok t []) (hs : calm s) (he : ∀ P K, partsR P K s = .err c k) : altR (xs ++ s) = .err c k := by
  obtain ⟨P, K, e, f⟩ := whole_app h
  unfold altR
  rw [f s hs, he P K]
  rfl
theorem wrong_end {xs s : List Int} {t : S30} (h : altR xs = .ok t []) : altR (xs ++ [41]) = .ok t [41] := by
  obtain ⟨P, K, e, f⟩ := whole_app h
  unfold altR
  rw [f [41] (fun c hc => by have : (41 : Int) = c := Option.some.inj hc; omega), parts_end, e]
  rfl
theorem parts_err (P K : List S30) {d : Int} {s : List Int} {c : Int} {k : Nat} (h1 : d ≠ 124) (h2 : d ≠ 41) (h : pieceR (d :: s) = .err c k) : partsR P K (d :: s) = .err c k := by
  rw [parts_piece _ _ _ _ h1 h2, h]; rfl
end Go.Proofs.Ytdgidcfmggmbiaa.Rx
namespace Go.Proofs.Ytdgidcfmggmbiaa.Rx
open Go.RowKit Go.Proofs.YtdgidcfmggmbiaaW.PrintWords Go.Proofs.YtdgidcfmggmbiaaW.PrintLast Go.Proofs.YtdgidcfmggmbiaaW.PrintMore Go.Proofs.Ytdgidcfmggmbiaa.PRx
set_option linter.unusedVariables false
set_option linter.unusedSimpArgs false

theorem bind_err {α β : Type} {q : R α} {f : α → List Int → R β} {c : Int} {k : Nat} (h : q.bind f = .err c k) : q = .err c k ∨ ∃ u r, q = .ok u r ∧ f u r = .err c k := by
  cases q with
  | ok u r1 => exact .inr ⟨u, r1, rfl, h⟩
  | err c' k' =>
    have h' : (R.err c' k' : R β) = .err c k := h
    injection h' with a b
    exact .inl (by rw [a, b])
theorem esc_err {j k : Nat} {xs : List Int} {c : Int} (h : escR j xs = .err c k) : c ≠ 0 := by
  cases xs with
  | nil => injection h with a b; omega
  | cons d xs =>
    rw [escR] at h
    repeat' split at h
    all_goals first | (cases h; done) | (injection h with a b; omega)
theorem item_err {k : Nat} {xs : List Int} {c : Int} (h : itemR xs = .err c k) : c ≠ 0 := by
  cases xs with
  | nil => injection h with a b; omega
  | cons d xs =>
    rw [itemR] at h
    split at h
    · exact esc_err h
    · cases h
theorem range_err {k : Nat} {xs : List Int} {c : Int} (h : rangeR xs = .err c k) : c ≠ 0 := by
  rcases bind_err h with h | ⟨lo, r, _, h⟩
  · exact item_err h
  · rcases bind_err h with h | ⟨hi, r, _, h⟩
    · split at h
      · exact item_err h
      · cases h
    · split at h
      · injection h with a b; omega
      · cases h
theorem cls_err : ∀ (n : Nat) (acc : List S98) (xs : List Int) (c : Int) (k : Nat), xs.length < n → clsR n acc xs = .err c k → c ≠ 0
  | 0, acc, xs, c, k, hn, h => by omega
  | n + 1, acc, xs, c, k, hn, h => by
    unfold clsR at h
    split at h
    · cases h
    · rcases bind_err h with h | ⟨x, r, e, h⟩
      · exact range_err h
      · have := range_shrinks e
        exact cls_err n _ _ _ _ (by omega) h
theorem class_err {k : Nat} {xs : List Int} {c : Int} (h : classR xs = .err c k) : c ≠ 0 := by
  unfold classR at h
  repeat' split at h
  · injection h with a b; omega
  · rcases bind_err h with h | ⟨x, r, e, h⟩
    · exact cls_err _ _ _ _ _ (Nat.lt_succ_self _) h
    · cases h
  · injection h with a b; omega
  · rcases bind_err h with h | ⟨x, r, e, h⟩
    · exact cls_err _ _ _ _ _ (Nat.lt_succ_self _) h
    · cases h
theorem atom_err {alt : List Int → R S30} {k : Nat} {xs : List Int} {c : Int} (ha : ∀ ys c k, ys.length < xs.length → alt ys = .err c k → c ≠ 0) (h : atomR alt xs = .err c k) : c ≠ 0 := by
  cases xs with
  | nil => injection h with a b; omega
  | cons d xs =>
    rw [atomR] at h
    split at h
    · rcases bind_err h with h | ⟨x, r, e, h⟩
      · exact ha _ _ _ (by simp) h
      · cases r with
        | nil => injection h with a b; omega
        | cons e r => cases h
    · split at h
      · cases h
      · split at h
        · exact class_err h
        · split at h
          · split at h
            · cases h
            · rcases bind_err h with h | ⟨x, r, e, h⟩
              · exact esc_err h
              · cases h
          · split at h
            · injection h with a b; omega
            · cases h
theorem go_err : ∀ (n : Nat) (P K : List S30) (xs : List Int) (c : Int) (k : Nat), xs.length < n → goR n P K xs = .err c k → c ≠ 0
  | 0, P, K, xs, c, k, hn, h => by omega
  | n + 1, P, K, [], c, k, hn, h => by cases h
  | n + 1, P, K, d :: xs, c, k, hn, h => by
    simp only [List.length_cons] at hn
    unfold goR at h
    split at h
    · exact go_err n _ _ _ _ _ (by omega) h
    · split at h
      · cases h
      · rcases bind_err h with h | ⟨x, r, e, h⟩
        · refine atom_err (fun ys c k hy h => ?_) h
          simp only [List.length_cons] at hy
          rcases bind_err h with h | ⟨x, r, e, h⟩
          · exact go_err n _ _ _ _ _ (by omega) h
          · cases h
        · have a := atom_shrinks (fun ys v r _ h => by
            obtain ⟨ps, r2, h3, h4⟩ := bind_ok h
            have := go_shrinks n _ _ _ _ _ h3
            injection h4 with h5 h6; subst h6; exact this) e
          have b := sign_shrinks r x
          simp only [List.length_cons] at a
          exact go_err n _ _ _ _ _ (by omega) h
theorem alt_err_ne {xs : List Int} {c : Int} {k : Nat} (h : altR xs = .err c k) : c ≠ 0 := by
  rcases bind_err h with h | ⟨x, r, e, h⟩
  · exact go_err _ _ _ _ _ _ (Nat.lt_succ_self _) h
  · cases h
end Go.Proofs.Ytdgidcfmggmbiaa.Rx
