/- rex, plainly: a tree's text, and that it is read as the tree. rex, plainly: a tree's text is read as the tree. -/
import Derived.Test.YtdgidcfmggmbiaaMa
import Derived.Test.YtdgidcfmggmbiaaMc
namespace Go.Proofs.Ytdgidcfmggmbiaa.Rx
open Go.RowKit Go.Proofs.YtdgidcfmggmbiaaW.PrintWords Go.Proofs.YtdgidcfmggmbiaaW.PrintLast Go.Proofs.YtdgidcfmggmbiaaW.PrintMore Go.Proofs.Ytdgidcfmggmbiaa.PRx
set_option linter.unusedVariables false
set_option linter.unusedSimpArgs false

def ByteR (rs : List S98) : Prop := ∀ r ∈ rs, 0 ≤ r.f0 ∧ r.f0 < 256 ∧ 0 ≤ r.f1 ∧ r.f1 < 256
theorem srt_rng {rs : List S98} (h : ByteR rs) : Rng (srt rs) := by
  intro r hr
  have h1 := List.mem_filter.mp ((srt_perm rs).mem_iff.mp hr)
  have h2 := h r h1.1
  have h3 : r.f0 ≤ r.f1 := by simpa using h1.2
  omega
theorem srt_up (rs : List S98) : Up (srt rs) := by
  have h := (Go.Sort.pdq_sorts (Go.Proofs.ltOf cmpS) swoS (keepR rs).toArray 0 (keepR rs).toArray.size (Go.Lib.bitLen (keepR rs).toArray.size) true true (Nat.zero_le _) (Nat.le_refl _) (Or.inl rfl))
  have e : (Go.Sort.pdq (Go.Proofs.ltOf cmpS) (keepR rs).toArray 0 (keepR rs).toArray.size (Go.Lib.bitLen (keepR rs).toArray.size) true true).toList = srt rs := rfl
  obtain ⟨ds, hds⟩ : ∃ ds, ds = Go.Sort.pdq (Go.Proofs.ltOf cmpS) (keepR rs).toArray 0 (keepR rs).toArray.size (Go.Lib.bitLen (keepR rs).toArray.size) true true := ⟨_, rfl⟩
  rw [← hds] at h e
  have hsz : ds.size = (keepR rs).toArray.size := h.1.1
  unfold Up
  rw [← e]
  refine List.pairwise_iff_getElem.mpr fun i j hi hj hij => ?_
  have := h.2 i j (Nat.zero_le _) hij (by rw [← hsz]; simpa using hj)
  rw [ltS] at this
  simp only [decide_eq_false_iff_not, Int.not_lt] at this
  have hi' : i < ds.size := by simpa using hi
  have hj' : j < ds.size := by simpa using hj
  rw [getElem!_pos ds i hi', getElem!_pos ds j hj'] at this
  simpa using this
theorem srt_has (rs : List S98) (c : Int) : has (srt rs) c ↔ has rs c := by
  constructor
  · rintro ⟨r, hr, hc⟩
    exact ⟨r, srt_mem hr, hc⟩
  · rintro ⟨r, hr, hc⟩
    exact ⟨r, (srt_perm rs).mem_iff.mpr (List.mem_filter.mpr ⟨hr, by simp; omega⟩), hc⟩
theorem rg_canon {rs : List S98} (neg : Bool) (h : ByteR rs) : Canon (rg neg rs) ∧ ∀ c, 0 ≤ c → c ≤ 255 → (has (rg neg rs) c ↔ if neg = true then ¬ has rs c else has rs c) := by
  have := rg_of_srt neg rs (srt_rng h) (srt_up rs)
  refine ⟨this.1, fun c c0 c1 => ?_⟩
  rw [this.2 c c0 c1, srt_has]
theorem canon_bytes {rs : List S98} (h : Canon rs) : ByteR rs := fun r hr => by have := h.1 r hr; omega
theorem canon_eq {xs ys : List S98} (hx : Canon xs) (hy : Canon ys) (h : ∀ c, 0 ≤ c → c ≤ 255 → (has xs c ↔ has ys c)) : xs = ys :=
  canon_ext xs ys hx hy fun c => ⟨fun hc => (h c (has_rng hx hc).1 (has_rng hx hc).2).mp hc, fun hc => (h c (has_rng hy hc).1 (has_rng hy hc).2).mpr hc⟩
theorem rg_same {rs : List S98} (h : Canon rs) : rg false rs = rs := by
  have := rg_canon false (canon_bytes h)
  exact canon_eq this.1 h fun c c0 c1 => by rw [this.2 c c0 c1, if_neg (by decide)]
theorem rg_twice {rs : List S98} (h : Canon rs) : rg true (rg true rs) = rs := by
  have h1 := rg_canon true (canon_bytes h)
  have h2 := rg_canon true (canon_bytes h1.1)
  refine canon_eq h2.1 h fun c c0 c1 => ?_
  rw [h2.2 c c0 c1, if_pos rfl, h1.2 c c0 c1, if_pos rfl, Classical.not_not]

/-- A byte, behind a backslash if it is one of some. -/
def quoteR (c : Int) (some_ : List Int) : List Int := if c = 10 then [92, 110] else if c = 9 then [92, 116] else if some_.contains c then [92, c] else [c]
def specials : List Int := [124, 40, 41, 42, 43, 63, 46, 91, 92]
def inners : List Int := [93, 94, 45, 92]
def rangeT (r : S98) : List Int := quoteR r.f0 inners ++ (if r.f0 < r.f1 then 45 :: quoteR r.f1 inners else [])
def setTxt (a o : List S98) : List Int :=
  if a.length = 1 ∧ (a.headD z98).f0 = (a.headD z98).f1 then quoteR (a.headD z98).f0 specials
  else if o.length = 1 ∧ (o.headD z98).f0 = 10 ∧ (o.headD z98).f1 = 10 then [46]
  else if a.length = 0 then [91, 94, 0, 45, 255, 93]
  else 91 :: ((if 0 < o.length ∧ o.length < a.length then 94 :: o.flatMap rangeT else a.flatMap rangeT) ++ [93])
def setT (rs : List S98) : List Int := setTxt (rg false rs) (rg true (rg false rs))
def signT (k : Int) : Int := if k = 4 then 42 else if k = 5 then 43 else 63
def joinT : List (List Int) → List Int
  | [] => []
  | [x] => x
  | x :: xs => x ++ 124 :: joinT xs
mutual
/-- A tree's text. -/
def textR : S30 → List Int
  | ⟨k, rs, ks⟩ => if k = 1 then setT rs else if k = 2 then (partsT k ks).flatten else if k = 3 then joinT (partsT k ks)
    else if k = 4 ∨ k = 5 ∨ k = 6 then (match partsT k ks with | [] => [] | p :: _ => p ++ [signT k]) else []
def partsT : Int → List S30 → List (List Int)
  | _, [] => []
  | k, x :: xs => (if x.f0 = 3 ∨ (k ≠ 3 ∧ x.f0 = 2) then 40 :: (textR x ++ [41]) else textR x) :: partsT k xs
end
/-- A kid's text. -/
def pieceT (x : S30) : List Int := if x.f0 = 3 ∨ x.f0 = 2 then 40 :: (textR x ++ [41]) else textR x

theorem atom_back_ (alt : List Int → R S30) (r : List Int) : atomR alt (92 :: r) = if r.head? = some 100 then .ok (setN false [⟨48, 57⟩]) r.tail else (escR (r.length + 1) r).bind fun d r1 => .ok (setN false [⟨d, d⟩]) r1 := rfl
theorem spec_not {c : Int} (h : specials.contains c = false) : c ≠ 124 ∧ c ≠ 40 ∧ c ≠ 41 ∧ c ≠ 42 ∧ c ≠ 43 ∧ c ≠ 63 ∧ c ≠ 46 ∧ c ≠ 91 ∧ c ≠ 92 := by
  simp [specials] at h
  omega
theorem spec_alnum {c : Int} (h : specials.contains c = true) : alnumI c = false ∧ c ≠ 110 ∧ c ≠ 116 ∧ c ≠ 100 := by
  simp only [specials, List.contains_cons, List.contains_nil, Bool.or_false, Bool.or_eq_true, beq_iff_eq] at h
  rcases h with h | h | h | h | h | h | h | h | h <;> subst h <;> decide
theorem inner_alnum {c : Int} (h : inners.contains c = true) : alnumI c = false ∧ c ≠ 110 ∧ c ≠ 116 := by
  simp only [inners, List.contains_cons, List.contains_nil, Bool.or_false, Bool.or_eq_true, beq_iff_eq] at h
  rcases h with h | h | h | h <;> subst h <;> decide
theorem inner_not {c : Int} (h : inners.contains c = false) : c ≠ 93 ∧ c ≠ 94 ∧ c ≠ 45 ∧ c ≠ 92 := by
  simp [inners] at h
  omega
/-- What may stand first in a piece. -/
def good (xs : List Int) : Prop := ∃ c l, xs = c :: l ∧ c ≠ 124 ∧ c ≠ 41 ∧ c ≠ 42 ∧ c ≠ 43 ∧ c ≠ 63
theorem good_calm {xs ys : List Int} (h : good xs) : calm (xs ++ ys) := by
  obtain ⟨c, l, rfl, h1, h2, h3, h4, h5⟩ := h
  intro d hd
  have : c = d := Option.some.inj hd
  subst this
  exact ⟨h3, h4, h5⟩
theorem quote_good (c : Int) : good (quoteR c specials) := by
  unfold quoteR
  split
  · exact ⟨92, _, rfl, by decide, by decide, by decide, by decide, by decide⟩
  · split
    · exact ⟨92, _, rfl, by decide, by decide, by decide, by decide, by decide⟩
    · split
      · exact ⟨92, _, rfl, by decide, by decide, by decide, by decide, by decide⟩
      · rename_i h
        have := spec_not (by simpa using h)
        exact ⟨c, [], rfl, by omega, by omega, by omega, by omega, by omega⟩
theorem quote_atom (c : Int) (ys : List Int) : atomR altR (quoteR c specials ++ ys) = .ok (setN false [⟨c, c⟩]) ys := by
  unfold quoteR
  split
  · rename_i h; subst h; rfl
  · split
    · rename_i h; subst h; rfl
    · split
      · rename_i h1 h2 h
        obtain ⟨a, b, d, e⟩ := spec_alnum h
        show atomR altR (92 :: c :: ys) = _
        rw [atom_back_]
        rw [if_neg (by simp [e])]
        show R.bind (escR (ys.length + 1 + 1) (c :: ys)) _ = _
        rw [escR, if_neg b, if_neg d, if_neg (by rw [a]; decide)]
        rfl
      · rename_i h1 h2 h
        have := spec_not (by simpa using h)
        show atomR altR (c :: ys) = _
        rw [atomR, if_neg this.2.1, if_neg this.2.2.2.2.2.2.1, if_neg this.2.2.2.2.2.2.2.1, if_neg this.2.2.2.2.2.2.2.2, if_neg (by omega)]
theorem quote_item (c : Int) (ys : List Int) : itemR (quoteR c inners ++ ys) = .ok c ys := by
  unfold quoteR
  split
  · rename_i h; subst h; rfl
  · split
    · rename_i h; subst h; rfl
    · split
      · rename_i h1 h2 h
        obtain ⟨a, b, d⟩ := inner_alnum h
        show itemR (92 :: c :: ys) = _
        rw [itemR, if_pos rfl, escR, if_neg b, if_neg d, if_neg (by rw [a]; decide)]
      · rename_i h1 h2 h
        have := inner_not (by simpa using h)
        show itemR (c :: ys) = _
        rw [itemR, if_neg this.2.2.2]
theorem quote_first (c : Int) : ∃ d l, quoteR c inners = d :: l ∧ d ≠ 93 ∧ d ≠ 94 ∧ d ≠ 45 := by
  unfold quoteR
  split
  · exact ⟨92, _, rfl, by decide, by decide, by decide⟩
  · split
    · exact ⟨92, _, rfl, by decide, by decide, by decide⟩
    · split
      · exact ⟨92, _, rfl, by decide, by decide, by decide⟩
      · rename_i h
        have := inner_not (by simpa using h)
        exact ⟨c, [], rfl, by omega, by omega, by omega⟩
theorem range_first (r : S98) : ∃ d l, rangeT r = d :: l ∧ d ≠ 93 ∧ d ≠ 94 ∧ d ≠ 45 := by
  obtain ⟨d, l, e, h⟩ := quote_first r.f0
  exact ⟨d, l ++ (if r.f0 < r.f1 then 45 :: quoteR r.f1 inners else []), by unfold rangeT; rw [e]; rfl, h⟩
theorem range_text (r : S98) (h : r.f0 ≤ r.f1) {ys : List Int} (hy : ∃ d l, ys = d :: l ∧ d ≠ 45) : rangeR (rangeT r ++ ys) = .ok r ys := by
  unfold rangeR rangeT
  rw [List.append_assoc, quote_item]
  show R.bind (if dash ((if r.f0 < r.f1 then 45 :: quoteR r.f1 inners else []) ++ ys) then _ else _) _ = _
  by_cases hlt : r.f0 < r.f1
  · obtain ⟨d, l, e, h1, h2, h3⟩ := quote_first r.f1
    rw [if_pos hlt]
    have hd : dash (45 :: quoteR r.f1 inners ++ ys) = true := by rw [e]; show decide (d ≠ 93) = true; simpa using h1
    rw [hd, if_pos rfl]
    show R.bind (itemR (quoteR r.f1 inners ++ ys)) _ = _
    rw [quote_item]
    show (if r.f1 < r.f0 then _ else R.ok (⟨r.f0, r.f1⟩ : S98) ys) = _
    rw [if_neg (by omega)]
  · obtain ⟨d, l, rfl, h1⟩ := hy
    rw [if_neg hlt, List.nil_append]
    have hd : dash (d :: l) = false := by
      unfold dash
      split
      · rename_i h2; exact absurd (List.cons.inj h2).1 h1
      · rfl
    rw [hd, if_neg (by decide)]
    show (if r.f0 < r.f0 then _ else R.ok (⟨r.f0, r.f0⟩ : S98) (d :: l)) = _
    rw [if_neg (by omega)]
    have e : r.f0 = r.f1 := by omega
    obtain ⟨x, y⟩ := r
    obtain rfl : x = y := e
    rfl
theorem ranges_text : ∀ (L acc : List S98) (n : Nat) (ys : List Int), (∀ r ∈ L, r.f0 ≤ r.f1) → L.length < n → acc ++ L ≠ [] → clsR n acc (L.flatMap rangeT ++ 93 :: ys) = .ok (acc ++ L) ys
  | [], acc, n, ys, hL, hn, hne => by
    obtain ⟨n, rfl⟩ : ∃ m, n = m + 1 := ⟨n - 1, by omega⟩
    rw [List.append_nil] at hne ⊢
    rw [clsR, if_pos ⟨hne, rfl⟩]
    rfl
  | r :: L, acc, n, ys, hL, hn, hne => by
    obtain ⟨n, rfl⟩ : ∃ m, n = m + 1 := ⟨n - 1, by omega⟩
    simp only [List.length_cons] at hn
    obtain ⟨d, l, e, h1, h2, h3⟩ := range_first r
    have hy : ∃ d l, L.flatMap rangeT ++ 93 :: ys = d :: l ∧ d ≠ 45 := by
      cases L with
      | nil => exact ⟨93, ys, rfl, by decide⟩
      | cons x L =>
        obtain ⟨d, l, e, h1, h2, h3⟩ := range_first x
        exact ⟨d, l ++ (L.flatMap rangeT ++ 93 :: ys), by rw [List.flatMap_cons, e]; simp, h3⟩
    rw [List.flatMap_cons, List.append_assoc, clsR, if_neg (by rw [e]; intro h; simp at h; omega), range_text r (hL r (by simp)) hy]
    show clsR n (acc ++ [r]) _ = _
    rw [ranges_text L (acc ++ [r]) n ys (fun x hx => hL x (by simp [hx])) (by omega) (by simp)]
    simp
end Go.Proofs.Ytdgidcfmggmbiaa.Rx
namespace Go.Proofs.Ytdgidcfmggmbiaa.Rx
open Go.RowKit Go.Proofs.YtdgidcfmggmbiaaW.PrintWords Go.Proofs.YtdgidcfmggmbiaaW.PrintLast Go.Proofs.YtdgidcfmggmbiaaW.PrintMore Go.Proofs.Ytdgidcfmggmbiaa.PRx
set_option linter.unusedVariables false
set_option linter.unusedSimpArgs false

theorem flat_first {L : List S98} (h : L ≠ []) (ys : List Int) : ∃ d l, L.flatMap rangeT ++ ys = d :: l ∧ d ≠ 93 ∧ d ≠ 94 := by
  cases L with
  | nil => exact absurd rfl h
  | cons x L =>
    obtain ⟨d, l, e, h1, h2, h3⟩ := range_first x
    exact ⟨d, l ++ (L.flatMap rangeT ++ ys), by rw [List.flatMap_cons, e]; simp, h1, h2⟩
theorem rangeT_pos (r : S98) : 0 < (rangeT r).length := by
  obtain ⟨d, l, e, _⟩ := range_first r
  rw [e]; simp
theorem flat_len : ∀ (L : List S98), L.length ≤ (L.flatMap rangeT).length
  | [] => Nat.le_refl _
  | r :: L => by
    have := flat_len L
    have := rangeT_pos r
    simp only [List.flatMap_cons, List.length_append, List.length_cons]
    omega
theorem class_text {L : List S98} (hL : Canon L) (hne : L ≠ []) (ys : List Int) : classR (L.flatMap rangeT ++ 93 :: ys) = .ok (setN false L) ys := by
  obtain ⟨d, l, e, h1, h2⟩ := flat_first hne (93 :: ys)
  have hl := flat_len L
  have hc := ranges_text L [] ((L.flatMap rangeT ++ 93 :: ys).length + 1) ys (fun r hr => (hL.1 r hr).2.1) (by rw [List.length_append, List.length_cons]; omega) (by simpa using hne)
  unfold classR
  rw [if_neg (by rw [e]; simpa using h2), if_neg (by rw [e]; simpa using h1), hc]
  rfl
theorem class_text_not {L : List S98} (hL : Canon L) (hne : L ≠ []) (ys : List Int) : classR (94 :: (L.flatMap rangeT ++ 93 :: ys)) = .ok (setN true L) ys := by
  obtain ⟨d, l, e, h1, h2⟩ := flat_first hne (93 :: ys)
  have hl := flat_len L
  have hc := ranges_text L [] ((L.flatMap rangeT ++ 93 :: ys).length + 1) ys (fun r hr => (hL.1 r hr).2.1) (by rw [List.length_append, List.length_cons]; omega) (by simpa using hne)
  unfold classR
  rw [if_pos (show (94 :: (L.flatMap rangeT ++ 93 :: ys)).head? = some 94 from rfl)]
  show (if (L.flatMap rangeT ++ 93 :: ys).head? = some 93 then _ else R.bind (clsR ((L.flatMap rangeT ++ 93 :: ys).length + 1) [] (L.flatMap rangeT ++ 93 :: ys)) _) = _
  rw [if_neg (by rw [e]; simpa using h1), hc]
  rfl
theorem canon_one {c : Int} (h : 0 ≤ c ∧ c ≤ 255) : Canon [⟨c, c⟩] := canon_snoc canon_nil ⟨h.1, Int.le_refl _, h.2⟩ (fun x hx => by cases hx)
theorem canon_all : Canon [⟨0, 255⟩] := canon_snoc canon_nil ⟨by decide, by decide, by decide⟩ (fun x hx => by cases hx)
theorem rg_all : rg true [⟨0, 255⟩] = [] := by
  have h := rg_canon true (canon_bytes canon_all)
  refine canon_eq h.1 canon_nil fun c c0 c1 => ?_
  rw [h.2 c c0 c1, if_pos rfl]
  exact ⟨fun hn => absurd (has_one.mpr ⟨c0, c1⟩) hn, fun hn => absurd hn (has_nil c)⟩
/-- A set's text is read as the set. -/
theorem set_atom {rs : List S98} (h : Canon rs) (ys : List Int) : atomR altR (setT rs ++ ys) = .ok ⟨1, rs, []⟩ ys ∧ good (setT rs) := by
  have hs := rg_same h
  have ht := rg_twice h
  have ho : Canon (rg true rs) := (rg_canon true (canon_bytes h)).1
  unfold setT
  rw [hs]
  obtain ⟨o, hoq⟩ : ∃ o, o = rg true rs := ⟨_, rfl⟩
  rw [← hoq] at ht ho ⊢
  unfold setTxt
  by_cases h1 : rs.length = 1 ∧ (rs.headD z98).f0 = (rs.headD z98).f1
  · rw [if_pos h1]
    obtain ⟨x, rfl⟩ := List.length_eq_one_iff.mp h1.1
    obtain ⟨a, b⟩ := x
    have e : a = b := h1.2
    subst e
    refine ⟨?_, quote_good _⟩
    show atomR altR (quoteR a specials ++ ys) = _
    rw [quote_atom]
    show R.ok (⟨1, rg false [⟨a, a⟩], []⟩ : S30) ys = _
    rw [hs]
  · rw [if_neg h1]
    by_cases h2 : o.length = 1 ∧ (o.headD z98).f0 = 10 ∧ (o.headD z98).f1 = 10
    · rw [if_pos h2]
      obtain ⟨x, rfl⟩ := List.length_eq_one_iff.mp h2.1
      obtain ⟨a, b⟩ := x
      have e1 : a = 10 := h2.2.1
      have e2 : b = 10 := h2.2.2
      subst e1 e2
      refine ⟨?_, 46, [], rfl, by decide, by decide, by decide, by decide, by decide⟩
      show R.ok (⟨1, rg true [⟨10, 10⟩], []⟩ : S30) ys = _
      rw [ht]
    · rw [if_neg h2]
      by_cases h3 : rs.length = 0
      · rw [if_pos h3]
        obtain rfl := List.length_eq_zero_iff.mp h3
        refine ⟨?_, 91, _, rfl, by decide, by decide, by decide, by decide, by decide⟩
        show R.ok (⟨1, rg true [⟨0, 255⟩], []⟩ : S30) ys = _
        rw [rg_all]
      · rw [if_neg h3]
        have hne : rs ≠ [] := fun e => h3 (by rw [e]; rfl)
        refine ⟨?_, 91, _, rfl, by decide, by decide, by decide, by decide, by decide⟩
        rw [List.cons_append, atomR, if_neg (by decide), if_neg (by decide), if_pos rfl]
        by_cases h4 : 0 < o.length ∧ o.length < rs.length
        · rw [if_pos h4, List.append_assoc, List.cons_append]
          show classR (94 :: (o.flatMap rangeT ++ 93 :: ys)) = _
          rw [class_text_not ho (List.length_pos_iff.mp h4.1)]
          show R.ok (⟨1, rg true o, []⟩ : S30) ys = _
          rw [ht]
        · rw [if_neg h4, List.append_assoc]
          show classR (rs.flatMap rangeT ++ 93 :: ys) = _
          rw [class_text h hne]
          show R.ok (⟨1, rg false rs, []⟩ : S30) ys = _
          rw [hs]
/-- The trees that are read of patterns. -/
inductive Tr : S30 → Prop where
  | set {rs : List S98} (h : Canon rs) : Tr ⟨1, rs, []⟩
  | cat {ks : List S30} (h : ∀ x, x ∈ ks → Tr x) : Tr ⟨2, [], ks⟩
  | alt {ps : List S30} (h2 : 2 ≤ ps.length) (h : ∀ x, x ∈ ps → Tr x) (hc : ∀ x, x ∈ ps → x.f0 = 2) : Tr ⟨3, [], ps⟩
  | sign {k : Int} {t : S30} (hk : k = 4 ∨ k = 5 ∨ k = 6) (h : Tr t) : Tr ⟨k, [], [t]⟩
/-- What may stand behind an alternation. -/
def stop (ys : List Int) : Prop := ys = [] ∨ ∃ l, ys = 41 :: l
theorem stop_calm {ys : List Int} (h : stop ys) : calm ys := by
  rcases h with rfl | ⟨l, rfl⟩
  · intro c hc; cases hc
  · intro c hc
    have : (41 : Int) = c := Option.some.inj hc
    subst this
    decide
theorem calm_bar (l : List Int) : calm (124 :: l) := by
  intro c hc
  have : (124 : Int) = c := Option.some.inj hc
  subst this
  decide
theorem parts_stop (P K : List S30) {ys : List Int} (h : stop ys) : partsR P K ys = .ok (P ++ [catN K]) ys := by
  rcases h with rfl | ⟨l, rfl⟩
  · rfl
  · rfl
theorem pieceT_lt {x t : S30} (h : x ∈ t.f2) : SizeOf.sizeOf x < SizeOf.sizeOf t := by
  have := List.sizeOf_lt_of_mem h
  cases t
  simp at this ⊢
  omega
theorem good_app {xs : List Int} (ys : List Int) (h : good xs) : good (xs ++ ys) := by
  obtain ⟨c, l, rfl, h⟩ := h
  exact ⟨c, l ++ ys, rfl, h⟩
theorem partsT_map (k : Int) : ∀ ks : List S30, k ≠ 3 → partsT k ks = ks.map pieceT
  | [], _ => by simp [partsT]
  | x :: xs, h => by
    rw [partsT, partsT_map k xs h]
    have e : (x.f0 = 3 ∨ (k ≠ 3 ∧ x.f0 = 2)) = (x.f0 = 3 ∨ x.f0 = 2) := by simp [h]
    simp only [e, List.map_cons, pieceT]
theorem partsT_alt : ∀ ks : List S30, (∀ x, x ∈ ks → x.f0 = 2) → partsT 3 ks = ks.map textR
  | [], _ => by simp [partsT]
  | x :: xs, h => by
    rw [partsT, partsT_alt xs (fun y hy => h y (by simp [hy]))]
    have h1 := h x (by simp)
    rw [if_neg (by omega)]
    rfl
theorem text_cat (ks : List S30) : textR ⟨2, [], ks⟩ = (ks.map pieceT).flatten := by
  rw [textR, if_neg (by decide), if_pos rfl, partsT_map 2 ks (by decide)]
theorem text_alt (ks : List S30) (h : ∀ x, x ∈ ks → x.f0 = 2) : textR ⟨3, [], ks⟩ = joinT (ks.map textR) := by
  rw [textR, if_neg (by decide), if_neg (by decide), if_pos rfl, partsT_alt ks h]
theorem text_sign {k : Int} (t : S30) (hk : k = 4 ∨ k = 5 ∨ k = 6) : textR ⟨k, [], [t]⟩ = pieceT t ++ [signT k] := by
  rw [textR, if_neg (by omega), if_neg (by omega), if_neg (by omega), if_pos hk, partsT_map k [t] (by omega)]
  rfl
theorem sign_step {k : Int} (t : S30) (ys : List Int) (hk : k = 4 ∨ k = 5 ∨ k = 6) : signR t (signT k :: ys) = signR ⟨k, [], [t]⟩ ys := by
  rcases hk with rfl | rfl | rfl
  · show signR t (42 :: ys) = _
    rw [signR, if_pos rfl]
  · show signR t (43 :: ys) = _
    rw [signR, if_neg (by decide), if_pos rfl]
  · show signR t (63 :: ys) = _
    rw [signR, if_neg (by decide), if_neg (by decide), if_pos rfl]
/-- A tree's text, as a piece and as an alternation, is read as the tree. -/
theorem round_trip : ∀ (n : Nat) (t : S30), SizeOf.sizeOf t ≤ n → Tr t →
    (∀ ys, pieceR (pieceT t ++ ys) = .ok (signR t ys).1 (signR t ys).2) ∧ good (pieceT t) ∧
    (t.f0 = 2 → ∀ P ys, partsR P [] (textR t ++ ys) = partsR P t.f2 ys ∨ ¬ calm ys) ∧
    ((t.f0 = 2 ∨ t.f0 = 3) → ∀ ys, stop ys → altR (textR t ++ ys) = .ok t ys)
  | 0, t, hn, _ => by cases t; simp at hn
  | n + 1, t, hn, hT => by
    cases hT with
    | @set rs h =>
      have hp : pieceT ⟨1, rs, []⟩ = setT rs := by
        unfold pieceT
        rw [if_neg (by show ¬ ((1 : Int) = 3 ∨ (1 : Int) = 2); decide), textR, if_pos rfl]
      refine ⟨fun ys => ?_, by rw [hp]; exact (set_atom h []).2, fun h => absurd h (by show ¬ (1 : Int) = 2; decide), fun h => absurd h (by show ¬ ((1 : Int) = 2 ∨ (1 : Int) = 3); decide)⟩
      rw [hp]
      unfold pieceR
      rw [(set_atom h ys).1]
      rfl
    | @sign k t hk h =>
      have hlt := pieceT_lt (x := t) (t := ⟨k, [], [t]⟩) (by simp)
      obtain ⟨h1, h2, _⟩ := round_trip n t (by omega) h
      have hp : pieceT ⟨k, [], [t]⟩ = pieceT t ++ [signT k] := by
        show (if k = 3 ∨ k = 2 then _ else _) = _
        rw [if_neg (by omega), text_sign t hk]
      refine ⟨fun ys => ?_, by rw [hp]; exact good_app _ h2, fun h => absurd h (by show ¬ k = 2; omega), fun h => absurd h (by show ¬ (k = 2 ∨ k = 3); omega)⟩
      rw [hp, List.append_assoc]
      show pieceR (pieceT t ++ signT k :: ys) = _
      rw [h1, sign_step t ys hk]
    | @cat ks h =>
      have hkid : ∀ x, x ∈ ks → (∀ ys, pieceR (pieceT x ++ ys) = .ok (signR x ys).1 (signR x ys).2) ∧ good (pieceT x) := fun x hx => by
        have hlt := pieceT_lt (x := x) (t := ⟨2, [], ks⟩) hx
        have := round_trip n x (by omega) (h x hx)
        exact ⟨this.1, this.2.1⟩
      have hall : ∀ (l K P : List S30) (ys : List Int), (∀ x, x ∈ l → x ∈ ks) → calm ys → partsR P K ((l.map pieceT).flatten ++ ys) = partsR P (K ++ l) ys := by
        intro l
        induction l with
        | nil => intro K P ys _ _; simp
        | cons x l ih =>
          intro K P ys hl hc
          obtain ⟨h1, h2⟩ := hkid x (hl x (by simp))
          have hcl : calm ((l.map pieceT).flatten ++ ys) := by
            cases l with
            | nil => simpa using hc
            | cons y l =>
              rw [List.map_cons, List.flatten_cons, List.append_assoc]
              exact good_calm (hkid y (hl y (by simp))).2
          obtain ⟨c, m, e, g1, g2, _⟩ := h2
          rw [List.map_cons, List.flatten_cons, List.append_assoc]
          have e2 : pieceT x ++ ((l.map pieceT).flatten ++ ys) = c :: (m ++ ((l.map pieceT).flatten ++ ys)) := by rw [e]; rfl
          rw [e2, parts_piece _ _ _ _ g1 g2, ← e2, h1, sign_calm hcl]
          show partsR P (K ++ [x]) _ = _
          rw [ih (K ++ [x]) P ys (fun y hy => hl y (by simp [hy])) hc]
          simp
      have h3 : ∀ P ys, calm ys → partsR P [] (textR ⟨2, [], ks⟩ ++ ys) = partsR P ks ys := fun P ys hc => by
        rw [text_cat]
        have := hall ks [] P ys (fun x hx => hx) hc
        rwa [List.nil_append] at this
      have h4 : ∀ ys, stop ys → altR (textR ⟨2, [], ks⟩ ++ ys) = .ok ⟨2, [], ks⟩ ys := fun ys hs => by
        unfold altR
        rw [h3 [] ys (stop_calm hs), parts_stop _ _ hs]
        rfl
      have hp : pieceT ⟨2, [], ks⟩ = 40 :: (textR ⟨2, [], ks⟩ ++ [41]) := by
        unfold pieceT
        rw [if_pos (.inr rfl)]
      refine ⟨fun ys => ?_, by rw [hp]; exact ⟨40, _, rfl, by decide, by decide, by decide, by decide, by decide⟩, fun _ P ys => ?_, fun _ => h4⟩
      · rw [hp]
        unfold pieceR
        rw [List.cons_append, List.append_assoc, atomR, if_pos rfl, List.singleton_append, h4 _ (.inr ⟨ys, rfl⟩)]
        rfl
      · by_cases hc : calm ys
        · exact .inl (h3 P ys hc)
        · exact .inr hc
    | @alt ps h2 h hc =>
      have hkid : ∀ x, x ∈ ps → ∀ P ys, calm ys → partsR P [] (textR x ++ ys) = partsR P x.f2 ys := fun x hx P ys hcy => by
        have hlt := pieceT_lt (x := x) (t := ⟨3, [], ps⟩) hx
        have := (round_trip n x (by omega) (h x hx)).2.2.1 (hc x hx) P ys
        exact this.resolve_right (fun hn => hn hcy)
      have hcat : ∀ x, x ∈ ps → catN x.f2 = x := fun x hx => by
        have := h x hx
        cases this with
        | cat _ => rfl
        | set _ => exact absurd (hc _ hx) (by show ¬ (1 : Int) = 2; decide)
        | alt _ _ _ => exact absurd (hc _ hx) (by show ¬ (3 : Int) = 2; decide)
        | @sign k t hk _ => exact absurd (hc _ hx) (by show ¬ k = 2; omega)
      have hall : ∀ (l P : List S30) (ys : List Int), l ≠ [] → (∀ x, x ∈ l → x ∈ ps) → stop ys → partsR P [] (joinT (l.map textR) ++ ys) = .ok (P ++ l) ys := by
        intro l
        induction l with
        | nil => intro P ys hne; exact absurd rfl hne
        | cons x l ih =>
          intro P ys _ hl hs
          cases l with
          | nil =>
            show partsR P [] (textR x ++ ys) = _
            rw [hkid x (hl x (by simp)) P ys (stop_calm hs), parts_stop _ _ hs, hcat x (hl x (by simp))]
          | cons y l =>
            show partsR P [] (textR x ++ 124 :: joinT ((y :: l).map textR) ++ ys) = _
            rw [List.append_assoc, List.cons_append, hkid x (hl x (by simp)) P _ (calm_bar _), parts_bar, hcat x (hl x (by simp)), ih (P ++ [x]) ys (by simp) (fun z hz => hl z (by simp [hz])) hs]
            simp
      have h4 : ∀ ys, stop ys → altR (textR ⟨3, [], ps⟩ ++ ys) = .ok ⟨3, [], ps⟩ ys := fun ys hs => by
        unfold altR
        rw [text_alt ps hc, hall ps [] ys (by intro e; rw [e] at h2; simp at h2) (fun x hx => hx) hs]
        show R.ok (mkAlt ([] ++ ps)) ys = _
        rw [List.nil_append]
        unfold mkAlt
        rw [if_neg (by omega)]
      have hp : pieceT ⟨3, [], ps⟩ = 40 :: (textR ⟨3, [], ps⟩ ++ [41]) := by
        unfold pieceT
        rw [if_pos (.inl rfl)]
      refine ⟨fun ys => ?_, by rw [hp]; exact ⟨40, _, rfl, by decide, by decide, by decide, by decide, by decide⟩, fun h => absurd h (by show ¬ (3 : Int) = 2; decide), fun _ => h4⟩
      rw [hp]
      unfold pieceR
      rw [List.cons_append, List.append_assoc, atomR, if_pos rfl, List.singleton_append, h4 _ (.inr ⟨ys, rfl⟩)]
      rfl
end Go.Proofs.Ytdgidcfmggmbiaa.Rx
