/- rex, plainly: how long a text may be. RexBack's walk; the law's telling. RexBack's walk. -/
import Derived.Test.YtcdkooebhpfknaaMg
import Derived.Test.YtcdkooebhpfknaaMi
import Derived.Test.YtcdkooebhpfknaaMk
import Derived.Test.YtcdkooebhpfknaaNa
namespace Go.Proofs.Ytcdkooebhpfknaa.Rx
open Go.RowKit Go.Proofs.YtcdkooebhpfknaaW.PrintWords Go.Proofs.YtcdkooebhpfknaaW.PrintLast Go.Proofs.YtcdkooebhpfknaaW.PrintMore Go.Proofs.Ytcdkooebhpfknaa.PRx
set_option linter.unusedVariables false
set_option linter.unusedSimpArgs false

theorem set_short {rs : List S37} (h : Canon rs) : (setT rs).length ≤ 1290 := by
  have ho : Canon (rg true rs) := (rg_canon true (canon_bytes h)).1
  have h1 := canon_len rs 0 (Int.le_refl _) h (fun r hr => (h.1 r hr).1)
  have h2 := canon_len _ 0 (Int.le_refl _) ho (fun r hr => (ho.1 r hr).1)
  have f1 := flat_le rs
  have f2 := flat_le (rg true rs)
  unfold setT
  rw [rg_same h]
  unfold setTxt
  split
  · have := quote_len (rs.headD z37).f0 specials; omega
  · split
    · simp
    · split
      · simp
      · rw [List.length_cons, List.length_append]
        split
        · simp only [List.length_cons, List.length_nil]; omega
        · simp only [List.length_cons, List.length_nil]; omega
theorem tr_set {t : S26} (h : Tr t) (h1 : t.f0 = 1) : (pieceT t).length ≤ 1290 := by
  cases h with
  | @set rs h =>
    unfold pieceT
    rw [if_neg (by show ¬ ((1 : Int) = 3 ∨ (1 : Int) = 2); decide), textR, if_pos rfl]
    exact set_short h
  | cat h => exact absurd h1 (by show ¬ (2 : Int) = 1; decide)
  | alt _ _ _ => exact absurd h1 (by show ¬ (3 : Int) = 1; decide)
  | @sign k t hk h => exact absurd h1 (by show ¬ k = 1; omega)
theorem piece_le (t : S26) : (pieceT t).length ≤ (textR t).length + 2 := by
  unfold pieceT
  split
  · simp only [List.length_cons, List.length_append, List.length_nil]; omega
  · omega
theorem piece_sign {k : Int} (t : S26) (hk : k = 4 ∨ k = 5 ∨ k = 6) : (pieceT ⟨k, [], [t]⟩).length = (pieceT t).length + 1 := by
  have : pieceT ⟨k, [], [t]⟩ = textR ⟨k, [], [t]⟩ := by
    show (if k = 3 ∨ k = 2 then _ else _) = _
    rw [if_neg (by omega)]
  rw [this, text_sign t hk]
  simp
theorem sign_cost : ∀ (xs : List Int) (t : S26), (pieceT (signR t xs).1).length + (signR t xs).2.length ≤ (pieceT t).length + xs.length
  | [], t => Nat.le_refl _
  | c :: xs, t => by
    unfold signR
    repeat' split
    · have h1 := sign_cost xs ⟨4, [], [t]⟩
      rw [piece_sign t (.inl rfl)] at h1
      rw [List.length_cons]; omega
    · have h1 := sign_cost xs ⟨5, [], [t]⟩
      rw [piece_sign t (.inr (.inl rfl))] at h1
      rw [List.length_cons]; omega
    · have h1 := sign_cost xs ⟨6, [], [t]⟩
      rw [piece_sign t (.inr (.inr rfl))] at h1
      rw [List.length_cons]; omega
    · exact Nat.le_refl _
theorem setN_one (neg : Bool) (rs : List S37) : (setN neg rs).f0 = 1 := rfl
theorem atom_one {xs r : List Int} {v : S26} {c : Int} (h : atomR altR (c :: xs) = .ok v r) (hc : c ≠ 40) : v.f0 = 1 := by
  rw [atomR, if_neg hc] at h
  split at h
  · injection h with h1 h2; subst h1; rfl
  · split at h
    · unfold classR at h
      repeat' split at h
      · cases h
      · obtain ⟨x, r1, e1, h⟩ := bind_ok h
        injection h with h1 h2; subst h1; rfl
      · cases h
      · obtain ⟨x, r1, e1, h⟩ := bind_ok h
        injection h with h1 h2; subst h1; rfl
    · split at h
      · split at h
        · injection h with h1 h2; subst h1; rfl
        · obtain ⟨x, r1, e1, h⟩ := bind_ok h
          injection h with h1 h2; subst h1; rfl
      · split at h
        · cases h
        · injection h with h1 h2; subst h1; rfl
theorem atom_cost {xs r : List Int} {v : S26} (hx : ByL xs) (ha : ∀ zs v r, zs.length < xs.length → ByL zs → altR zs = .ok v r → (textR v).length + 1300 * r.length ≤ 1300 * zs.length + 1) (h : atomR altR xs = .ok v r) : (pieceT v).length + 1300 * r.length ≤ 1300 * xs.length := by
  cases xs with
  | nil => cases h
  | cons c xs =>
    by_cases hc : c = 40
    · subst hc
      rw [atomR, if_pos rfl] at h
      obtain ⟨x, r1, e1, h⟩ := bind_ok h
      have := ha xs _ _ (by simp) hx.tail e1
      cases r1 with
      | nil => cases h
      | cons d r1 =>
        injection h with h1 h2
        subst h1 h2
        have hp := piece_le x
        simp only [List.length_cons] at this ⊢
        omega
    · have h1 := atom_one h hc
      have h2 := (atom_by hx (fun zs v r _ hb hq => ⟨by
        obtain ⟨ps, r2, e, hq⟩ := bind_ok hq
        have := parts_by _ _ (Nat.le_refl _) hb [] [] ps r2 (fun x hx => by cases hx) (fun x hx => by cases hx) e
        injection hq with a b
        subst b
        exact this.1, alt_by hb hq⟩) h).2
      have h3 := tr_set h2 h1
      have h4 := atom_shrinks (fun ys v r _ h => alt_shrinks h) h
      simp only [List.length_cons] at h4 ⊢
      omega
def tl (ps : List S26) : Nat := (ps.map fun p => (textR p).length + 1).sum
def kl (ks : List S26) : Nat := (ks.map fun k => (pieceT k).length).sum
theorem tl_app (a b : List S26) : tl (a ++ b) = tl a + tl b := by simp [tl]
theorem kl_app (a b : List S26) : kl (a ++ b) = kl a + kl b := by simp [kl]
theorem cat_len (K : List S26) : (textR (catN K)).length = kl K := by
  unfold catN
  rw [text_cat]
  unfold kl
  rw [List.length_flatten, List.map_map]
  rfl
theorem tl_cat (K : List S26) : tl [catN K] = kl K + 1 := by
  show (textR (catN K)).length + 1 + 0 = _
  rw [cat_len]
theorem join_len : ∀ ps : List S26, (joinT (ps.map textR)).length ≤ tl ps
  | [] => Nat.le_refl _
  | [x] => by show (textR x).length ≤ (textR x).length + 1 + 0; omega
  | x :: y :: l => by
    have := join_len (y :: l)
    show (textR x ++ 124 :: joinT ((y :: l).map textR)).length ≤ _
    rw [List.length_append, List.length_cons]
    have e : tl (x :: y :: l) = (textR x).length + 1 + tl (y :: l) := rfl
    omega
theorem mk_len {ps : List S26} (h : ∀ x, x ∈ ps → x.f0 = 2) (hne : ps ≠ []) : (textR (mkAlt ps)).length ≤ tl ps := by
  unfold mkAlt
  cases ps with
  | nil => exact absurd rfl hne
  | cons x ps =>
    cases ps with
    | nil => show (textR x).length ≤ (textR x).length + 1 + 0; omega
    | cons y ps =>
      rw [if_neg (by simp), text_alt _ h]
      exact join_len _
theorem parts_cost : ∀ (n : Nat) (xs : List Int), xs.length ≤ n → ByL xs → ∀ (P K ps : List S26) (r : List Int), partsR P K xs = .ok ps r → tl ps + 1300 * r.length ≤ tl P + kl K + 1 + 1300 * xs.length
  | n, [], hn, hx, P, K, ps, r, h => by
    rw [parts_nil] at h
    injection h with a b
    subst a b
    rw [tl_app, tl_cat]
    simp; omega
  | 0, c :: xs, hn, hx, P, K, ps, r, h => by simp at hn
  | n + 1, c :: xs, hn, hx, P, K, ps, r, h => by
    simp only [List.length_cons] at hn
    by_cases h1 : c = 124
    · subst h1
      rw [parts_bar] at h
      have := parts_cost n xs (by omega) hx.tail _ _ _ _ h
      rw [tl_app, tl_cat] at this
      have e : kl [] = 0 := rfl
      simp only [List.length_cons]
      omega
    · by_cases h2 : c = 41
      · subst h2
        rw [parts_end] at h
        injection h with a b
        subst a b
        rw [tl_app, tl_cat]
        omega
      · rw [parts_piece _ _ _ _ h1 h2] at h
        obtain ⟨t, r1, e1, h⟩ := bind_ok h
        have hs := piece_shrinks e1
        simp only [List.length_cons] at hs
        obtain ⟨u, r0, e2, e3⟩ := bind_ok e1
        have hau := atom_cost hx (fun zs v r hz hb hq => by
          obtain ⟨qs, r2, e4, hq⟩ := bind_ok hq
          injection hq with a b
          simp only [List.length_cons] at hz
          have h5 := parts_cost n zs (by omega) hb [] [] qs r2 e4
          have h6 := parts_by _ _ (Nat.le_refl _) hb [] [] qs r2 (fun x hx => by cases hx) (fun x hx => by cases hx) e4
          have h7 := mk_len (fun x hx => (h6.2.1 x hx).2) h6.2.2
          have e5 : tl [] = 0 := rfl
          have e6 : kl [] = 0 := rfl
          subst a b
          omega) e2
        have hby := atom_by hx (fun zs v r _ hb hq => ⟨by
          obtain ⟨ps, r2, e, hq⟩ := bind_ok hq
          have := parts_by _ _ (Nat.le_refl _) hb [] [] ps r2 (fun x hx => by cases hx) (fun x hx => by cases hx) e
          injection hq with a b
          subst b
          exact this.1, alt_by hb hq⟩) e2
        have hsb := sign_by r0 u hby.1 hby.2
        have hsc := sign_cost r0 u
        have hss := sign_shrinks r0 u
        injection e3 with a b
        rw [a, b] at hsc
        rw [b] at hsb hss
        have := parts_cost n r1 (by omega) hsb.1 _ _ _ _ h
        rw [kl_app] at this
        have e5 : kl [t] = (pieceT t).length := by show (pieceT t).length + 0 = _; rfl
        simp only [List.length_cons] at hau ⊢
        omega
theorem alt_short {xs r : List Int} {t : S26} (hx : ByL xs) (h : altR xs = .ok t r) : (textR t).length ≤ 1300 * xs.length + 1 := by
  obtain ⟨ps, r2, e, h⟩ := bind_ok h
  have h5 := parts_cost _ _ (Nat.le_refl _) hx [] [] ps r2 e
  have h6 := parts_by _ _ (Nat.le_refl _) hx [] [] ps r2 (fun x hx => by cases hx) (fun x hx => by cases hx) e
  have h7 := mk_len (fun x hx => (h6.2.1 x hx).2) h6.2.2
  have e5 : tl [] = 0 := rfl
  have e6 : kl [] = 0 := rfl
  injection h with a b
  subst a
  omega
end Go.Proofs.Ytcdkooebhpfknaa.Rx
namespace Go.Proofs.Ytcdkooebhpfknaa.Rx
open Go.RowKit Go.Proofs.YtcdkooebhpfknaaW.PrintWords Go.Proofs.YtcdkooebhpfknaaW.PrintLast Go.Proofs.YtcdkooebhpfknaaW.PrintMore Go.Proofs.Ytcdkooebhpfknaa.PRx
set_option linter.unusedVariables false
set_option linter.unusedSimpArgs false

theorem bI_by (s : ByteArray) : ByL (bI s) := bI_rng s
theorem set_one {c : Int} (h : 0 ≤ c ∧ c ≤ 255) : setT [⟨c, c⟩] = quoteR c specials := by
  unfold setT
  rw [rg_same (canon_one h)]
  unfold setTxt
  rw [if_pos ⟨rfl, rfl⟩]
  rfl
theorem canon_digits : Canon [⟨48, 57⟩] := canon_snoc canon_nil ⟨by decide, by decide, by decide⟩ (fun x hx => by cases hx)
theorem set_digits : setT [⟨48, 57⟩] = [91, 48, 45, 57, 93] := by
  unfold setT
  rw [rg_same canon_digits]
  have ht := rg_twice canon_digits
  obtain ⟨o, ho⟩ : ∃ o, o = rg true [⟨48, 57⟩] := ⟨_, rfl⟩
  rw [← ho] at ht ⊢
  unfold setTxt
  rw [if_neg (by decide)]
  have h2 : ¬ (o.length = 1 ∧ (o.headD z37).f0 = 10 ∧ (o.headD z37).f1 = 10) := by
    rintro ⟨h1, h2, h3⟩
    obtain ⟨x, rfl⟩ := List.length_eq_one_iff.mp h1
    obtain ⟨a, b⟩ := x
    obtain rfl : a = 10 := h2
    obtain rfl : b = 10 := h3
    have := (rg_canon true (one_by (c := 10) (by decide))).2 0 (by decide) (by decide)
    rw [ht, if_pos rfl] at this
    have h4 := this.mpr (fun h => by have := has_one.mp h; have : (10 : Int) ≤ 0 := this.1; omega)
    have h5 : (48 : Int) ≤ 0 := (has_one.mp h4).1
    omega
  rw [if_neg h2, if_neg (by decide), if_neg (by intro h; have : o.length < 1 := h.2; omega)]
  rfl
def aliveT : S26 := ⟨3, [], [catN [⟨5, [], [⟨1, [⟨48, 57⟩], []⟩]⟩], catN [⟨1, [⟨46, 46⟩], []⟩]]⟩
theorem alive_text : textR aliveT = [91, 48, 45, 57, 93, 43, 124, 92, 46] := by
  unfold aliveT
  rw [text_alt _ (by intro x hx; simp at hx; rcases hx with rfl | rfl <;> rfl)]
  have e1 : textR (catN [⟨5, [], [⟨1, [⟨48, 57⟩], []⟩]⟩]) = [91, 48, 45, 57, 93, 43] := by
    unfold catN
    rw [text_cat]
    have e2 : pieceT ⟨5, [], [⟨1, [⟨48, 57⟩], []⟩]⟩ = [91, 48, 45, 57, 93, 43] := by
      unfold pieceT
      rw [if_neg (by decide), text_sign _ (.inr (.inl rfl))]
      unfold pieceT
      rw [if_neg (by decide), textR, if_pos rfl, set_digits]
      rfl
    simp [e2]
  have e3 : textR (catN [⟨1, [⟨46, 46⟩], []⟩]) = [92, 46] := by
    unfold catN
    rw [text_cat]
    have e2 : pieceT ⟨1, [⟨46, 46⟩], []⟩ = [92, 46] := by
      unfold pieceT
      rw [if_neg (by decide), textR, if_pos rfl, set_one (by decide)]
      rfl
    simp [e2]
  simp only [List.map_cons, List.map_nil, e1, e3]
  rfl
theorem alive_tree : altR [91, 48, 45, 57, 93, 43, 124, 92, 46] = .ok ⟨3, [], [catN [⟨5, [], [setN false [⟨48, 57⟩]]⟩], catN [setN false [⟨46, 46⟩]]]⟩ [] := by
  with_unfolding_all rfl
theorem alive_parse : parseP [91, 48, 45, 57, 93, 43, 124, 92, 46] = (aliveT, 0, 0) := by
  unfold parseP
  rw [if_neg (by decide), alive_tree]
  show ((⟨3, [], [catN [⟨5, [], [⟨1, rg false [⟨48, 57⟩], []⟩]⟩], catN [⟨1, rg false [⟨46, 46⟩], []⟩]]⟩ : S26), (0 : Int), (0 : Int)) = _
  rw [rg_same canon_digits, rg_same (canon_one (by decide))]
  rfl
theorem alive_tr : Tr aliveT := Tr.alt (by decide) (by
    intro x hx
    simp at hx
    rcases hx with rfl | rfl
    · exact Tr.cat (fun y hy => by obtain rfl := List.mem_singleton.mp hy; exact Tr.sign (.inr (.inl rfl)) (Tr.set canon_digits))
    · exact Tr.cat (fun y hy => by obtain rfl := List.mem_singleton.mp hy; exact Tr.set (canon_one (by decide)))) (by
    intro x hx; simp at hx; rcases hx with rfl | rfl <;> rfl)
set_option maxHeartbeats 1000000 in
theorem telling_any (w : World) : Calls Try.prog 11 #[] w (Told w true) := by
  have HP : Hid (∀ w, Calls Try.prog 9 #[.string ⟨#[91, 48, 45, 57, 93, 43, 124, 92, 46]⟩] w (PRes w (aliveT, 0, 0))) := Lib.hid fun w => by
    have := parse_any ⟨#[91, 48, 45, 57, 93, 43, 124, 92, 46]⟩ w
    rwa [show bI ⟨#[91, 48, 45, 57, 93, 43, 124, 92, 46]⟩ = [91, 48, 45, 57, 93, 43, 124, 92, 46] from rfl, alive_parse] at this
  have HT : Hid (∀ (w : World) (v : Value), TC w v aliveT → Calls Try.prog 12 #[v] w fun e w' => e = .returned (.string ⟨#[91, 48, 45, 57, 93, 43, 124, 92, 46]⟩) ∧ Kpt w w') := Lib.hid fun w v h => by
    have := text_any alive_tr (by rw [alive_text]; decide) w v h
    unfold Says at this
    rwa [alive_text] at this
  obtain ⟨t, ht⟩ : ∃ t, t = aliveT := ⟨_, rfl⟩
  rw [← ht] at HP HT
  clear ht
  go_enter Try.func11, Try.ntmps11
  go_wp2_with (first
    | (go_at_call 9; (with_reducible refine (HP.out _).mono ?_); rintro e w1 ⟨v, rfl, ht, hk⟩; (obtain ⟨A1, n1, c1, A2, n2, c2, rfl, hr1, hr2⟩ := ht); have HT1 : Hid (TC w1 (.agg #[.int .i64 t.f0, .slice A1 n1 c1, .slice A2 n2 c2]) t) := Lib.hid (Tree.tc ⟨A1, n1, c1, A2, n2, c2, rfl, hr1, hr2⟩); have HK1 := Lib.hid hk; clear hr1 hr2 hk)
    | (go_at_call 12; refine (HT.out _ _ (HT1.out.alloc _)).mono ?_; rintro e w2 ⟨rfl, hk⟩; have HK2 := Lib.hid hk; clear hk))
  go_ret
  exact ⟨rfl, (HK1.out.alloc _).trans HK2.out⟩
end Go.Proofs.Ytcdkooebhpfknaa.Rx
namespace Go.Proofs.Ytcdkooebhpfknaa.Rx
open Go.RowKit Go.Proofs.YtcdkooebhpfknaaW.PrintWords Go.Proofs.YtcdkooebhpfknaaW.PrintLast Go.Proofs.YtcdkooebhpfknaaW.PrintMore Go.Proofs.Ytcdkooebhpfknaa.PRx
set_option linter.unusedVariables false
set_option linter.unusedSimpArgs false

theorem quoteS_by {c : Int} (hc : 0 ≤ c ∧ c < 256) (l : List Int) : ByL (quoteR c l) := quote_rng hc l
theorem by_app {a b : List Int} (ha : ByL a) (hb : ByL b) : ByL (a ++ b) := fun x hx => by
  rcases List.mem_append.mp hx with hx | hx
  · exact ha x hx
  · exact hb x hx
theorem by_cons {c : Int} {b : List Int} (hc : 0 ≤ c ∧ c < 256) (hb : ByL b) : ByL (c :: b) := fun x hx => by
  rcases List.mem_cons.mp hx with rfl | hx
  · exact hc
  · exact hb x hx
theorem setT_by {rs : List S37} (h : Canon rs) : ByL (setT rs) := by
  have ho : Canon (rg true rs) := (rg_canon true (canon_bytes h)).1
  unfold setT
  rw [rg_same h]
  unfold setTxt
  split
  · rename_i h1
    obtain ⟨x, rfl⟩ := List.length_eq_one_iff.mp h1.1
    have := canon_bytes h x (by simp)
    exact quote_rng ⟨this.1, this.2.1⟩ _
  · split
    · exact by_cons (by decide) (fun x hx => by cases hx)
    · split
      · intro x hx; simp at hx; omega
      · refine by_cons (by decide) (by_app ?_ (by_cons (by decide) (fun x hx => by cases hx)))
        split
        · exact by_cons (by decide) (flat_rng (canon_bytes ho))
        · exact flat_rng (canon_bytes h)
theorem join_by : ∀ {l : List (List Int)}, (∀ x, x ∈ l → ByL x) → ByL (joinT l)
  | [], _ => fun x hx => by cases hx
  | [y], h => h y (by simp)
  | y :: z :: l, h => by
    show ByL (y ++ 124 :: joinT (z :: l))
    exact by_app (h y (by simp)) (by_cons (by decide) (join_by (fun x hx => h x (by simp at hx ⊢; exact .inr hx))))
theorem flat_by {l : List (List Int)} (h : ∀ x, x ∈ l → ByL x) : ByL l.flatten := fun c hc => by
  obtain ⟨x, hx, hc⟩ := List.mem_flatten.mp hc
  exact h x hx c hc
theorem text_by_n : ∀ (n : Nat) (t : S26), SizeOf.sizeOf t ≤ n → Tr t → ByL (textR t)
  | 0, t, hn, _ => by cases t; simp at hn
  | n + 1, t, hn, hT => by
    have hk : ∀ y, y ∈ t.f2 → ByL (textR y) := fun y hy => by
      have := kid_lt hy
      exact text_by_n n y (by omega) (tr_kids hT y hy)
    have hp : ∀ y, y ∈ t.f2 → ByL (pieceT y) := fun y hy => by
      unfold pieceT
      split
      · exact by_cons (by decide) (by_app (hk y hy) (by_cons (by decide) (fun x hx => by cases hx)))
      · exact hk y hy
    cases hT with
    | @set rs h => rw [textR, if_pos rfl]; exact setT_by h
    | @cat ks h =>
      rw [text_cat]
      refine flat_by fun x hx => ?_
      obtain ⟨y, hy, rfl⟩ := List.mem_map.mp hx
      exact hp y hy
    | @alt ps h2 h hc =>
      rw [text_alt ps hc]
      refine join_by fun x hx => ?_
      obtain ⟨y, hy, rfl⟩ := List.mem_map.mp hx
      exact hk y hy
    | @sign k u hk4 h =>
      rw [text_sign u hk4]
      refine by_app (hp u (by simp)) (by_cons ?_ (fun x hx => by cases hx))
      unfold signT
      repeat' split
      all_goals decide
theorem text_by {t : S26} (h : Tr t) : ByL (textR t) := text_by_n _ t (Nat.le_refl _) h
theorem parseP_err {s : ByteArray} {t : S26} {c k : Int} (h : parseP (bI s) = (t, c, k)) (hc : ¬ c = 0) : t = z26 := by
  unfold parseP at h
  split at h
  · exact (congrArg (fun q => q.1) h).symm
  · split at h
    · have : (0 : Int) = c := congrArg (fun q => q.2.1) h
      exact absurd this.symm hc
    · exact (congrArg (fun q => q.1) h).symm
    · exact (congrArg (fun q => q.1) h).symm
theorem load3b {W : World} {g : Nat} {u0 u1 u2 : Value} (h : W.heap[g]? = some (.cells #[u0, u1, u2] 26 (0, 0))) : W.cell? ⟨g, 0, none⟩ = some u0 ∧ W.cell? ⟨g, 1, none⟩ = some u1 ∧ W.cell? ⟨g, 2, none⟩ = some u2 :=
  ⟨blk_cell h 0, blk_cell h 1, blk_cell h 2⟩
/-- A pattern that can't be read. -/
theorem back_err (p : ByteArray) (c k : Int) (w : World) (HP : Hid (∀ w, Calls Try.prog 9 #[.string p] w (PRes w (z26, c, k)))) (hc : ¬ c = 0) : Calls Try.prog 5 #[.string p] w (Told w true) := by
  have g1 : (c == 0) = false := by simpa using hc
  have g2 : (c != 0) = true := by simpa using hc
  clear hc
  go_enter Try.func5, Try.ntmps5
  go_wp2_with (first
    | (go_at_call 8; refine (parsing_any _).mono ?_; rintro e w1 ⟨rfl, hk⟩; have HK1 := Lib.hid hk; clear hk)
    | (go_at_call 11; refine (telling_any _).mono ?_; rintro e w2 ⟨rfl, hk⟩; have HK2 := Lib.hid hk; clear hk)
    | (go_at_call 9; (with_reducible refine (HP.out _).mono ?_); rintro e w3 ⟨v, rfl, ⟨A3, n3, c3, A4, n4, c4, rfl, hr1, hr2⟩, hk⟩; (obtain rfl := (Kd.R_reads' hr1).1); (obtain rfl := (Kd.R_reads' hr2).1); have HK3 := Lib.hid hk; clear hr1 hr2 hk))
  go_ret
  exact ⟨rfl, (((HK1.out.trans HK2.out).trans HK3.out).alloc _)⟩
set_option maxHeartbeats 1000000 in
set_option maxRecDepth 100000 in
theorem back_long (p str : ByteArray) (t : S26) (k : Int) (w : World) (HP : Hid (∀ w, Calls Try.prog 9 #[.string p] w (PRes w (t, 0, k)))) (HT : Hid (∀ (w : World) (v : Value), TC w v t → Calls Try.prog 12 #[v] w fun e w' => e = .returned (.string str) ∧ Kpt w w'))
    (HS : Hid (∀ w, Calls Try.prog 9 #[.string str] w (PRes w (z26, 2, 0)))) (hs : (256 : Int) < (str.size : Int)) (hs2 : (str.size : Int) ≤ 1000000) : Calls Try.prog 5 #[.string p] w (Told w true) := by
  have g1 : decide ((str.size : Int) > 256) = true := by simpa using hs
  have g2 : decide ((256 : Int) < (str.size : Int)) = true := by simpa using hs
  clear hs
  go_enter Try.func5, Try.ntmps5
  go_wp2_with (first
    | (go_at_call 8; refine (parsing_any _).mono ?_; rintro e w1 ⟨rfl, hk⟩; have HK1 := Lib.hid hk; clear hk)
    | (go_at_call 11; refine (telling_any _).mono ?_; rintro e w2 ⟨rfl, hk⟩; have HK2 := Lib.hid hk; clear hk)
    | (go_at_call 9; (with_reducible refine (HP.out _).mono ?_); rintro e w3 ⟨v, rfl, ht, hk⟩; (obtain ⟨A1, n1, c1, A2, n2, c2, rfl, hr1, hr2⟩ := ht); have HT1 : Hid (TC w3 (.agg #[.int .i64 t.f0, .slice A1 n1 c1, .slice A2 n2 c2]) t) := Lib.hid (Tree.tc ⟨A1, n1, c1, A2, n2, c2, rfl, hr1, hr2⟩); have HK3 := Lib.hid hk; clear hr1 hr2 hk)
    | (go_at_call 12; refine (HT.out _ _ (HT1.out.alloc _)).mono ?_; rintro e w4 ⟨rfl, hk⟩; have HK4 := Lib.hid hk; clear hk)
    | (go_at_call 9; (with_reducible refine (HS.out _).mono ?_); rintro e w5 ⟨v, rfl, ⟨A3, n3, c3, A4, n4, c4, rfl, hr1, hr2⟩, hk⟩; have HK5 := Lib.hid hk; clear hr1 hr2 hk))
  go_ret
  exact ⟨rfl, (((((HK1.out.trans HK2.out).trans HK3.out).alloc _).trans HK4.out).trans HK5.out).alloc _⟩
set_option maxHeartbeats 1000000 in
set_option maxRecDepth 100000 in
theorem back_main (p str : ByteArray) (t : S26) (k : Int) (w : World) (HP : Hid (∀ w, Calls Try.prog 9 #[.string p] w (PRes w (t, 0, k)))) (HT : Hid (∀ (w : World) (v : Value), TC w v t → Calls Try.prog 12 #[v] w fun e w' => e = .returned (.string str) ∧ Kpt w w'))
    (HS : Hid (∀ w, Calls Try.prog 9 #[.string str] w (PRes w (t, 0, 0)))) (hs2 : (str.size : Int) ≤ 256) : Calls Try.prog 5 #[.string p] w (Told w true) := by
  have ge : (str.toList == str.toList) = true := by simp
  go_enter Try.func5, Try.ntmps5
  go_wp2_with (first
    | (go_at_call 8; refine (parsing_any _).mono ?_; rintro e w1 ⟨rfl, hk⟩; have HK1 := Lib.hid hk; clear hk)
    | (go_at_call 11; refine (telling_any _).mono ?_; rintro e w2 ⟨rfl, hk⟩; (have HK2 := Lib.hid hk); clear hk; have tok1 : True := trivial)
    | (go_at_call 9; (have t_ := tok1); clear t_; (with_reducible refine (HP.out _).mono ?_); rintro e w3 ⟨v, rfl, ht, hk⟩; (obtain ⟨A1, n1, c1, A2, n2, c2, rfl, hr1, hr2⟩ := ht); have HT1 : Hid (TC w3 (.agg #[.int .i64 t.f0, .slice A1 n1 c1, .slice A2 n2 c2]) t) := Lib.hid (Tree.tc ⟨A1, n1, c1, A2, n2, c2, rfl, hr1, hr2⟩); have HK3 := Lib.hid hk; clear hr1 hr2 hk tok1; have tok2 : True := trivial)
    | (go_at_call 12; (have t_ := tok2); clear t_; refine (HT.out _ _ (HT1.out.alloc _)).mono ?_; rintro e w4 ⟨rfl, hk⟩; have Y4 := Lib.hid (hk.blk (blk_new w3 (.cells #[.int .i64 t.f0, .slice A1 n1 c1, .slice A2 n2 c2] 26))); have HT4 := Lib.hid ((HT1.out.alloc (.cells #[.int .i64 t.f0, .slice A1 n1 c1, .slice A2 n2 c2] 26)).below hk); have HK4 := Lib.hid hk; clear hk tok2)
    | (go_at_call 9; (with_reducible refine (HS.out _).mono ?_); rintro e w5 ⟨v, rfl, ht, hk⟩; (obtain ⟨A3, n3, c3, A4, n4, c4, rfl, hr1, hr2⟩ := ht); have HT5 : Hid (TC w5 (.agg #[.int .i64 t.f0, .slice A3 n3 c3, .slice A4 n4 c4]) t) := Lib.hid (Tree.tc ⟨A3, n3, c3, A4, n4, c4, rfl, hr1, hr2⟩); have HTA := Lib.hid ((HT4.out.below hk).alloc (.cells #[.int .i64 t.f0, .slice A3 n3 c3, .slice A4 n4 c4] 26)); have HTB := Lib.hid (HT5.out.alloc (.cells #[.int .i64 t.f0, .slice A3 n3 c3, .slice A4 n4 c4] 26)); (obtain ⟨f0, f1, f2⟩ := load3b (blk_alloc (hk.blk Y4.out) (.cells #[.int .i64 t.f0, .slice A3 n3 c3, .slice A4 n4 c4] 26))); have HS1 : Hid (Calls Try.prog 10 #[.agg #[.int .i64 t.f0, .slice A1 n1 c1, .slice A2 n2 c2], .agg #[.int .i64 t.f0, .slice A3 n3 c3, .slice A4 n4 c4]] (w5.alloc (.cells #[.int .i64 t.f0, .slice A3 n3 c3, .slice A4 n4 c4] 26)) (Told (w5.alloc (.cells #[.int .i64 t.f0, .slice A3 n3 c3, .slice A4 n4 c4] 26)) true)) := Lib.hid (same_any HTA.out HTB.out); have HK5 := Lib.hid hk; clear hr1 hr2 hk)
    | (go_at_call 10; (with_reducible refine HS1.out.mono ?_); rintro e w6 ⟨rfl, hk⟩; (obtain ⟨g0, g1, g2⟩ := load3b (hk.blk (blk_new w5 (.cells #[.int .i64 t.f0, .slice A3 n3 c3, .slice A4 n4 c4] 26)))); have HT6 := Lib.hid (HTB.out.below hk); have HK6 := Lib.hid hk; clear hk; have tok3 : True := trivial)
    | (go_at_call 12; (have t_ := tok3); clear t_; refine (HT.out _ _ HT6.out).mono ?_; rintro e w7 ⟨rfl, hk⟩; have HK7 := Lib.hid hk; clear hk tok3))
  go_ret
  exact ⟨rfl, ((((((((HK1.out.trans HK2.out).trans HK3.out).alloc _).trans HK4.out).trans HK5.out).alloc _).trans HK6.out).trans HK7.out)⟩
theorem back_walk (p : ByteArray) (hp : p.size ≤ maxLen) (w : World) : Calls Try.prog 5 #[.string p] w (Told w true) := by
  have HP : Hid (∀ w, Calls Try.prog 9 #[.string p] w (PRes w (parseP (bI p)))) := Lib.hid (parse_any p)
  obtain ⟨⟨t, c, k⟩, hq⟩ : ∃ q, parseP (bI p) = q := ⟨_, rfl⟩
  rw [hq] at HP
  by_cases hc : c = 0
  · subst hc
    obtain ⟨ha, hs⟩ := parseP_ok hq rfl
    have hT := alt_by (bI_by p) ha
    have hl := alt_short (bI_by p) ha
    rw [bI_len] at hl
    have hk := (alt_cases ha).2
    obtain ⟨str, hstr⟩ : ∃ str, str = strOfNums (textR t) := ⟨_, rfl⟩
    have hsz : str.size = (textR t).length := by rw [hstr, strOfNums_size]
    have HT : Hid (∀ (w : World) (v : Value), TC w v t → Calls Try.prog 12 #[v] w fun e w' => e = .returned (.string str) ∧ Kpt w w') := Lib.hid fun w v h => by
      have := text_any hT (by omega) w v h
      unfold Says at this
      rwa [← hstr] at this
    by_cases hlong : 256 < str.size
    · exact back_long p str t k w HP HT (Lib.hid fun w => parse_long hlong) (by omega) (by omega)
    · have hb : bI str = textR t := by rw [hstr]; exact bI_strs (text_by hT)
      have hrt := (round_trip _ t (Nat.le_refl _) hT).2.2.2 (by omega) [] (.inl rfl)
      rw [List.append_nil, ← hb] at hrt
      exact back_main p str t k w HP HT (Lib.hid fun w => parse_ok (by omega) hrt) (by omega)
  · have hz := parseP_err hq hc
    subst hz
    exact back_err p c k w HP hc
end Go.Proofs.Ytcdkooebhpfknaa.Rx
