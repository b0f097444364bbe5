/- Plain: a tree that was parsed is right, and small. Plain: a file pattern's tree is right, and small; so is a regular expression's. -/
import Derived.Test.YtdgidcfmggmbiaaMi
import Derived.Test.YtdgidcfmggmbiaaMa
import Derived.Test.YtdgidcfmggmbiaaMd
import Derived.Test.YtdgidcfmggmbiaaMj
import Derived.Test.YtdgidcfmggmbiaaMo
import Derived.Test.YtdgidcfmggmbiaaNc
import Derived.Test.YtdgidcfmggmbiaaMh
namespace Go.Proofs.Ytdgidcfmggmbiaa.Rx
open Go.RowKit Go.Proofs.YtdgidcfmggmbiaaW.PrintWords Go.Proofs.YtdgidcfmggmbiaaW.PrintLast Go.Proofs.YtdgidcfmggmbiaaW.PrintMore Go.Proofs.Ytdgidcfmggmbiaa.PRx Go.Proofs.Ytdgidcfmggmbiaa.Tree Go.Proofs.Ytdgidcfmggmbiaa.Fac
set_option linter.unusedVariables false
set_option linter.unusedSimpArgs false

/-- What nfa.Compile asks of a tree, but for its size. -/
structure GdT (t : S30) : Prop where
  ok : okT t
  len : lenT t
  right : rightT t
structure GdL (l : List S30) : Prop where
  ok : okL l
  len : lenL l
  right : rightL l
theorem GdL.nil : GdL [] := ⟨by simp [okL], by simp [lenL], by simp [rightL]⟩
theorem GdL.cons {x : S30} {l : List S30} (h : GdT x) (hl : GdL l) : GdL (x :: l) := ⟨by simp only [okL]; exact ⟨h.1, hl.1⟩, by simp only [lenL]; exact ⟨h.2, hl.2⟩, by simp only [rightL]; exact ⟨h.3, hl.3⟩⟩
theorem GdL.head {x : S30} {l : List S30} (h : GdL (x :: l)) : GdT x := ⟨by have := h.1; simp only [okL] at this; exact this.1, by have := h.2; simp only [lenL] at this; exact this.1, by have := h.3; simp only [rightL] at this; exact this.1⟩
theorem GdL.tail {x : S30} {l : List S30} (h : GdL (x :: l)) : GdL l := ⟨by have := h.1; simp only [okL] at this; exact this.2, by have := h.2; simp only [lenL] at this; exact this.2, by have := h.3; simp only [rightL] at this; exact this.2⟩
theorem GdL.append : ∀ {a b : List S30}, GdL a → GdL b → GdL (a ++ b)
  | [], b, _, hb => hb
  | x :: a, b, ha, hb => GdL.cons ha.head (GdL.append ha.tail hb)
theorem GdL.snoc {a : List S30} {x : S30} (h : GdL a) (hx : GdT x) : GdL (a ++ [x]) := h.append (GdL.cons hx GdL.nil)
theorem szL_app : ∀ (a b : List S30), szL (a ++ b) = szL a + szL b
  | [], b => by simp [szL]
  | x :: a, b => by simp only [List.cons_append, szL, szL_app a b]; omega
theorem dpL_app : ∀ (a b : List S30), dpL (a ++ b) = max (dpL a) (dpL b)
  | [], b => by simp [dpL]
  | x :: a, b => by simp only [List.cons_append, dpL, dpL_app a b]; omega
theorem szL_snoc (a : List S30) (x : S30) : szL (a ++ [x]) = szL a + sz x := by rw [szL_app]; simp [szL]
theorem dpL_snoc (a : List S30) (x : S30) : dpL (a ++ [x]) = max (dpL a) (dp x) := by rw [dpL_app]; simp [dpL]
theorem gdT_mk {k : Int} {rs : List S98} {kids : List S30} (hk : 1 ≤ k ∧ k ≤ 6) (h4 : 4 ≤ k → kids ≠ []) (hr : ∀ r ∈ rs, okR r) (hrl : rs.length ≤ 1000000) (hl : kids.length ≤ 1000000) (h : GdL kids) : GdT ⟨k, rs, kids⟩ := by
  refine ⟨?_, ?_, ?_⟩
  · rw [okT]; exact ⟨by omega, hr, h.1⟩
  · rw [lenT]; exact ⟨by unfold lenMax; omega, by unfold lenMax; omega, h.2⟩
  · rw [rightT]; exact ⟨hk, h4, h.3⟩
theorem canon_len : ∀ (rs : List S98) (m : Int), Canon rs → m ≤ 256 → (∀ x ∈ rs, m ≤ x.f0) → m + (rs.length : Int) ≤ 256
  | [], m, h, hm, hx => by simpa using hm
  | x :: rs, m, h, hm, hx => by
    have a := h.1 x (by simp)
    have b := hx x (by simp)
    have := canon_len rs (x.f0 + 1) (canon_tail h) (by omega) (fun y hy => by
      have := canon_head h (c := y.f0) ⟨y, hy, Int.le_refl _, (h.1 y (by simp [hy])).2.1⟩
      omega)
    simp only [List.length_cons]
    omega
theorem set_gd (neg : Bool) {rs : List S98} (h : ByteR rs) : GdT (setN neg rs) ∧ sz (setN neg rs) = 1 ∧ dp (setN neg rs) = 1 := by
  have hc := (rg_canon neg h).1
  have hl := canon_len _ 0 hc (by omega) (fun x hx => (hc.1 x hx).1)
  refine ⟨gdT_mk (by omega) (by omega) (fun r hr => ?_) (by omega) (by simp) GdL.nil, by simp [setN, sz, szL], by simp [setN, dp, dpL]⟩
  have := hc.1 r hr
  exact ⟨by omega, by omega⟩
/-- Bytes. -/
def Bs (xs : List Int) : Prop := ∀ x, x ∈ xs → 0 ≤ x ∧ x < 256
theorem Bs.tail {c : Int} {xs : List Int} (h : Bs (c :: xs)) : Bs xs := fun x hx => h x (by simp [hx])
theorem Bs.tl {xs : List Int} (h : Bs xs) : Bs xs.tail := fun x hx => h x (List.mem_of_mem_tail hx)
theorem esc_bs {k : Nat} {xs r : List Int} {v : Int} (hx : Bs xs) (h : escR k xs = .ok v r) : (0 ≤ v ∧ v < 256) ∧ Bs r := by
  refine ⟨esc_rng hx h, ?_⟩
  cases xs with
  | nil => cases h
  | cons c xs =>
    rw [escR] at h
    repeat' split at h
    all_goals first | (cases h; done) | (injection h with h1 h2; subst h2; exact hx.tail)
theorem item_bs {xs r : List Int} {v : Int} (hx : Bs xs) (h : itemR xs = .ok v r) : (0 ≤ v ∧ v < 256) ∧ Bs r := by
  refine ⟨item_rng hx h, ?_⟩
  cases xs with
  | nil => cases h
  | cons c xs =>
    rw [itemR] at h
    split at h
    · exact (esc_bs hx.tail h).2
    · injection h with h1 h2; subst h2; exact hx.tail
theorem range_bs {xs r : List Int} {v : S98} (hx : Bs xs) (h : rangeR xs = .ok v r) : (0 ≤ v.f0 ∧ v.f0 < 256 ∧ 0 ≤ v.f1 ∧ v.f1 < 256) ∧ Bs r := by
  obtain ⟨lo, r1, h1, h2⟩ := bind_ok h
  obtain ⟨hi, r2, h3, h4⟩ := bind_ok h2
  have a := item_bs hx h1
  have b : (0 ≤ hi ∧ hi < 256) ∧ Bs r2 := by
    split at h3
    · exact item_bs a.2.tl h3
    · injection h3 with h5 h6; subst h5; subst h6; exact a
  split at h4
  · cases h4
  · injection h4 with h5 h6; subst h5; subst h6; exact ⟨⟨a.1.1, a.1.2, b.1.1, b.1.2⟩, b.2⟩
theorem byteR_snoc {acc : List S98} {x : S98} (h : ByteR acc) (hx : 0 ≤ x.f0 ∧ x.f0 < 256 ∧ 0 ≤ x.f1 ∧ x.f1 < 256) : ByteR (acc ++ [x]) := by
  intro y hy
  rcases List.mem_append.mp hy with hy | hy
  · exact h y hy
  · obtain rfl := List.mem_singleton.mp hy; exact hx
theorem cls_bs : ∀ (n : Nat) (acc : List S98) (xs r : List Int) (v : List S98), Bs xs → ByteR acc → clsR n acc xs = .ok v r → ByteR v ∧ Bs r
  | 0, acc, xs, r, v, hx, ha, h => by cases h
  | n + 1, acc, xs, r, v, hx, ha, h => by
    rw [clsR] at h
    split at h
    · injection h with h1 h2; subst h1; subst h2; exact ⟨ha, hx.tl⟩
    · obtain ⟨x, r1, h1, h2⟩ := bind_ok h
      have a := range_bs hx h1
      exact cls_bs n _ _ _ _ a.2 (byteR_snoc ha a.1) h2
theorem byteR_nil : ByteR [] := fun x hx => by cases hx
theorem class_bs {xs r : List Int} {t : S30} (hx : Bs xs) (h : classR xs = .ok t r) : GdT t ∧ sz t = 1 ∧ dp t = 1 ∧ Bs r := by
  unfold classR at h
  repeat' split at h
  all_goals first | (cases h; done) | skip
  · obtain ⟨rs, r1, h1, h2⟩ := bind_ok h
    have a := cls_bs _ _ _ _ _ hx.tl byteR_nil h1
    injection h2 with h3 h4; subst h3; subst h4
    obtain ⟨g1, g2, g3⟩ := set_gd true a.1
    exact ⟨g1, g2, g3, a.2⟩
  · obtain ⟨rs, r1, h1, h2⟩ := bind_ok h
    have a := cls_bs _ _ _ _ _ hx byteR_nil h1
    injection h2 with h3 h4; subst h3; subst h4
    obtain ⟨g1, g2, g3⟩ := set_gd false a.1
    exact ⟨g1, g2, g3, a.2⟩
theorem one_byteR {lo hi : Int} (h : 0 ≤ lo ∧ lo < 256 ∧ 0 ≤ hi ∧ hi < 256) : ByteR [⟨lo, hi⟩] := fun x hx => by obtain rfl := List.mem_singleton.mp hx; exact h
/-- What an alternation's reading comes to. -/
def AltG (alt : List Int → R S30) (n : Nat) : Prop := ∀ (ys r : List Int) (t : S30), ys.length < n → Bs ys → alt ys = .ok t r → GdT t ∧ Bs r ∧ r.length ≤ ys.length ∧ sz t + r.length ≤ ys.length + 2 ∧ dp t + r.length ≤ ys.length + 2
theorem atom_gd {alt : List Int → R S30} {xs r : List Int} {t : S30} (ha : AltG alt xs.length) (hx : Bs xs) (h : atomR alt xs = .ok t r) : GdT t ∧ Bs r ∧ r.length < xs.length ∧ sz t + r.length ≤ xs.length ∧ dp t + r.length ≤ xs.length := by
  cases xs with
  | nil => cases h
  | cons c xs =>
    have hc := hx c (by simp)
    have hxs := hx.tail
    rw [atomR] at h
    simp only [List.length_cons]
    split at h
    · obtain ⟨u, r1, h1, h2⟩ := bind_ok h
      obtain ⟨a1, a2, a3, a4, a5⟩ := ha xs r1 u (by simp) hxs h1
      cases r1 with
      | nil => cases h2
      | cons d r1 =>
        injection h2 with h3 h4; subst h3; subst h4
        simp only [List.length_cons] at a3 a4 a5
        exact ⟨a1, a2.tail, by omega, by omega, by omega⟩
    · split at h
      · injection h with h3 h4; subst h3; subst h4
        obtain ⟨g1, g2, g3⟩ := set_gd true (one_byteR (lo := 10) (hi := 10) (by omega))
        exact ⟨g1, hxs, by omega, by omega, by omega⟩
      · split at h
        · obtain ⟨g1, g2, g3, g4⟩ := class_bs hxs h
          have := class_shrinks h
          exact ⟨g1, g4, by omega, by omega, by omega⟩
        · split at h
          · split at h
            · rename_i hd
              injection h with h3 h4; subst h3; subst h4
              obtain ⟨g1, g2, g3⟩ := set_gd false (one_byteR (lo := 48) (hi := 57) (by omega))
              have : xs.tail.length = xs.length - 1 := List.length_tail
              exact ⟨g1, hxs.tl, by omega, by omega, by omega⟩
            · obtain ⟨d, r1, h1, h2⟩ := bind_ok h
              injection h2 with h3 h4; subst h3; subst h4
              have a := esc_bs hxs h1
              have b := esc_shrinks h1
              obtain ⟨g1, g2, g3⟩ := set_gd false (one_byteR (lo := d) (hi := d) ⟨a.1.1, a.1.2, a.1.1, a.1.2⟩)
              exact ⟨g1, a.2, by omega, by omega, by omega⟩
          · split at h
            · cases h
            · injection h with h3 h4; subst h3; subst h4
              obtain ⟨g1, g2, g3⟩ := set_gd false (one_byteR (lo := c) (hi := c) ⟨hc.1, hc.2, hc.1, hc.2⟩)
              exact ⟨g1, hxs, by omega, by omega, by omega⟩
theorem wrap_gd {k : Int} {t : S30} (hk : 1 ≤ k ∧ k ≤ 6) (h : GdT t) : GdT ⟨k, [], [t]⟩ ∧ sz ⟨k, [], [t]⟩ = sz t + 1 ∧ dp ⟨k, [], [t]⟩ = dp t + 1 :=
  ⟨gdT_mk hk (fun _ => by simp) (fun r hr => by cases hr) (by simp) (by simp) (GdL.cons h GdL.nil), by simp only [sz, szL]; omega, by simp only [dp, dpL]; omega⟩
theorem sign_gd : ∀ (xs : List Int) (t : S30), Bs xs → GdT t → GdT (signR t xs).1 ∧ Bs (signR t xs).2 ∧ sz (signR t xs).1 + (signR t xs).2.length ≤ sz t + xs.length ∧ dp (signR t xs).1 + (signR t xs).2.length ≤ dp t + xs.length
  | [], t, hx, ht => ⟨ht, hx, Nat.le_refl _, Nat.le_refl _⟩
  | c :: xs, t, hx, ht => by
    rw [signR]
    repeat' split
    · obtain ⟨g1, g2, g3⟩ := wrap_gd (k := 4) (by omega) ht
      obtain ⟨a1, a2, a3, a4⟩ := sign_gd xs _ hx.tail g1
      simp only [List.length_cons]
      exact ⟨a1, a2, by omega, by omega⟩
    · obtain ⟨g1, g2, g3⟩ := wrap_gd (k := 5) (by omega) ht
      obtain ⟨a1, a2, a3, a4⟩ := sign_gd xs _ hx.tail g1
      simp only [List.length_cons]
      exact ⟨a1, a2, by omega, by omega⟩
    · obtain ⟨g1, g2, g3⟩ := wrap_gd (k := 6) (by omega) ht
      obtain ⟨a1, a2, a3, a4⟩ := sign_gd xs _ hx.tail g1
      simp only [List.length_cons]
      exact ⟨a1, a2, by omega, by omega⟩
    · exact ⟨ht, hx, Nat.le_refl _, Nat.le_refl _⟩
theorem cat_gd {K : List S30} (h : GdL K) (hl : szL K ≤ 1000000) : GdT (catN K) ∧ sz (catN K) = szL K + 1 ∧ dp (catN K) = dpL K + 1 :=
  ⟨gdT_mk (by omega) (by omega) (fun r hr => by cases hr) (by simp) (Nat.le_trans (len_le_szL K) hl) h, by simp only [catN, sz]; omega, by simp only [catN, dp]; omega⟩
theorem mkAlt_gd {ps : List S30} (h : GdL ps) (hl : szL ps ≤ 1000000) : GdT (mkAlt ps) ∧ sz (mkAlt ps) ≤ szL ps + 1 ∧ dp (mkAlt ps) ≤ dpL ps + 1 := by
  unfold mkAlt
  split
  · rename_i h1
    match ps, h1 with
    | [x], _ => exact ⟨h.head, by simp [szL], by simp [dpL]⟩
  · exact ⟨gdT_mk (by omega) (by omega) (fun r hr => by cases hr) (by simp) (Nat.le_trans (len_le_szL ps) hl) h, by simp only [sz]; omega, by simp only [dp]; omega⟩
theorem go_gd : ∀ (n : Nat) (P K ps : List S30) (xs r : List Int) (T : Nat), goR n P K xs = .ok ps r → Bs xs → GdL P → GdL K → szL P + szL K + xs.length ≤ T → dpL P + xs.length ≤ T → dpL K + xs.length ≤ T → T ≤ 1000 →
    GdL ps ∧ Bs r ∧ r.length ≤ xs.length ∧ szL ps + r.length ≤ T + 1 ∧ dpL ps + r.length ≤ T + 1
  | 0, P, K, ps, xs, r, T, h, _, _, _, _, _, _, _ => by cases h
  | n + 1, P, K, ps, [], r, T, h, hx, hP, hK, h1, h2, h3, hT => by
    rw [goR] at h
    injection h with h4 h5; subst h4; subst h5
    obtain ⟨g1, g2, g3⟩ := cat_gd hK (by omega)
    rw [szL_snoc, dpL_snoc]
    exact ⟨hP.snoc g1, hx, Nat.le_refl _, by omega, by omega⟩
  | n + 1, P, K, ps, c :: xs, r, T, h, hx, hP, hK, h1, h2, h3, hT => by
    obtain ⟨g1, g2, g3⟩ := cat_gd hK (by omega)
    simp only [List.length_cons] at h1 h2 h3
    rw [goR] at h
    split at h
    · obtain ⟨a1, a2, a3, a4, a5⟩ := go_gd n _ [] ps xs r T h hx.tail (hP.snoc g1) GdL.nil (by rw [szL_snoc]; simp only [szL]; omega) (by rw [dpL_snoc]; omega) (by simp only [dpL]; omega) hT
      simp only [List.length_cons]
      exact ⟨a1, a2, by omega, a4, a5⟩
    · split at h
      · injection h with h4 h5; subst h4; subst h5
        rw [szL_snoc, dpL_snoc]
        simp only [List.length_cons]
        exact ⟨hP.snoc g1, hx, Nat.le_refl _, by omega, by omega⟩
      · obtain ⟨t, r1, h4, h5⟩ := bind_ok h
        have ha : AltG (fun ys => (goR n [] [] ys).bind fun ps r => .ok (mkAlt ps) r) (c :: xs).length := by
          intro ys r2 u hl hy hu
          obtain ⟨qs, r3, h6, h7⟩ := bind_ok hu
          injection h7 with h8 h9; subst h8; subst h9
          simp only [List.length_cons] at hl
          obtain ⟨a1, a2, a3, a4, a5⟩ := go_gd n [] [] qs ys r3 ys.length h6 hy GdL.nil GdL.nil (by simp [szL]) (by simp [dpL]) (by simp [dpL]) (by omega)
          obtain ⟨b1, b2, b3⟩ := mkAlt_gd a1 (by omega)
          exact ⟨b1, a2, a3, by omega, by omega⟩
        obtain ⟨a1, a2, a3, a4, a5⟩ := atom_gd ha hx h4
        obtain ⟨b1, b2, b3, b4⟩ := sign_gd r1 t a2 a1
        have hs := sign_shrinks r1 t
        simp only [List.length_cons] at a3 a4 a5
        obtain ⟨c1, c2, c3, c4, c5⟩ := go_gd n P _ ps _ r T h5 b2 hP (hK.snoc b1) (by rw [szL_snoc]; omega) (by omega) (by rw [dpL_snoc]; omega) hT
        simp only [List.length_cons]
        exact ⟨c1, c2, by omega, c4, c5⟩
theorem alt_gd {xs r : List Int} {t : S30} (hx : Bs xs) (hl : xs.length ≤ 256) (h : altR xs = .ok t r) : GdT t ∧ sz t ≤ 258 ∧ dp t ≤ 258 := by
  obtain ⟨qs, r3, h6, h7⟩ := bind_ok h
  injection h7 with h8 h9; subst h8; subst h9
  obtain ⟨a1, a2, a3, a4, a5⟩ := go_gd _ [] [] qs xs r3 xs.length h6 hx GdL.nil GdL.nil (by simp [szL]) (by simp [dpL]) (by simp [dpL]) (by omega)
  obtain ⟨b1, b2, b3⟩ := mkAlt_gd a1 (by omega)
  exact ⟨b1, by omega, by omega⟩
/-- What a pattern's tree is good for. -/
def Small (t : S30) : Prop := GdT t ∧ sz t ≤ 1000 ∧ dp t ≤ 300
end Go.Proofs.Ytdgidcfmggmbiaa.Rx
namespace Go.Proofs.Ytdgidcfmggmbiaa.Rx
open Go.RowKit Go.Proofs.YtdgidcfmggmbiaaW.PrintWords Go.Proofs.YtdgidcfmggmbiaaW.PrintLast Go.Proofs.YtdgidcfmggmbiaaW.PrintMore Go.Proofs.Ytdgidcfmggmbiaa.PRx Go.Proofs.Ytdgidcfmggmbiaa.Tree Go.Proofs.Ytdgidcfmggmbiaa.Fac
set_option linter.unusedVariables false
set_option linter.unusedSimpArgs false

theorem bI_bs (s : ByteArray) : Bs (bI s) := bI_rng s
theorem itemG_bs {xs r : List Int} {v : Int × Bool} (hx : Bs xs) (h : itemG xs = .ok v r) : (0 ≤ v.1 ∧ v.1 < 256) ∧ Bs r := by
  refine ⟨itemG_rng hx h, ?_⟩
  cases xs with
  | nil => cases h
  | cons c xs =>
    rw [itemG] at h
    split at h
    · cases xs with
      | nil => cases h
      | cons d xs => injection h with h1 h2; subst h2; exact hx.tail.tail
    · injection h with h1 h2; subst h2; exact hx.tail
theorem clsG_bs : ∀ (n : Nat) (acc : List S98) (xs r : List Int) (v : List S98), Bs xs → ByteR acc → clsG n acc xs = .ok v r → ByteR v ∧ Bs r
  | 0, acc, xs, r, v, hx, ha, h => by cases h
  | n + 1, acc, xs, r, v, hx, ha, h => by
    rw [clsG] at h
    obtain ⟨q, r1, h1, h2⟩ := bind_ok h
    have a := itemG_bs hx h1
    split at h2
    · injection h2 with h3 h4; subst h3; subst h4; exact ⟨ha, a.2⟩
    · obtain ⟨p, r2, h3, h4⟩ := bind_ok h2
      have b : (0 ≤ p.1 ∧ p.1 < 256) ∧ Bs r2 := by
        split at h3
        · exact itemG_bs a.2.tl h3
        · injection h3 with h5 h6; subst h5; subst h6; exact a
      split at h4
      · cases h4
      · exact clsG_bs n _ _ _ _ b.2 (byteR_snoc ha ⟨a.1.1, a.1.2, b.1.1, b.1.2⟩) h4
theorem classG_bs {xs r : List Int} {t : S30} (hx : Bs xs) (h : classG xs = .ok t r) : (GdT t ∧ sz t = 1 ∧ dp t = 1) ∧ Bs r := by
  unfold classG at h
  split at h
  · obtain ⟨rs, r1, h1, h2⟩ := bind_ok h
    have a := clsG_bs _ _ _ _ _ hx.tl byteR_nil h1
    injection h2 with h3 h4; subst h3; subst h4
    exact ⟨set_gd true a.1, a.2⟩
  · obtain ⟨rs, r1, h1, h2⟩ := bind_ok h
    have a := clsG_bs _ _ _ _ _ hx byteR_nil h1
    injection h2 with h3 h4; subst h3; subst h4
    exact ⟨set_gd false a.1, a.2⟩
theorem range_gd {lo hi : Int} (h : 0 ≤ lo ∧ lo < 256 ∧ 0 ≤ hi ∧ hi < 256) : GdT ⟨1, [⟨lo, hi⟩], []⟩ ∧ sz ⟨1, [⟨lo, hi⟩], []⟩ = 1 ∧ dp ⟨1, [⟨lo, hi⟩], []⟩ = 1 :=
  ⟨gdT_mk (by omega) (by omega) (fun r hr => by obtain rfl := List.mem_singleton.mp hr; exact ⟨by show 0 ≤ lo ∧ lo ≤ 255; omega, by show 0 ≤ hi ∧ hi ≤ 255; omega⟩) (by simp) (by simp) GdL.nil, by simp [sz, szL], by simp [dp, dpL]⟩
theorem partG_bs {xs r : List Int} {t : S30} (hx : Bs xs) (h : partG xs = .ok t r) : GdT t ∧ sz t ≤ 2 ∧ dp t ≤ 2 ∧ Bs r := by
  obtain ⟨q, r1, h1, h2⟩ := bind_ok h
  have a := itemG_bs hx h1
  have o := range_gd (lo := q.1) (hi := q.1) ⟨a.1.1, a.1.2, a.1.1, a.1.2⟩
  have y := range_gd (lo := 0) (hi := 255) (by omega)
  repeat' split at h2
  · injection h2 with h3 h4; subst h3; subst h4; exact ⟨o.1, by show sz ⟨1, [⟨q.1, q.1⟩], []⟩ ≤ 2; omega, by show dp ⟨1, [⟨q.1, q.1⟩], []⟩ ≤ 2; omega, a.2⟩
  · injection h2 with h3 h4; subst h3; subst h4; exact ⟨y.1, by show sz ⟨1, [⟨0, 255⟩], []⟩ ≤ 2; omega, by show dp ⟨1, [⟨0, 255⟩], []⟩ ≤ 2; omega, a.2⟩
  · injection h2 with h3 h4; subst h3; subst h4
    have z := wrap_gd (k := 4) (by omega) y.1
    exact ⟨z.1, by show sz ⟨4, [], [⟨1, [⟨0, 255⟩], []⟩]⟩ ≤ 2; omega, by show dp ⟨4, [], [⟨1, [⟨0, 255⟩], []⟩]⟩ ≤ 2; omega, a.2⟩
  · obtain ⟨⟨g1, g2, g3⟩, g4⟩ := classG_bs a.2 h2
    exact ⟨g1, by omega, by omega, g4⟩
  · injection h2 with h3 h4; subst h3; subst h4; exact ⟨o.1, by show sz ⟨1, [⟨q.1, q.1⟩], []⟩ ≤ 2; omega, by show dp ⟨1, [⟨q.1, q.1⟩], []⟩ ≤ 2; omega, a.2⟩
theorem goG_bs : ∀ (n : Nat) (K K' : List S30) (xs r : List Int) (T : Nat), Bs xs → GdL K → szL K + 2 * xs.length ≤ T → dpL K ≤ 2 → goG n K xs = .ok K' r → GdL K' ∧ szL K' ≤ T ∧ dpL K' ≤ 2
  | 0, K, K', xs, r, T, hx, hK, hs, hd, h => by cases h
  | n + 1, K, K', xs, r, T, hx, hK, hs, hd, h => by
    rw [goG] at h
    split at h
    · injection h with h3 h4; subst h3; exact ⟨hK, by omega, hd⟩
    · obtain ⟨t, r1, h1, h2⟩ := bind_ok h
      obtain ⟨a1, a2, a3, a4⟩ := partG_bs hx h1
      have := partG_shrinks h1
      exact goG_bs n _ _ _ _ T a4 (hK.snoc a1) (by rw [szL_snoc]; omega) (by rw [dpL_snoc]; omega) h2
theorem glob_small {s : ByteArray} {t : S30} {k : Int} (h : globP (bI s) = (t, 0, k)) (hc : ∀ c k, goG ((bI s).length + 1) [] (bI s) = .err c k → c ≠ 0) : Small t ∧ s.size ≤ 256 := by
  unfold globP at h
  split at h
  · cases h
  · rename_i hl
    rw [bI_len] at hl
    refine ⟨?_, by omega⟩
    cases hg : goG ((bI s).length + 1) [] (bI s) with
    | err c k =>
      rw [hg] at h
      injection h with h1 h2
      injection h2 with h3 h4
      exact absurd h3 (hc c k hg)
    | ok K r =>
      rw [hg] at h
      injection h with h1 h2
      subst h1
      obtain ⟨a1, a2, a3⟩ := goG_bs _ _ _ _ _ (2 * (bI s).length) (bI_bs s) GdL.nil (by simp [szL]) (by simp [dpL]) hg
      rw [bI_len] at a2
      obtain ⟨b1, b2, b3⟩ := cat_gd a1 (by omega)
      exact ⟨b1, by omega, by omega⟩
theorem itemG_err {xs : List Int} {c : Int} {k : Nat} (h : itemG xs = .err c k) : c ≠ 0 := by
  cases xs with
  | nil => injection h with h1 h2; omega
  | cons d xs =>
    rw [itemG] at h
    split at h
    · cases xs with
      | nil => injection h with h1 h2; omega
      | cons d xs => cases h
    · cases h
theorem clsG_err : ∀ (n : Nat) (acc : List S98) (xs : List Int) (c : Int) (k : Nat), xs.length < n → clsG n acc xs = .err c k → c ≠ 0
  | 0, acc, xs, c, k, hn, h => by omega
  | n + 1, acc, xs, c, k, hn, h => by
    rw [clsG] at h
    rcases bind_err h with h1 | ⟨q, r1, h1, h2⟩
    · exact itemG_err h1
    · have a := itemG_shrinks h1
      split at h2
      · cases h2
      · rcases bind_err h2 with h3 | ⟨p, r2, h3, h4⟩
        · split at h3
          · exact itemG_err h3
          · cases h3
        · have e : r1.tail.length = r1.length - 1 := List.length_tail
          have b : r2.length ≤ r1.length := by
            split at h3
            · have := itemG_shrinks h3; omega
            · injection h3 with h5 h6; subst h6; exact Nat.le_refl _
          split at h4
          · injection h4 with h5 h6; omega
          · exact clsG_err n _ _ _ _ (by omega) h4
theorem classG_err {xs : List Int} {c : Int} {k : Nat} (h : classG xs = .err c k) : c ≠ 0 := by
  unfold classG at h
  split at h
  · rcases bind_err h with h1 | ⟨q, r1, h1, h2⟩
    · exact clsG_err _ _ _ _ _ (by omega) h1
    · cases h2
  · rcases bind_err h with h1 | ⟨q, r1, h1, h2⟩
    · exact clsG_err _ _ _ _ _ (by omega) h1
    · cases h2
theorem goG_err : ∀ (n : Nat) (K : List S30) (xs : List Int) (c : Int) (k : Nat), xs.length < n → goG n K xs = .err c k → c ≠ 0
  | 0, K, xs, c, k, hn, h => by omega
  | n + 1, K, xs, c, k, hn, h => by
    rw [goG] at h
    split at h
    · cases h
    · rcases bind_err h with h1 | ⟨t, r1, h1, h2⟩
      · unfold partG at h1
        rcases bind_err h1 with h3 | ⟨q, r2, h3, h4⟩
        · exact itemG_err h3
        · repeat' split at h4
          all_goals first | (cases h4; done) | exact classG_err h4
      · have := partG_shrinks h1
        exact goG_err n _ _ _ _ (by omega) h2
theorem globP_right {s : ByteArray} (h : (globP (bI s)).2.1 = 0) : Small (globP (bI s)).1 ∧ s.size ≤ 256 :=
  glob_small (t := (globP (bI s)).1) (k := (globP (bI s)).2.2) (by rw [← h]) (fun c k => goG_err _ _ _ _ _ (by omega))
theorem parseP_right {s : ByteArray} (h : (parseP (bI s)).2.1 = 0) : Small (parseP (bI s)).1 ∧ s.size ≤ 256 := by
  unfold parseP at h ⊢
  split at h
  · cases h
  · rename_i hl
    rw [if_neg hl]
    rw [bI_len] at hl
    refine ⟨?_, by omega⟩
    cases hg : altR (bI s) with
    | err c k => rw [hg] at h; exact absurd h (alt_err_ne hg)
    | ok t r =>
      rw [hg] at h
      cases r with
      | nil =>
        obtain ⟨a1, a2, a3⟩ := alt_gd (bI_bs s) (by rw [bI_len]; omega) hg
        exact ⟨a1, by show sz t ≤ 1000; omega, by show dp t ≤ 300; omega⟩
      | cons c r => cases h
end Go.Proofs.Ytdgidcfmggmbiaa.Rx
