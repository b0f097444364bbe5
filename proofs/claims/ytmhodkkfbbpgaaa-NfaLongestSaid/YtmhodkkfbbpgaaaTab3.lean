/- Plain: Table, Last, Longest, Find of the document. -/
import Derived.Test.YtmhodkkfbbpgaaaTab2
import Derived.Test.YtmhodkkfbbpgaaaSim
namespace Go.Proofs.Ytmhodkkfbbpgaaa.Fac
set_option linter.unusedVariables false
set_option linter.unusedSimpArgs false
open Go.RowKit Go.Proofs.Ytmhodkkfbbpgaaa.PNfa Tree Re Go.Proofs.YtmhodkkfbbpgaaaW.PrintWords

theorem mt_in {b : Nat → Int} {len : Nat} {r : Re} {i j : Nat} (h : Re.mt b len r i j) (hi : i ≤ len) : i ≤ j ∧ j ≤ len := ⟨((reach_mt r i j).2 h).le, ((reach_mt r i j).2 h).le_len hi⟩

def bN (s : ByteArray) (k : Nat) : Int := bt s (k : Int)
theorem bN_lt (s : ByteArray) (k : Nat) : 0 ≤ bt s (k : Int) ∧ bt s (k : Int) < 256 := by
  unfold bt
  split
  · have := (s[((k : Int)).toNat]).toNat_lt
    omega
  · omega

open Classical in
noncomputable def M (s : ByteArray) (r : Re) (i j : Nat) : Bool := decide (Re.mt (bN s) s.size r i j)
theorem M_iff (s : ByteArray) (r : Re) (i j : Nat) : M s r i j = true ↔ Re.mt (bN s) s.size r i j := by unfold M; simp

theorem M_eq {s : ByteArray} {n : Nat} {r : Re} {f : Nat → Nat → Bool} (h : ∀ p q, p < n → q < n → (f p q = true ↔ Re.mt (bN s) s.size r p q)) : tb n f = tb n (M s r) :=
  tb_congr fun p q hp hq => by rw [Bool.eq_iff_iff, h p q hp hq, M_iff]

section
variable (s : ByteArray) (hs : s.size + 1 ≤ 1000)
include hs

theorem size_w : wrap64 ((s.size : Int) + 1) = ((s.size + 1 : Nat) : Int) := by
  rw [w64 (by omega) (by omega)]; rfl

theorem set_ev (kd : Int) (rs : List Rg) (kids : List Nd) (hl : rs.length ≤ lenMax) (ho : ∀ r, r ∈ rs → okR r) : ∀ (d i : Nat) (h : Nat → Nat → Bool), d = s.size - i → i ≤ s.size → (∀ p q, h p q = true ↔ (q = p + 1 ∧ p < i ∧ inR rs (bt s (p : Int)) = true)) →
    Ev (fun k => colloquyref03_Table.l0 k s (tb (s.size + 1) h) (i : Int) kd rs kids) (tb (s.size + 1) (M s (.set (inR rs)))) := by
  intro d
  induction d with
  | zero =>
    intro i h hd hi hh
    have hi2 : i = s.size := by omega
    refine Ev.succ ((Ev.ret _).congr fun k => ?_)
    rw [colloquyref03_Table.l0, if_neg (by omega)]
    congr 1
    refine M_eq fun p q hp hq => ?_
    rw [hh p q, hi2]
    simp only [Re.mt]
    exact ⟨fun ⟨a, b, c⟩ => ⟨b, a, c⟩, fun ⟨a, b, c⟩ => ⟨b, a, c⟩⟩
  | succ d hd =>
    intro i h hdi hi hh
    have hil : i < s.size := by omega
    have hin : i < s.size + 1 := by omega
    have hn := hd (i + 1) (upd h i (i + 1) (inR rs (bt s (i : Int)))) (by omega) (by omega) (fun p q => by
      unfold upd
      by_cases a : p = i ∧ q = i + 1
      · obtain ⟨rfl, rfl⟩ := a
        rw [if_pos ⟨rfl, rfl⟩]
        exact ⟨fun c => ⟨rfl, by omega, c⟩, fun c => c.2.2⟩
      · rw [if_neg a, hh p q]
        constructor
        · rintro ⟨c1, c2, c3⟩; exact ⟨c1, by omega, c3⟩
        · rintro ⟨c1, c2, c3⟩
          have : p ≠ i := fun e => a ⟨e, by omega⟩
          exact ⟨c1, by omega, c3⟩)
    have hb := bN_lt s i
    have hx := in_ev rs (bt s (i : Int)) hl ho
    have hlen : ((tb (s.size + 1) h).length : Int) = ((s.size + 1 : Nat) : Int) := by rw [tb_len]
    refine Ev.succ ?_
    refine Ev.congr (f := fun k => (colloquyref03_In.f k rs (bt s (i : Int))).bind fun t => colloquyref03_Table.l0 k s ((tb (s.size + 1) h).set i ((rd_L6 (tb (s.size + 1) h) (i : Int)).set (i + 1) t)) ((i + 1 : Nat) : Int) kd rs kids) (Ev.bind hx ?_) (fun k => ?_)
    · refine hn.congr fun k => ?_
      rw [tb_set hin]
    · rw [colloquyref03_Table.l0, if_pos (by omega), if_pos (by omega), if_pos (by rw [hlen]; omega), w64 (z := bt s (i : Int)) (by omega) (by omega)]
      congr 1
      funext t
      rw [w64 (z := (i : Int) + 1) (by omega) (by omega), if_pos (by omega), if_pos (by rw [row_len hin]; omega), Int.toNat_natCast]
      rfl

theorem cat_ev (rs : List Rg) (kids : List Nd) (hl : kids.length ≤ lenMax) (ih : ∀ y, y ∈ kids → Ev (fun k => colloquyref03_Table.f k y.f0 y.f1 y.f2 s) (tb (s.size + 1) (M s (re y)))) :
    ∀ (d i : Nat) (f : Nat → Nat → Bool) (g : Nat → Nat → Bool), d = kids.length - i → i ≤ kids.length → (∀ p q, p < s.size + 1 → q < s.size + 1 → (g p q = true ↔ ∃ m, m < s.size + 1 ∧ f p m = true ∧ seqM (bN s) s.size (reL (kids.drop i)) m q)) →
      Ev (fun k => colloquyref03_Table.l1 k s (tb (s.size + 1) f) (i : Int) 2 rs kids) (tb (s.size + 1) g) := by
  intro d
  induction d with
  | zero =>
    intro i f g hd hi hg
    obtain rfl : i = kids.length := by omega
    refine Ev.succ ((Ev.ret _).congr fun k => ?_)
    rw [colloquyref03_Table.l1, if_neg (by omega)]
    congr 1
    refine tb_congr fun p q hp hq => ?_
    rw [Bool.eq_iff_iff, hg p q hp hq, List.drop_length]
    simp only [reL, seqM]
    exact ⟨fun c => ⟨q, hq, c, rfl⟩, fun ⟨m, _, c, e⟩ => by rw [← e]; exact c⟩
  | succ d hd =>
    intro i f g hdi hi hg
    have hil : i < kids.length := by omega
    unfold lenMax at hl
    have hk := ih kids[i] (List.getElem_mem _)
    have hn := hd (i + 1) (fun p q => ex (s.size + 1) fun k => f p k && M s (re kids[i]) k q) g (by omega) (by omega) (fun p q hp hq => by
      rw [hg p q hp hq, reL_drop kids i hil]
      simp only [seqM]
      constructor
      · rintro ⟨m, h1, h2, m2, h3, h4⟩
        have hm2 := mt_in h3 (by omega)
        exact ⟨m2, by omega, (ex_iff _ _).2 ⟨m, h1, by rw [Bool.and_eq_true]; exact ⟨h2, (M_iff _ _ _ _).2 h3⟩⟩, h4⟩
      · rintro ⟨m2, h1, h2, h4⟩
        obtain ⟨m, h5, h6⟩ := (ex_iff _ _).1 h2
        rw [Bool.and_eq_true] at h6
        exact ⟨m, h5, h6.1, m2, (M_iff _ _ _ _).1 h6.2, h4⟩)
    refine Ev.succ ?_
    refine Ev.congr (f := fun k => (colloquyref03_Table.f k kids[i].f0 kids[i].f1 kids[i].f2 s).bind fun t => (colloquyref03_both.f k (tb (s.size + 1) f) t).bind fun t2 => colloquyref03_Table.l1 k s t2 ((i + 1 : Nat) : Int) 2 rs kids) (Ev.bind hk (Ev.bind (both_ev (s.size + 1) hs f _) hn)) (fun k => ?_)
    rw [colloquyref03_Table.l1, if_pos (by omega), if_pos (by omega), rdT kids i hil, w64 (z := (i : Int) + 1) (by omega) (by omega)]
    rfl

theorem alt_ev (rs : List Rg) (kids : List Nd) (hl : kids.length ≤ lenMax) (ih : ∀ y, y ∈ kids → Ev (fun k => colloquyref03_Table.f k y.f0 y.f1 y.f2 s) (tb (s.size + 1) (M s (re y)))) :
    ∀ (d i : Nat) (f : Nat → Nat → Bool) (g : Nat → Nat → Bool), d = kids.length - i → i ≤ kids.length → (∀ p q, p < s.size + 1 → q < s.size + 1 → (g p q = true ↔ f p q = true ∨ anyM (bN s) s.size (reL (kids.drop i)) p q)) →
      Ev (fun k => colloquyref03_Table.l1 k s (tb (s.size + 1) f) (i : Int) 3 rs kids) (tb (s.size + 1) g) := by
  intro d
  induction d with
  | zero =>
    intro i f g hd hi hg
    obtain rfl : i = kids.length := by omega
    refine Ev.succ ((Ev.ret _).congr fun k => ?_)
    rw [colloquyref03_Table.l1, if_neg (by omega)]
    congr 1
    refine tb_congr fun p q hp hq => ?_
    rw [Bool.eq_iff_iff, hg p q hp hq, List.drop_length]
    simp only [reL, anyM, or_false]
  | succ d hd =>
    intro i f g hdi hi hg
    have hil : i < kids.length := by omega
    unfold lenMax at hl
    have hk := ih kids[i] (List.getElem_mem _)
    have hn := hd (i + 1) (fun p q => f p q || M s (re kids[i]) p q) g (by omega) (by omega) (fun p q hp hq => by
      rw [hg p q hp hq, reL_drop kids i hil, Bool.or_eq_true, M_iff]
      simp only [anyM]
      exact or_assoc.symm)
    refine Ev.succ ?_
    refine Ev.congr (f := fun k => (colloquyref03_Table.f k kids[i].f0 kids[i].f1 kids[i].f2 s).bind fun t => (colloquyref03_either.f k (tb (s.size + 1) f) t).bind fun t2 => colloquyref03_Table.l1 k s t2 ((i + 1 : Nat) : Int) 3 rs kids) (Ev.bind hk (Ev.bind (either_ev (s.size + 1) hs f _) hn)) (fun k => ?_)
    rw [colloquyref03_Table.l1, if_pos (by omega), if_pos (by omega), rdT kids i hil, w64 (z := (i : Int) + 1) (by omega) (by omega)]
    rfl

theorem table_ev : ∀ (N : Nat) (x : Nd), sz x ≤ N → rightT x → okT x → lenT x → Ev (fun k => colloquyref03_Table.f k x.f0 x.f1 x.f2 s) (tb (s.size + 1) (M s (re x))) := by
  intro N
  induction N with
  | zero => intro x hx; have := sz_pos x; omega
  | succ N ihN =>
    intro x hx hr ho hl
    obtain ⟨k0, rs, kids⟩ := x
    simp only [sz] at hx
    simp only [rightT] at hr
    simp only [okT] at ho
    simp only [lenT] at hl
    have ih : ∀ y, y ∈ kids → Ev (fun k => colloquyref03_Table.f k y.f0 y.f1 y.f2 s) (tb (s.size + 1) (M s (re y))) := fun y hy => ihN y (by have := szL_mem y hy; omega) (rightL_mem hr.2.2 y hy) (okL_mem ho.2.2 y hy) (lenL_mem hl.2.2 y hy)
    have hnone := none_ev (s.size + 1) hs
    have hsame := same_ev (s.size + 1) hs
    have hsw := size_w s hs
    refine Ev.succ ?_
    have hk : k0 = 1 ∨ k0 = 2 ∨ k0 = 3 ∨ k0 = 4 ∨ k0 = 5 ∨ k0 = 6 := by have := hr.1; omega
    rcases hk with rfl | rfl | rfl | hk
    · have e : re ⟨1, rs, kids⟩ = .set (inR rs) := by simp [re]
      rw [e]
      have := set_ev s hs 1 rs kids hl.1 ho.2.1 s.size 0 (fun _ _ => false) (by omega) (Nat.zero_le _) (fun p q => ⟨fun c => (by cases c), fun c => (by omega)⟩)
      refine (Ev.bind (g := fun k t => colloquyref03_Table.l0 k s t 0 1 rs kids) hnone this).congr fun k => ?_
      simp only [colloquyref03_Table.f]
      rw [if_pos (by trivial), hsw]
    · have e : re ⟨2, rs, kids⟩ = .cat (reL kids) := by simp [re]
      rw [e]
      have := cat_ev s hs rs kids hl.2.1 ih kids.length 0 (fun i j => decide (i = j)) (M s (.cat (reL kids))) (by omega) (Nat.zero_le _) (fun p q hp hq => by
        rw [M_iff, List.drop_zero]
        simp only [Re.mt, decide_eq_true_eq]
        exact ⟨fun c => ⟨p, hp, rfl, c⟩, fun ⟨m, _, e, c⟩ => by rw [e]; exact c⟩)
      have h1 : Ev (fun k => colloquyref03_Table.j2 k s (tb (s.size + 1) fun i j => decide (i = j)) 2 rs kids) (tb (s.size + 1) (M s (.cat (reL kids)))) := Ev.succ (this.congr fun k => by simp only [colloquyref03_Table.j2]; rfl)
      have h2 : Ev (fun k => colloquyref03_Table.j1 k s true 2 rs kids) (tb (s.size + 1) (M s (.cat (reL kids)))) := by
        refine Ev.succ ((Ev.bind (g := fun k t => (colloquyref03_same.f k ((s.size + 1 : Nat) : Int)).bind fun t2 => colloquyref03_Table.j2 k s t2 2 rs kids) hnone (Ev.bind (g := fun k t2 => colloquyref03_Table.j2 k s t2 2 rs kids) hsame h1)).congr fun k => ?_)
        simp only [colloquyref03_Table.j1, if_true, hsw]
      exact h2.congr fun k => by simp only [colloquyref03_Table.f]; rw [if_neg (by decide), if_pos (by trivial)]
    · have e : re ⟨3, rs, kids⟩ = .alt (reL kids) := by simp [re]
      rw [e]
      have := alt_ev s hs rs kids hl.2.1 ih kids.length 0 (fun _ _ => false) (M s (.alt (reL kids))) (by omega) (Nat.zero_le _) (fun p q hp hq => by
        rw [M_iff, List.drop_zero]
        simp only [Re.mt]
        exact ⟨fun c => .inr c, fun c => c.elim (fun c => by cases c) id⟩)
      have h1 : Ev (fun k => colloquyref03_Table.j2 k s (tb (s.size + 1) fun _ _ => false) 3 rs kids) (tb (s.size + 1) (M s (.alt (reL kids)))) := Ev.succ (this.congr fun k => by simp only [colloquyref03_Table.j2]; rfl)
      have h2 : Ev (fun k => colloquyref03_Table.j1 k s true 3 rs kids) (tb (s.size + 1) (M s (.alt (reL kids)))) := by
        refine Ev.succ ((Ev.bind (g := fun k t => colloquyref03_Table.j2 k s t 3 rs kids) hnone h1).congr fun k => ?_)
        simp only [colloquyref03_Table.j1, if_true, hsw]
        rfl
      exact h2.congr fun k => by simp only [colloquyref03_Table.f]; rw [if_neg (by decide), if_neg (by decide)]; rfl
    · cases kids with
      | nil => exact (hr.2.1 (by omega) rfl).elim
      | cons y l =>
        have hy := ih y List.mem_cons_self
        have hrd : rd_T25 (y :: l) 0 = y := rfl
        -- what is behind the kid's table
        have back : ∀ (g : Nat → List (List Bool) → Option (List (List Bool))) (r : List (List Bool)), Ev (fun k => g k (tb (s.size + 1) (M s (re y)))) r → (∀ k t, (if k0 = 6 then ((colloquyref03_same.f k (wrap64 ((s.size : Int) + 1))).bind fun t291 => ((colloquyref03_either.f k t t291).bind fun t294 => (some t294))) else (colloquyref03_Table.l2 k s t 0 k0 rs (y :: l))) = g k t) → Ev (fun k => colloquyref03_Table.f (k + 1) k0 rs (y :: l) s) r := by
          intro g r hg he
          have h1 : Ev (fun k => colloquyref03_Table.j4 k s false k0 rs (y :: l)) r := by
            refine Ev.succ ((Ev.bind (g := g) hy hg).congr fun k => ?_)
            simp only [colloquyref03_Table.j4]
            rw [if_neg (by decide), if_pos (by simp only [List.length_cons]; omega), hrd]
            congr 1
            funext t
            exact he k t
          have h2 : Ev (fun k => colloquyref03_Table.j1 k s false k0 rs (y :: l)) r := by
            refine Ev.succ (h1.congr fun k => ?_)
            simp only [colloquyref03_Table.j1]
            rw [if_neg (by decide), if_neg (by omega), if_neg (by omega)]
            have : (((y :: l).length : Int) == 0) = false := by simp; omega
            rw [this]
          refine h2.congr fun k => ?_
          simp only [colloquyref03_Table.f]
          have : (k0 == 3) = false := by simp; omega
          rw [if_neg (by omega), if_neg (by omega), this]
        have hbd : ∀ a b, a < s.size + 1 → M s (re y) a b = true → b < s.size + 1 := fun a b ha hm => by
          have := mt_in ((M_iff _ _ _ _).1 hm) (by omega)
          omega
        have hclo : ∀ a b, Clo (fun a b => M s (re y) a b = true) a b ↔ Clo (Re.mt (bN s) s.size (re y)) a b := fun a b => ⟨fun c => c.mono (fun _ _ h => (M_iff _ _ _ _).1 h), fun c => c.mono (fun _ _ h => (M_iff _ _ _ _).2 h)⟩
        by_cases h6 : k0 = 6
        · subst h6
          have e : re ⟨6, rs, y :: l⟩ = .maybe (re y) := by simp [re, reK]
          rw [e]
          refine back (fun k t => (colloquyref03_same.f k ((s.size + 1 : Nat) : Int)).bind fun t2 => (colloquyref03_either.f k t t2).bind fun t3 => some t3) _ ?_ (fun k t => by rw [if_pos rfl, hsw])
          have := either_ev (s.size + 1) hs (M s (re y)) (fun i j => decide (i = j))
          have e2 : (tb (s.size + 1) fun i j => M s (re y) i j || decide (i = j)) = tb (s.size + 1) (M s (.maybe (re y))) := M_eq fun p q hp hq => by
            rw [Bool.or_eq_true, M_iff, decide_eq_true_eq]
            simp only [Re.mt]
            exact or_comm
          rw [e2] at this
          exact Ev.bind (g := fun k t2 => (colloquyref03_either.f k (tb (s.size + 1) (M s (re y))) t2).bind fun t3 => some t3) hsame (Ev.bind (g := fun k t3 => some t3) this (Ev.ret _))
        · refine back (fun k t => colloquyref03_Table.l2 k s t 0 k0 rs (y :: l)) _ ?_ (fun k t => by rw [if_neg h6])
          refine l2_ev (s.size + 1) hs s k0 rs (y :: l) (M s (re y)) (s.size + 1) 0 (M s (re y)) _ (by omega) (Nat.zero_le _) (fun p q _ _ => (pm_zero _ p q).symm) (fun h' hh' => ?_)
          have hpl : ∀ p q, p < s.size + 1 → q < s.size + 1 → (h' p q = true ↔ ∃ k, Re.mt (bN s) s.size (re y) p k ∧ Clo (Re.mt (bN s) s.size (re y)) k q) := fun p q hp hq => by
            rw [hh' p q hp hq, pm_all _ _ _ _ hbd hp]
            exact ⟨fun ⟨k, a, c⟩ => ⟨k, (M_iff _ _ _ _).1 a, (hclo _ _).1 c⟩, fun ⟨k, a, c⟩ => ⟨k, (M_iff _ _ _ _).2 a, (hclo _ _).2 c⟩⟩
          rcases (show k0 = 4 ∨ k0 = 5 by omega) with rfl | rfl
          · have e : re ⟨4, rs, y :: l⟩ = .star (re y) := by simp [re, reK]
            rw [e]
            have := either_ev (s.size + 1) hs h' (fun i j => decide (i = j))
            have e2 : (tb (s.size + 1) fun i j => h' i j || decide (i = j)) = tb (s.size + 1) (M s (.star (re y))) := M_eq fun p q hp hq => by
              rw [Bool.or_eq_true, hpl p q hp hq, decide_eq_true_eq]
              simp only [Re.mt]
              constructor
              · rintro (⟨k, a, c⟩ | rfl)
                · exact .step a c
                · exact .refl _
              · intro c
                cases c with
                | refl => exact .inr rfl
                | step a c => exact .inl ⟨_, a, c⟩
            rw [e2] at this
            refine (Ev.bind (g := fun k t2 => (colloquyref03_either.f k (tb (s.size + 1) h') t2).bind fun t3 => some t3) hsame (Ev.bind (g := fun k t3 => some t3) this (Ev.ret _))).congr fun k => ?_
            rw [if_pos rfl, hsw]
          · have e : re ⟨5, rs, y :: l⟩ = .plus (re y) := by simp [re, reK]
            rw [e]
            have e2 : tb (s.size + 1) h' = tb (s.size + 1) (M s (.plus (re y))) := M_eq fun p q hp hq => by
              rw [hpl p q hp hq]
              simp only [Re.mt]
            rw [← e2]
            exact (Ev.ret _).congr fun k => by rw [if_neg (by decide)]
end

end Go.Proofs.Ytmhodkkfbbpgaaa.Fac
