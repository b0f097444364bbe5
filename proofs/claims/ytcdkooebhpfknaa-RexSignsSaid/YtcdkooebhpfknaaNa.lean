/- RexJoins: what its walk leans on. -/
import Derived.Test.YtcdkooebhpfknaaMj
import Derived.Test.YtcdkooebhpfknaaNw
namespace Go.Proofs.Ytcdkooebhpfknaa.Rx
open Go.RowKit Go.Proofs.YtcdkooebhpfknaaW.PrintWords Go.Proofs.YtcdkooebhpfknaaW.PrintLast Go.Proofs.YtcdkooebhpfknaaW.PrintMore Go.Proofs.Ytcdkooebhpfknaa.PRx
set_option linter.unusedVariables false
set_option linter.unusedSimpArgs false

theorem parts_len : ∀ (n : Nat) (xs : List Int), xs.length ≤ n → ∀ (P K ps : List S26) (r : List Int), partsR P K xs = .ok ps r → ps.length ≤ P.length + xs.length + 1
  | n, [], hn, P, K, ps, r, h => by
    rw [parts_nil] at h
    injection h with a b
    subst a
    simp
  | 0, c :: xs, hn, P, K, ps, r, h => by simp at hn
  | n + 1, c :: xs, hn, P, K, ps, r, h => by
    simp only [List.length_cons] at hn
    by_cases h1 : c = 124
    · subst h1
      rw [parts_bar] at h
      have := parts_len n xs (by omega) _ _ _ _ h
      simp only [List.length_append, List.length_cons, List.length_nil] at this ⊢
      omega
    · by_cases h2 : c = 41
      · subst h2
        rw [parts_end] at h
        injection h with a b
        subst a
        simp
      · rw [parts_piece _ _ _ _ h1 h2] at h
        obtain ⟨t, r1, e1, h⟩ := bind_ok h
        have hs := piece_shrinks e1
        simp only [List.length_cons] at hs
        have := parts_len n r1 (by omega) _ _ _ _ h
        simp only [List.length_cons]
        omega
theorem parts_last : ∀ (n : Nat) (xs : List Int), xs.length ≤ n → ∀ (P K ps : List S26) (r : List Int), partsR P K xs = .ok ps r → ∃ P' K', ps = P' ++ [catN K']
  | n, [], hn, P, K, ps, r, h => by
    rw [parts_nil] at h
    injection h with a b
    exact ⟨P, K, a.symm⟩
  | 0, c :: xs, hn, P, K, ps, r, h => by simp at hn
  | n + 1, c :: xs, hn, P, K, ps, r, h => by
    simp only [List.length_cons] at hn
    by_cases h1 : c = 124
    · subst h1
      rw [parts_bar] at h
      exact parts_last n xs (by omega) _ _ _ _ h
    · by_cases h2 : c = 41
      · subst h2
        rw [parts_end] at h
        injection h with a b
        exact ⟨P, K, a.symm⟩
      · rw [parts_piece _ _ _ _ h1 h2] at h
        obtain ⟨t, r1, e1, h⟩ := bind_ok h
        have hs := piece_shrinks e1
        simp only [List.length_cons] at hs
        exact parts_last n r1 (by omega) _ _ _ _ h
theorem alt_cases {xs : List Int} {t : S26} {r : List Int} (h : altR xs = .ok t r) : (partsOf t).length ≤ xs.length + 1 ∧ (t.f0 = 3 ∨ t.f0 = 2) := by
  obtain ⟨ps, r2, e, h⟩ := bind_ok h
  injection h with a b
  have hl := parts_len _ _ (Nat.le_refl _) _ _ _ _ e
  have hne : ∃ P K, ps = P ++ [catN K] := by
    exact parts_last _ _ (Nat.le_refl _) _ _ _ _ e
  obtain ⟨P, K, rfl⟩ := hne
  subst a
  rw [partsOf_mk]
  refine ⟨by simpa using hl, ?_⟩
  cases P with
  | nil => right; rfl
  | cons x P =>
    left
    unfold mkAlt
    rw [if_neg (by simp)]
/-- A node's rows, as they lie below a world's end. -/
structure Leg (W3 W : World) (B : Nat) (t : S26) (A1 : Option Addr) (n1 c1 : Nat) (A2 : Option Addr) (n2 c2 : Nat) : Prop where
  r1 : Kd.R k37 37 W B (fun k => k < W3.heap.size) (.slice A1 n1 c1) t.f1
  r2 : Kd.R k26 26 W B (fun k => k < W3.heap.size) (.slice A2 n2 c2) t.f2
theorem Leg.of {W3 W : World} {B B' : Nat} {t : S26} {A1 : Option Addr} {n1 c1 : Nat} {A2 : Option Addr} {n2 c2 : Nat} (h1 : Kd.R k37 37 W B (fun _ => True) (.slice A1 n1 c1) t.f1) (h2 : Kd.R k26 26 W B (fun _ => True) (.slice A2 n2 c2) t.f2) (hb : B' ≤ B) (hs : W.heap.size ≤ W3.heap.size) : Leg W3 W B' t A1 n1 c1 A2 n2 c2 :=
  ⟨Kd.R_lower (Kd.R_mono (Kd.R_bound h1) (fun k hk => Nat.lt_of_lt_of_le hk.2.2.1 hs)) hb, Kd.R_lower (Kd.R_mono (Kd.R_bound h2) (fun k hk => Nat.lt_of_lt_of_le hk.2.2.1 hs)) hb⟩
theorem Leg.step {W3 W w1 : World} {B : Nat} {t : S26} {A1 : Option Addr} {n1 c1 : Nat} {A2 : Option Addr} {n2 c2 : Nat} (h : Leg W3 W B t A1 n1 c1 A2 n2 c2) (hb : Below W.heap.size W w1) : Leg W3 w1 B t A1 n1 c1 A2 n2 c2 :=
  ⟨Kd.R_below h.r1 hb, Kd.R_below h.r2 hb⟩
theorem Leg.on {W3 w1 : World} {B : Nat} {t : S26} {A1 : Option Addr} {n1 c1 : Nat} {A2 : Option Addr} {n2 c2 : Nat} (h : Leg W3 W3 B t A1 n1 c1 A2 n2 c2) (hb : Below W3.heap.size W3 w1) : Leg W3 w1 B t A1 n1 c1 A2 n2 c2 := h.step hb
theorem Leg.M {W3 W : World} {B : Nat} {t : S26} {A1 : Option Addr} {n1 c1 : Nat} {A2 : Option Addr} {n2 c2 : Nat} (h : Leg W3 W B t A1 n1 c1 A2 n2 c2) : k26.M W B (fun k => k < W3.heap.size) t [.int .i64 t.f0, .slice A1 n1 c1, .slice A2 n2 c2] :=
  k26_mkM _ _ _ t h.r1 h.r2
theorem Leg.kids {W3 W : World} {B : Nat} {t : S26} {A1 : Option Addr} {n1 c1 : Nat} {A2 : Option Addr} {n2 c2 : Nat} (h : Leg W3 W B t A1 n1 c1 A2 n2 c2) : ReadsRow (k26.M W B (fun k => k < W3.heap.size)) k26.sz W A2 n2 t.f2 := by
  obtain ⟨A, c, e, hl, hr⟩ := h.r2.2.reads
  injection e with e1 e2 e3
  subst e1 e2 e3
  exact ⟨hr.1, hr.2.1, fun hn => by
    obtain ⟨ad, e, hc⟩ := hr.2.2 hn
    refine ⟨ad, e, fun j p hj => ?_⟩
    obtain ⟨cs, h1, h2, h3⟩ := hc j p hj
    exact ⟨cs, h1, Kd.M_mono _ (fun k hk => hk.1) h2, h3⟩⟩
theorem Leg.tc {W3 W : World} {B : Nat} {t : S26} {A1 : Option Addr} {n1 c1 : Nat} {A2 : Option Addr} {n2 c2 : Nat} (h : Leg W3 W B t A1 n1 c1 A2 n2 c2) : TC W (.agg #[.int .i64 t.f0, .slice A1 n1 c1, .slice A2 n2 c2]) t := by
  obtain ⟨rfl, l1, g1⟩ := Kd.R_reads' h.r1
  obtain ⟨rfl, l2, g2⟩ := Kd.R_reads' h.r2
  exact ⟨A1, c1, A2, c2, rfl, l1, g1, l2, g2⟩
theorem Leg.len {W3 W : World} {B : Nat} {t : S26} {A1 : Option Addr} {n1 c1 : Nat} {A2 : Option Addr} {n2 c2 : Nat} (h : Leg W3 W B t A1 n1 c1 A2 n2 c2) : n2 = t.f2.length := (Kd.R_reads' h.r2).1
/-- The parts that are collected, behind W3. -/
structure JI (W3 wr : World) (B : Nat) (o : Obj) (A : Option Addr) (n c : Nat) (ps : List S26) : Prop where
  row : Kd.R k26 26 wr B (fun _ => True) (.slice A n c) ps
  below : Below W3.heap.size W3 wr
  own : ∀ g, (Value.slice A n c).ownBlock = some g → g = W3.heap.size ∨ W3.heap.size + 2 ≤ g
  two : wr.heap[W3.heap.size + 1]? = some o
  base : B ≤ W3.heap.size
theorem JI.size {W3 wr : World} {B : Nat} {o : Obj} {A : Option Addr} {n c : Nat} {ps : List S26} (h : JI W3 wr B o A n c ps) : W3.heap.size + 2 ≤ wr.heap.size := blk_lt h.two
theorem JI.ok {W3 wr : World} {B : Nat} {o : Obj} {A : Option Addr} {n c : Nat} {ps : List S26} (h : JI W3 wr B o A n c ps) : ∀ k, k < W3.heap.size → True ∧ some k ≠ (Value.slice A n c).ownBlock := fun k hk => ⟨trivial, fun he => by
  have := h.own k he.symm
  omega⟩
theorem JI.alloc {W3 wr : World} {B : Nat} {o : Obj} {A : Option Addr} {n c : Nat} {ps : List S26} (h : JI W3 wr B o A n c ps) (x : Obj) : JI W3 (wr.alloc x) B o A n c ps :=
  ⟨Kd.R_alloc h.row x, h.below.alloc (by have := h.size; omega) x, h.own, blk_alloc h.two x, h.base⟩
theorem JI.grown {W3 wr w1 : World} {B : Nat} {o : Obj} {A A' : Option Addr} {n c n' c' : Nat} {ps qs : List S26} (h : JI W3 wr B o A n c ps) (hr : Kd.R k26 26 w1 B (fun _ => True) (.slice A' n' c') qs) (hb : Below B wr w1) (hg : wr.grownBy w1 (Value.slice A n c).ownBlock)
    (hat : (Value.slice A' n' c').ownBlock = (Value.slice A n c).ownBlock ∨ ∃ b, (Value.slice A' n' c').ownBlock = some b ∧ wr.heap.size ≤ b) : JI W3 w1 B o A' n' c' qs := by
  have hs := h.size
  refine ⟨hr, ⟨hb.os.trans h.below.os, hb.tape.trans h.below.tape, hb.output.trans h.below.output, Nat.le_trans h.below.size hb.size, fun k hk => ?_⟩, fun g hg' => ?_, ?_, h.base⟩
  · exact (hg.block k (by omega) (h.ok k hk).2).trans (h.below.block k hk)
  · rcases hat with e | ⟨b, e, hb'⟩
    · exact h.own g (e.symm.trans hg')
    · rw [e] at hg'
      injection hg' with hg'
      right; omega
  · refine (hg.block _ (by omega) (fun e => ?_)).trans h.two
    have := h.own _ e.symm
    omega
theorem two_nodes {W : World} {a b : S26} {ca cb : List Value} (hA : k26.K W a ca) (hB : k26.K W b cb) : Kd.C k26 (W.alloc (.cells (ca ++ cb).toArray 26)) (some ⟨W.heap.size, 0, none⟩) [a, b].length [a, b] := by
  have hl := k26.K_len hA
  have hl2 := k26.K_len hB
  have e3 : k26.sz = 3 := rfl
  have hb := (Below.refl W.heap.size W).alloc (Nat.le_refl _) (.cells (ca ++ cb).toArray 26)
  have hn := blk_new W (.cells (ca ++ cb).toArray 26)
  refine ⟨rfl, by simp, fun _ => ⟨_, rfl, fun j p hj => ?_⟩⟩
  match j, hj with
  | 0, hj =>
    obtain rfl : a = p := by simpa using hj
    refine ⟨ca, hl, k26.K_below hb hA, fun i u hu => ?_⟩
    have := blk_cell hn i
    rw [add_at]
    simp only [Nat.zero_mul, Nat.zero_add]
    refine this.trans ?_
    have hi := (List.getElem?_eq_some_iff.1 hu).1
    simp only [List.getElem?_toArray]
    rw [List.getElem?_append_left hi]
    exact hu
  | 1, hj =>
    obtain rfl : b = p := by simpa using hj
    refine ⟨cb, hl2, k26.K_below hb hB, fun i u hu => ?_⟩
    have := blk_cell hn (3 + i)
    rw [add_at]
    simp only [e3, Nat.one_mul, Nat.zero_add]
    refine this.trans ?_
    simp only [List.getElem?_toArray]
    rw [List.getElem?_append_right (by rw [hl, e3]; omega), hl, e3, Nat.add_sub_cancel_left]
    exact hu
theorem one_node {W : World} {a : S26} {ca : List Value} (hA : k26.K W a ca) : Kd.C k26 (W.alloc (.cells ca.toArray 26)) (some ⟨W.heap.size, 0, none⟩) [a].length [a] := by
  have hb := (Below.refl W.heap.size W).alloc (Nat.le_refl _) (.cells ca.toArray 26)
  have hn := blk_new W (.cells ca.toArray 26)
  refine node_at (k26.K_below hb hA) fun i u hu => ?_
  have := blk_cell hn i
  rw [add_at]
  simp only [Nat.zero_add]
  refine this.trans ?_
  simpa using hu
end Go.Proofs.Ytcdkooebhpfknaa.Rx
