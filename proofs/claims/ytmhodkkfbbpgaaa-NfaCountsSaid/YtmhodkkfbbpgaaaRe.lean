/- Plain: regular trees, what they match, and the machines that are made of them: a path from a machine's first state to its last one is a match. No program in sight. -/
namespace Go.Proofs.Ytmhodkkfbbpgaaa.Re
set_option linter.unusedVariables false
set_option linter.unusedSimpArgs false

/-- What is reached by any number of steps. -/
inductive Clo (R : Nat → Nat → Prop) : Nat → Nat → Prop
  | refl (i : Nat) : Clo R i i
  | step {i m j : Nat} : R i m → Clo R m j → Clo R i j

theorem Clo.trans {R : Nat → Nat → Prop} {i j k : Nat} (h : Clo R i j) (h2 : Clo R j k) : Clo R i k := by
  induction h with
  | refl => exact h2
  | step a _ ih => exact .step a (ih h2)

theorem Clo.mono {R S : Nat → Nat → Prop} (h : ∀ i j, R i j → S i j) {i j : Nat} (c : Clo R i j) : Clo S i j := by
  induction c with
  | refl => exact .refl _
  | step a _ ih => exact .step (h _ _ a) ih

inductive Re where
  | set (f : Int → Bool)
  | cat (l : List Re)
  | alt (l : List Re)
  | star (r : Re)
  | plus (r : Re)
  | maybe (r : Re)

mutual
def mt (b : Nat → Int) (len : Nat) : Re → Nat → Nat → Prop
  | .set f, i, j => i < len ∧ j = i + 1 ∧ f (b i) = true
  | .cat l, i, j => seqM b len l i j
  | .alt l, i, j => anyM b len l i j
  | .star r, i, j => Clo (mt b len r) i j
  | .plus r, i, j => ∃ m, mt b len r i m ∧ Clo (mt b len r) m j
  | .maybe r, i, j => i = j ∨ mt b len r i j
def seqM (b : Nat → Int) (len : Nat) : List Re → Nat → Nat → Prop
  | [], i, j => i = j
  | r :: l, i, j => ∃ m, mt b len r i m ∧ seqM b len l m j
def anyM (b : Nat → Int) (len : Nat) : List Re → Nat → Nat → Prop
  | [], _, _ => False
  | r :: l, i, j => mt b len r i j ∨ anyM b len l i j
end

/-- A state: with a set it goes on by a byte, else at once. -/
structure St where
  set : Option (Int → Bool)
  next : Int
  other : Int

mutual
def bld : Re → Int → List St → List St × Int
  | .set f, to, M => (M ++ [⟨some f, to, -1⟩], M.length)
  | .cat l, to, M => bldC l to M
  | .alt l, to, M => if (bldA l to M).2 = -1 then ((bldA l to M).1 ++ [⟨none, -1, -1⟩], (bldA l to M).1.length) else bldA l to M
  | .maybe r, to, M => ((bld r to M).1 ++ [⟨none, (bld r to M).2, to⟩], (bld r to M).1.length)
  | .star r, to, M => ((bld r M.length (M ++ [⟨none, 0, to⟩])).1.set M.length ⟨none, (bld r M.length (M ++ [⟨none, 0, to⟩])).2, to⟩, M.length)
  | .plus r, to, M => ((bld r M.length (M ++ [⟨none, 0, to⟩])).1.set M.length ⟨none, (bld r M.length (M ++ [⟨none, 0, to⟩])).2, to⟩, (bld r M.length (M ++ [⟨none, 0, to⟩])).2)
def bldC : List Re → Int → List St → List St × Int
  | [], to, M => (M, to)
  | r :: l, to, M => bld r (bldC l to M).2 (bldC l to M).1
def bldA : List Re → Int → List St → List St × Int
  | [], _, M => (M, -1)
  | r :: l, to, M => ((bld r to (bldA l to M).1).1 ++ [⟨none, (bld r to (bldA l to M).1).2, (bldA l to M).2⟩], (bld r to (bldA l to M).1).1.length)
end

section
variable (b : Nat → Int) (len : Nat)

/-- One step of a machine. -/
def Tr (M : List St) (x : Int) (i : Nat) (y : Int) (j : Nat) : Prop :=
  ∃ st, 0 ≤ x ∧ M[x.toNat]? = some st ∧ ((st.set = none ∧ (y = st.next ∨ y = st.other) ∧ j = i) ∨ (∃ f, st.set = some f ∧ i < len ∧ f (b i) = true ∧ y = st.next ∧ j = i + 1))

/-- A path whose states, but for the last one, lie in R. -/
inductive Pth (M : List St) (R : Int → Prop) : Int → Nat → Int → Nat → Prop
  | refl (x : Int) (i : Nat) : Pth M R x i x i
  | step {x : Int} {i : Nat} {y : Int} {j : Nat} {z : Int} {k : Nat} : R x → Tr b len M x i y j → Pth M R y j z k → Pth M R x i z k

def Reg (lo hi : Nat) (x : Int) : Prop := (lo : Int) ≤ x ∧ x < (hi : Int)

variable {b len}

theorem Pth.trans {M : List St} {R : Int → Prop} {x y z : Int} {i j k : Nat} (h : Pth b len M R x i y j) (h2 : Pth b len M R y j z k) : Pth b len M R x i z k := by
  induction h with
  | refl => exact h2
  | step a t _ ih => exact .step a t (ih h2)

theorem Pth.mono {M : List St} {R R' : Int → Prop} (hR : ∀ x, R x → R' x) {x z : Int} {i k : Nat} (h : Pth b len M R x i z k) : Pth b len M R' x i z k := by
  induction h with
  | refl => exact .refl _ _
  | step a t _ ih => exact .step (hR _ a) t ih

theorem Tr.congr {M N : List St} {x : Int} {i : Nat} {y : Int} {j : Nat} (hx : N[x.toNat]? = M[x.toNat]?) (h : Tr b len M x i y j) : Tr b len N x i y j := by
  obtain ⟨st, h0, h1, h2⟩ := h
  exact ⟨st, h0, hx.trans h1, h2⟩

theorem Pth.congr {M N : List St} {R R' : Int → Prop} (hR : ∀ x, R x → R' x ∧ (0 ≤ x → N[x.toNat]? = M[x.toNat]?)) {x z : Int} {i k : Nat} (h : Pth b len M R x i z k) : Pth b len N R' x i z k := by
  induction h with
  | refl => exact .refl _ _
  | step a t _ ih =>
    obtain ⟨r, e⟩ := hR _ a
    exact .step r (t.congr (e t.choose_spec.1)) ih

/-- A path that goes on from a place where none does is over. -/
theorem Pth.over {M : List St} {R : Int → Prop} {x z : Int} {i k : Nat} (h : Pth b len M R x i z k) (hx : ¬ R x) : z = x ∧ k = i := by
  cases h with
  | refl => exact ⟨rfl, rfl⟩
  | step a _ _ => exact (hx a).elim

/-- Out of a part of the machine a path goes by its exit alone. -/
theorem Pth.split {M : List St} {R R' : Int → Prop} {e : Int} (hcl : ∀ x, R x → ∀ i y j, Tr b len M x i y j → R y ∨ y = e ∨ y = -1) {x z : Int} {i k : Nat} (h : Pth b len M R' x i z k)
    (hx : R x ∨ x = e ∨ x = -1) (hz : ¬ R z) (hz1 : z ≠ -1) : ∃ m, Pth b len M R x i e m ∧ Pth b len M R' e m z k := by
  induction h with
  | refl x i =>
    rcases hx with hx | rfl | hx
    · exact (hz hx).elim
    · exact ⟨i, .refl _ _, .refl _ _⟩
    · exact (hz1 hx).elim
  | @step x i y j z k a t p ih =>
    rcases hx with hx | rfl | rfl
    · obtain ⟨m, p1, p2⟩ := ih (hcl x hx i y j t) hz hz1
      exact ⟨m, .step hx t p1, p2⟩
    · exact ⟨i, .refl _ _, .step a t p⟩
    · obtain ⟨st, h0, _⟩ := t
      omega

/-- A part of a machine that was made for what matches. -/
structure Frag (b : Nat → Int) (len : Nat) (M M' : List St) (a to : Int) (P : Nat → Nat → Prop) : Prop where
  len_le : M.length ≤ M'.length
  pre : ∀ k, k < M.length → M'[k]? = M[k]?
  ent : Reg M.length M'.length a ∨ a = to ∨ a = -1
  closed : ∀ k, M.length ≤ k → k < M'.length → ∀ st, M'[k]? = some st → (Reg M.length M'.length st.next ∨ st.next = to ∨ st.next = -1) ∧ (Reg M.length M'.length st.other ∨ st.other = to ∨ st.other = -1)
  mat : ∀ i j, Pth b len M' (Reg M.length M'.length) a i to j ↔ P i j

/-- In a greater machine the part is closed. -/
theorem Frag.cl {M M' N : List St} {a to : Int} {P : Nat → Nat → Prop} (h : Frag b len M M' a to P) (hN : ∀ k, M.length ≤ k → k < M'.length → N[k]? = M'[k]?) :
    ∀ x, Reg M.length M'.length x → ∀ i y j, Tr b len N x i y j → Reg M.length M'.length y ∨ y = to ∨ y = -1 := by
  intro x hx i y j t
  obtain ⟨st, h0, h1, h2⟩ := t
  have hk : M.length ≤ x.toNat ∧ x.toNat < M'.length := by unfold Reg at hx; omega
  rw [hN _ hk.1 hk.2] at h1
  have hc := h.closed x.toNat hk.1 hk.2 st h1
  rcases h2 with ⟨_, rfl | rfl, _⟩ | ⟨f, _, _, _, rfl, _⟩
  · exact hc.1
  · exact hc.2
  · exact hc.1

theorem Frag.mat_in {M M' N : List St} {a to : Int} {P : Nat → Nat → Prop} (h : Frag b len M M' a to P) (hN : ∀ k, M.length ≤ k → k < M'.length → N[k]? = M'[k]?) (i j : Nat) :
    Pth b len N (Reg M.length M'.length) a i to j ↔ P i j := by
  rw [← h.mat]
  constructor
  · exact Pth.congr fun x hx => ⟨hx, fun _ => by unfold Reg at hx; exact (hN _ (by omega) (by omega)).symm⟩
  · exact Pth.congr fun x hx => ⟨hx, fun _ => by unfold Reg at hx; exact hN _ (by omega) (by omega)⟩

theorem get_append_lt {M : List St} {x : St} {k : Nat} (h : k < M.length) : (M ++ [x])[k]? = M[k]? := List.getElem?_append_left h
theorem get_append_at {M : List St} {x : St} : (M ++ [x])[M.length]? = some x := by simp

theorem frag_set (f : Int → Bool) {M : List St} {to : Int} (h0 : 0 ≤ to) (h1 : to < M.length) : Frag b len M (M ++ [⟨some f, to, -1⟩]) M.length to (mt b len (.set f)) := by
  have hl : (M ++ [(⟨some f, to, -1⟩ : St)]).length = M.length + 1 := by simp
  refine ⟨by omega, fun k hk => get_append_lt hk, .inl (by unfold Reg; omega), ?_, ?_⟩
  · intro k hk1 hk2 st hst
    have : k = M.length := by omega
    subst this
    rw [get_append_at] at hst
    injection hst with hst
    subst hst
    exact ⟨.inr (.inl rfl), .inr (.inr rfl)⟩
  · intro i j
    have hto : ¬ Reg M.length (M ++ [(⟨some f, to, -1⟩ : St)]).length to := by unfold Reg; omega
    constructor
    · intro p
      cases p with
      | refl => omega
      | step a t p =>
        obtain ⟨st, _, e1, e2⟩ := t
        rw [Int.toNat_natCast, get_append_at] at e1
        injection e1 with e1
        subst e1
        rcases e2 with ⟨e, _⟩ | ⟨g, hg, hi, hb, rfl, rfl⟩
        · cases e
        · injection hg with hg
          subst hg
          obtain ⟨_, rfl⟩ := p.over hto
          exact ⟨hi, rfl, hb⟩
    · rintro ⟨hi, rfl, hb⟩
      refine .step (by unfold Reg; omega) ⟨⟨some f, to, -1⟩, by omega, by rw [Int.toNat_natCast, get_append_at], .inr ⟨f, rfl, hi, hb, rfl, rfl⟩⟩ (.refl _ _)

/-- One part behind another. -/
theorem frag_cat {M M1 M2 : List St} {to t1 a : Int} {P Q : Nat → Nat → Prop} (h0 : 0 ≤ to) (h1 : to < M.length) (hl : Frag b len M M1 t1 to Q) (hr : Frag b len M1 M2 a t1 P) :
    Frag b len M M2 a to (fun i j => ∃ m, P i m ∧ Q m j) := by
  have l1 := hl.len_le
  have l2 := hr.len_le
  have hN : ∀ k, M.length ≤ k → k < M1.length → M2[k]? = M1[k]? := fun k _ hk => hr.pre k hk
  have sub1 : ∀ x, Reg M.length M1.length x → Reg M.length M2.length x := fun x hx => by unfold Reg at *; omega
  have sub2 : ∀ x, Reg M1.length M2.length x → Reg M.length M2.length x := fun x hx => by unfold Reg at *; omega
  have t1in : Reg M.length M2.length t1 ∨ t1 = to ∨ t1 = -1 := hl.ent.imp (sub1 _) id
  refine ⟨by omega, fun k hk => (hr.pre k (by omega)).trans (hl.pre k hk), ?_, ?_, ?_⟩
  · rcases hr.ent with h | rfl | h
    · exact .inl (sub2 _ h)
    · exact t1in
    · exact .inr (.inr h)
  · intro k hk1 hk2 st hst
    by_cases hk : k < M1.length
    · rw [hN k hk1 hk] at hst
      have := hl.closed k hk1 hk st hst
      exact ⟨this.1.imp (sub1 _) id, this.2.imp (sub1 _) id⟩
    · have := hr.closed k (by omega) hk2 st hst
      have lift : ∀ y, (Reg M1.length M2.length y ∨ y = t1 ∨ y = -1) → (Reg M.length M2.length y ∨ y = to ∨ y = -1) := by
        intro y hy
        rcases hy with h | rfl | h
        · exact .inl (sub2 _ h)
        · exact t1in
        · exact .inr (.inr h)
      exact ⟨lift _ this.1, lift _ this.2⟩
  · intro i j
    have hto : ∀ hi, ¬ Reg M.length hi to := fun hi => by unfold Reg; omega
    constructor
    · intro p
      obtain ⟨m, p1, p2⟩ := p.split (hr.cl (fun _ _ _ => rfl)) hr.ent (by unfold Reg; omega) (by omega)
      obtain ⟨m', p3, p4⟩ := p2.split (hl.cl hN) hl.ent (hto _) (by omega)
      obtain ⟨_, rfl⟩ := p4.over (hto _)
      exact ⟨m, (hr.mat i m).1 p1, (hl.mat_in hN m j).1 p3⟩
    · rintro ⟨m, hp, hq⟩
      exact (((hr.mat i m).2 hp).mono sub2).trans (((hl.mat_in hN m j).2 hq).mono sub1)

theorem frag_nil {M : List St} {to : Int} (_h0 : 0 ≤ to) (h1 : to < M.length) : Frag b len M M to to (fun i j => i = j) := by
  have hto : ¬ Reg M.length M.length to := by unfold Reg; omega
  refine ⟨Nat.le_refl _, fun _ _ => rfl, .inr (.inl rfl), fun k _ _ => by omega, fun i j => ⟨fun p => (p.over hto).2.symm, fun h => by subst h; exact .refl _ _⟩⟩

/-- A fork behind two parts with the same exit. -/
theorem frag_fork {M M1 M2 : List St} {to f1 a : Int} {P Q : Nat → Nat → Prop} (_h0 : 0 ≤ to) (h1 : to < M.length) (hl : Frag b len M M1 f1 to Q) (hr : Frag b len M1 M2 a to P) :
    Frag b len M (M2 ++ [⟨none, a, f1⟩]) M2.length to (fun i j => P i j ∨ Q i j) := by
  have l1 := hl.len_le
  have l2 := hr.len_le
  have hlen : (M2 ++ [(⟨none, a, f1⟩ : St)]).length = M2.length + 1 := by simp
  have hN2 : ∀ k, k < M2.length → (M2 ++ [(⟨none, a, f1⟩ : St)])[k]? = M2[k]? := fun k hk => get_append_lt hk
  have hN1 : ∀ k, M.length ≤ k → k < M1.length → (M2 ++ [(⟨none, a, f1⟩ : St)])[k]? = M1[k]? := fun k _ hk => (hN2 k (by omega)).trans (hr.pre k hk)
  generalize hN : M2 ++ [(⟨none, a, f1⟩ : St)] = N at *
  have hat : N[M2.length]? = some ⟨none, a, f1⟩ := by rw [← hN]; exact get_append_at
  have sub1 : ∀ x, Reg M.length M1.length x → Reg M.length N.length x := fun x hx => by unfold Reg at *; omega
  have sub2 : ∀ x, Reg M1.length M2.length x → Reg M.length N.length x := fun x hx => by unfold Reg at *; omega
  have lift1 : ∀ y, (Reg M.length M1.length y ∨ y = to ∨ y = -1) → (Reg M.length N.length y ∨ y = to ∨ y = -1) := fun y h => h.imp (sub1 _) id
  have lift2 : ∀ y, (Reg M1.length M2.length y ∨ y = to ∨ y = -1) → (Reg M.length N.length y ∨ y = to ∨ y = -1) := fun y h => h.imp (sub2 _) id
  have hto : ¬ Reg M.length N.length to := by unfold Reg; omega
  refine ⟨by omega, fun k hk => (hN2 k (by omega)).trans ((hr.pre k (by omega)).trans (hl.pre k hk)), .inl (by unfold Reg; omega), ?_, ?_⟩
  · intro k hk1 hk2 st hst
    by_cases hk : k < M1.length
    · rw [hN1 k hk1 hk] at hst
      have := hl.closed k hk1 hk st hst
      exact ⟨lift1 _ this.1, lift1 _ this.2⟩
    · by_cases hk' : k < M2.length
      · rw [hN2 k hk'] at hst
        have := hr.closed k (by omega) hk' st hst
        exact ⟨lift2 _ this.1, lift2 _ this.2⟩
      · have : k = M2.length := by omega
        subst this
        rw [hat] at hst
        injection hst with hst
        subst hst
        exact ⟨lift2 _ hr.ent, lift1 _ hl.ent⟩
  · intro i j
    constructor
    · intro p
      cases p with
      | refl => unfold Reg at hto; omega
      | step _ t p =>
        obtain ⟨st, _, e1, e2⟩ := t
        rw [Int.toNat_natCast, hat] at e1
        injection e1 with e1
        subst e1
        rcases e2 with ⟨_, e, rfl⟩ | ⟨g, hg, _⟩
        · rcases e with rfl | rfl
          · obtain ⟨m, p1, p2⟩ := p.split (hr.cl (fun k _ hk => hN2 k hk)) hr.ent (by unfold Reg; omega) (by omega)
            obtain ⟨_, rfl⟩ := p2.over hto
            exact .inl ((hr.mat_in (fun k _ hk => hN2 k hk) _ _).1 p1)
          · obtain ⟨m, p1, p2⟩ := p.split (hl.cl hN1) hl.ent (by unfold Reg; omega) (by omega)
            obtain ⟨_, rfl⟩ := p2.over hto
            exact .inr ((hl.mat_in hN1 _ _).1 p1)
        · cases hg
    · intro h
      rcases h with h | h
      · exact .step (by unfold Reg; omega) ⟨_, by omega, by rw [Int.toNat_natCast]; exact hat, .inl ⟨rfl, .inl rfl, rfl⟩⟩ (((hr.mat_in (fun k _ hk => hN2 k hk) i j).2 h).mono sub2)
      · exact .step (by unfold Reg; omega) ⟨_, by omega, by rw [Int.toNat_natCast]; exact hat, .inl ⟨rfl, .inr rfl, rfl⟩⟩ (((hl.mat_in hN1 i j).2 h).mono sub1)

/-- Nothing. -/
theorem frag_none {M : List St} {to : Int} (h0 : 0 ≤ to) : Frag b len M M (-1) to (fun _ _ => False) := by
  have hm : ¬ Reg M.length M.length (-1) := by unfold Reg; omega
  refine ⟨Nat.le_refl _, fun _ _ => rfl, .inr (.inr rfl), fun k _ _ => by omega, fun i j => ⟨fun p => ?_, fun h => h.elim⟩⟩
  have := (p.over hm).1
  omega

/-- A loop: its state goes on to its body, or out; the body goes back to it. -/
theorem frag_loop {M M1 : List St} {to a : Int} {P : Nat → Nat → Prop} (h0 : 0 ≤ to) (h1 : to < M.length) (hb : Frag b len (M ++ [⟨none, 0, to⟩]) M1 a M.length P) :
    Frag b len M (M1.set M.length ⟨none, a, to⟩) M.length to (Clo P) ∧ Frag b len M (M1.set M.length ⟨none, a, to⟩) a to (fun i j => ∃ m, P i m ∧ Clo P m j) := by
  have hl0 : (M ++ [(⟨none, 0, to⟩ : St)]).length = M.length + 1 := by simp
  have l1 := hb.len_le
  rw [hl0] at l1
  have hat : (M1.set M.length ⟨none, a, to⟩)[M.length]? = some ⟨none, a, to⟩ := by
    rw [List.getElem?_set_self (by omega)]
  have hoth : ∀ k, k ≠ M.length → (M1.set M.length ⟨none, a, to⟩)[k]? = M1[k]? := fun k hk => List.getElem?_set_ne (fun e => hk e.symm)
  have hln : (M1.set M.length ⟨none, a, to⟩).length = M1.length := by simp
  generalize M1.set M.length ⟨none, a, to⟩ = N at *
  have hNb : ∀ k, (M ++ [(⟨none, 0, to⟩ : St)]).length ≤ k → k < M1.length → N[k]? = M1[k]? := fun k hk _ => hoth k (by omega)
  have hto : ¬ Reg M.length N.length to := by unfold Reg; omega
  have sub : ∀ x, Reg (M ++ [(⟨none, 0, to⟩ : St)]).length M1.length x → Reg M.length N.length x := fun x hx => by unfold Reg at *; omega
  have lift : ∀ y, (Reg (M ++ [(⟨none, 0, to⟩ : St)]).length M1.length y ∨ y = (M.length : Int) ∨ y = -1) → (Reg M.length N.length y ∨ y = to ∨ y = -1) := by
    intro y hy
    rcases hy with h | rfl | h
    · exact .inl (sub _ h)
    · exact .inl (by unfold Reg; omega)
    · exact .inr (.inr h)
  have hpre : ∀ k, k < M.length → N[k]? = M[k]? := fun k hk => (hoth k (by omega)).trans ((hb.pre k (by omega)).trans (get_append_lt hk))
  have hcl : ∀ k, M.length ≤ k → k < N.length → ∀ st, N[k]? = some st → (Reg M.length N.length st.next ∨ st.next = to ∨ st.next = -1) ∧ (Reg M.length N.length st.other ∨ st.other = to ∨ st.other = -1) := by
    intro k hk1 hk2 st hst
    by_cases hk : k = M.length
    · subst hk
      rw [hat] at hst
      injection hst with hst
      subst hst
      exact ⟨lift _ hb.ent, .inr (.inl rfl)⟩
    · rw [hoth k hk] at hst
      have := hb.closed k (by omega) (by omega) st hst
      exact ⟨lift _ this.1, lift _ this.2⟩
  have hbcl := hb.cl hNb
  have hm : ∀ i j, Pth b len N (Reg (M ++ [(⟨none, 0, to⟩ : St)]).length M1.length) a i M.length j ↔ P i j := hb.mat_in hNb
  have hloopR : Reg M.length N.length (M.length : Int) := by unfold Reg; omega
  -- from the loop's state
  have key : ∀ x i z k, Pth b len N (Reg M.length N.length) x i z k → z = to → (x = (M.length : Int) → Clo P i k) ∧ (Reg (M ++ [(⟨none, 0, to⟩ : St)]).length M1.length x → ∃ m, Pth b len N (Reg (M ++ [(⟨none, 0, to⟩ : St)]).length M1.length) x i M.length m ∧ Clo P m k) := by
    intro x i z k p
    induction p with
    | refl x i => intro hz; subst hz; exact ⟨fun e => by omega, fun hr => by unfold Reg at hr; omega⟩
    | @step x i y j z k hx t p ih =>
      intro hz
      obtain ⟨ih1, ih2⟩ := ih hz
      constructor
      · intro hxe
        subst hxe
        obtain ⟨st, _, e1, e2⟩ := t
        rw [Int.toNat_natCast, hat] at e1
        injection e1 with e1
        subst e1
        rcases e2 with ⟨_, e, rfl⟩ | ⟨g, hg, _⟩
        · rcases e with rfl | rfl
          · rcases hb.ent with he | he | he
            · obtain ⟨m, p1, c⟩ := ih2 he
              exact .step ((hm _ _).1 p1) c
            · exact ih1 he
            · have hno : ¬ Reg M.length N.length (-1) := by unfold Reg; omega
              rw [he] at p
              have := (p.over hno).1
              omega
          · subst hz
            obtain ⟨_, rfl⟩ := p.over hto
            exact .refl _
        · cases hg
      · intro hxr
        rcases hbcl x hxr i y j t with hy | hy | hy
        · obtain ⟨m, p1, c⟩ := ih2 hy
          exact ⟨m, .step hxr t p1, c⟩
        · subst hy
          exact ⟨j, .step hxr t (.refl _ _), ih1 rfl⟩
        · subst hz
          have hno : ¬ Reg M.length N.length y := by rw [hy]; unfold Reg; omega
          have := (p.over hno).1
          omega
  have out : ∀ i, Tr b len N (M.length : Int) i to i := fun i => ⟨_, by omega, by rw [Int.toNat_natCast]; exact hat, .inl ⟨rfl, .inr rfl, rfl⟩⟩
  have into : ∀ i, Tr b len N (M.length : Int) i a i := fun i => ⟨_, by omega, by rw [Int.toNat_natCast]; exact hat, .inl ⟨rfl, .inl rfl, rfl⟩⟩
  have back : ∀ i j, Clo P i j → Pth b len N (Reg M.length N.length) M.length i to j := by
    intro i j c
    induction c with
    | refl i => exact .step hloopR (out i) (.refl _ _)
    | step hp _ ih => exact .step hloopR (into _) ((((hm _ _).2 hp).mono sub).trans ih)
  refine ⟨⟨by omega, hpre, .inl hloopR, hcl, fun i j => ⟨fun p => (key _ _ _ _ p rfl).1 rfl, back i j⟩⟩, ⟨by omega, hpre, lift _ hb.ent, hcl, fun i j => ⟨fun p => ?_, ?_⟩⟩⟩
  · rcases hb.ent with he | he | he
    · obtain ⟨m, p1, c⟩ := (key _ _ _ _ p rfl).2 he
      exact ⟨m, (hm _ _).1 p1, c⟩
    · have hc := (key _ _ _ _ p rfl).1 he
      exact ⟨i, (hm i i).1 (by rw [he]; exact .refl _ _), hc⟩
    · have hno : ¬ Reg M.length N.length a := by rw [he]; unfold Reg; omega
      have := (p.over hno).1
      omega
  · rintro ⟨m, hp, c⟩
    exact (((hm _ _).2 hp).mono sub).trans (back m j c)

theorem Frag.iff {M M' : List St} {a to : Int} {P Q : Nat → Nat → Prop} (h : Frag b len M M' a to P) (hq : ∀ i j, P i j ↔ Q i j) : Frag b len M M' a to Q :=
  ⟨h.len_le, h.pre, h.ent, h.closed, fun i j => (h.mat i j).trans (hq i j)⟩

mutual
theorem frag (r : Re) (to : Int) (M : List St) (h0 : 0 ≤ to) (h1 : to < M.length) : Frag b len M (bld r to M).1 (bld r to M).2 to (mt b len r) ∧ 0 ≤ (bld r to M).2 :=
  match r with
  | .set f => by simp only [bld]; exact ⟨frag_set f h0 h1, by omega⟩
  | .cat l => by
    have ih := fragC l to M h0 h1
    simp only [bld]
    exact ⟨ih.1.iff fun i j => by simp only [mt], ih.2⟩
  | .alt l => by
    have ih := fragA l to M h0 h1
    simp only [bld]
    split
    · rename_i e
      rw [e] at ih
      have hn := frag_none (b := b) (len := len) (M := (bldA l to M).1) (to := to) h0
      exact ⟨(frag_fork h0 h1 ih hn).iff fun i j => by simp only [mt, false_or], by omega⟩
    · rename_i e
      refine ⟨ih.iff fun i j => by simp only [mt], ?_⟩
      rcases ih.ent with h | h | h
      · unfold Reg at h; omega
      · omega
      · exact (e h).elim
  | .maybe r => by
    simp only [bld]
    have ih := (frag r to M h0 h1).1
    exact ⟨(frag_fork h0 h1 (frag_nil h0 h1) ih).iff fun i j => by simp only [mt]; exact ⟨fun h => h.symm, fun h => h.symm⟩, by omega⟩
  | .star r => by
    simp only [bld]
    have ih := (frag r M.length (M ++ [⟨none, 0, to⟩]) (by omega) (by simp; omega)).1
    exact ⟨(frag_loop h0 h1 ih).1.iff fun i j => by simp only [mt], by omega⟩
  | .plus r => by
    simp only [bld]
    have ih := frag r M.length (M ++ [⟨none, 0, to⟩]) (by omega) (by simp; omega)
    exact ⟨(frag_loop h0 h1 ih.1).2.iff fun i j => by simp only [mt], ih.2⟩
theorem fragC (l : List Re) (to : Int) (M : List St) (h0 : 0 ≤ to) (h1 : to < M.length) : Frag b len M (bldC l to M).1 (bldC l to M).2 to (seqM b len l) ∧ 0 ≤ (bldC l to M).2 :=
  match l with
  | [] => by simp only [bldC]; exact ⟨(frag_nil h0 h1).iff fun i j => by simp only [seqM], h0⟩
  | r :: l => by
    obtain ⟨ih, ih0⟩ := fragC l to M h0 h1
    simp only [bldC]
    have hlt : (bldC l to M).2 < (bldC l to M).1.length := by
      rcases ih.ent with h | h | h
      · unfold Reg at h; omega
      · have := ih.len_le; omega
      · omega
    obtain ⟨ih2, ih3⟩ := frag r (bldC l to M).2 (bldC l to M).1 ih0 hlt
    exact ⟨(frag_cat h0 h1 ih ih2).iff fun i j => by simp only [seqM], ih3⟩
theorem fragA (l : List Re) (to : Int) (M : List St) (h0 : 0 ≤ to) (h1 : to < M.length) : Frag b len M (bldA l to M).1 (bldA l to M).2 to (anyM b len l) :=
  match l with
  | [] => by simp only [bldA]; exact (frag_none h0).iff fun i j => by simp only [anyM]
  | r :: l => by
    have ih := fragA l to M h0 h1
    simp only [bldA]
    have ih2 := (frag r to (bldA l to M).1 h0 (by have := ih.len_le; omega)).1
    exact (frag_fork h0 h1 ih ih2).iff fun i j => by simp only [anyM]
end
end

/-- The whole machine: its first state is the end. -/
def mac (r : Re) : List St := (bld r 0 [⟨none, -1, -1⟩]).1
def start (r : Re) : Int := (bld r 0 [⟨none, -1, -1⟩]).2

section
variable {b : Nat → Int} {len : Nat}
theorem mac_frag (r : Re) : Frag b len [⟨none, -1, -1⟩] (mac r) (start r) 0 (mt b len r) ∧ 0 ≤ start r := frag r 0 [⟨none, -1, -1⟩] (by omega) (by simp)

theorem mac_zero (r : Re) : (mac r)[0]? = some ⟨none, -1, -1⟩ := (mac_frag (b := fun _ => 0) (len := 0) r).1.pre 0 (by simp)

theorem start_lt (r : Re) : 0 ≤ start r ∧ start r < (mac r).length := by
  obtain ⟨h, h0⟩ := mac_frag (b := fun _ => 0) (len := 0) r
  have hl := h.len_le
  refine ⟨h0, ?_⟩
  rcases h.ent with h | h | h
  · unfold Reg at h; omega
  · simp at hl; omega
  · omega

/-- Every state goes on to a state, or to none. -/
theorem mac_closed (r : Re) : ∀ (k : Nat) (st : St), (mac r)[k]? = some st → (-1 ≤ st.next ∧ st.next < (mac r).length) ∧ (-1 ≤ st.other ∧ st.other < (mac r).length) := by
  intro k st hst
  have h := (mac_frag (b := fun _ => 0) (len := 0) r).1
  have hl := h.len_le
  simp only [List.length_cons, List.length_nil] at hl
  have hk : k < (mac r).length := (List.getElem?_eq_some_iff.1 hst).1
  by_cases hk0 : k = 0
  · subst hk0
    rw [mac_zero] at hst
    injection hst with hst
    subst hst
    dsimp only
    omega
  · have := h.closed k (by simp; omega) hk st hst
    simp only [Reg, List.length_cons, List.length_nil] at this
    omega

/-- What is reached in the whole machine. -/
abbrev Rch (b : Nat → Int) (len : Nat) (r : Re) (x : Int) (i : Nat) (y : Int) (j : Nat) : Prop := Pth b len (mac r) (fun _ => True) x i y j

theorem reach_mt (r : Re) (i j : Nat) : Rch b len r (start r) i 0 j ↔ mt b len r i j := by
  obtain ⟨h, h0⟩ := mac_frag (b := b) (len := len) r
  rw [← h.mat]
  constructor
  · intro p
    obtain ⟨m, p1, p2⟩ := p.split (h.cl (fun _ _ _ => rfl)) h.ent (by simp [Reg]) (by omega)
    have key : ∀ x i z k, Pth b len (mac r) (fun _ => True) x i z k → (x = 0 ∨ x = -1) → z = 0 → x = 0 ∧ k = i := by
      intro x i z k p
      induction p with
      | refl => intro hx hz; omega
      | @step x i y j z k _ t _ ih =>
        intro hx hz
        obtain ⟨st, hp, e1, e2⟩ := t
        have hx0 : x = 0 := by omega
        subst hx0
        rw [Int.toNat_zero, mac_zero] at e1
        injection e1 with e1
        subst e1
        rcases e2 with ⟨_, e, rfl⟩ | ⟨g, hg, _⟩
        · have hy : y = -1 := by rcases e with e | e <;> exact e
          have := ih (.inr hy) hz
          omega
        · cases hg
    obtain ⟨_, rfl⟩ := key _ _ _ _ p2 (.inl rfl) rfl
    exact p1
  · exact Pth.mono fun _ _ => trivial
end
end Go.Proofs.Ytmhodkkfbbpgaaa.Re
