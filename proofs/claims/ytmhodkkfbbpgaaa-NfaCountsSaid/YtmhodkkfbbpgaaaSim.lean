/- Plain: going through a text with a machine's states, each with the least place from which it was come to: what is known of the states' list, step by step. No program in sight. -/
import Derived.Test.YtmhodkkfbbpgaaaRe
namespace Go.Proofs.Ytmhodkkfbbpgaaa.Re
set_option linter.unusedVariables false
set_option linter.unusedSimpArgs false

section
variable {b : Nat → Int} {len : Nat}

/-- A step without a byte. -/
def Ep (M : List St) (x y : Int) : Prop := ∃ st, 0 ≤ x ∧ M[x.toNat]? = some st ∧ st.set = none ∧ (y = st.next ∨ y = st.other)

inductive EpsR (M : List St) : Int → Int → Prop
  | refl (x : Int) : EpsR M x x
  | step {x y z : Int} : Ep M x y → EpsR M y z → EpsR M x z

theorem EpsR.snoc {M : List St} {x y z : Int} (h : EpsR M x y) (e : Ep M y z) : EpsR M x z := by
  induction h with
  | refl => exact .step e (.refl _)
  | step a _ ih => exact .step a (ih e)

theorem EpsR.pth {M : List St} {x y : Int} (h : EpsR M x y) (i : Nat) : Pth b len M (fun _ => True) x i y i := by
  induction h with
  | refl => exact .refl _ _
  | step e _ ih =>
    obtain ⟨st, h0, h1, h2, h3⟩ := e
    exact .step trivial ⟨st, h0, h1, .inl ⟨h2, h3, rfl⟩⟩ ih

theorem Pth.le {M : List St} {R : Int → Prop} {x z : Int} {i k : Nat} (h : Pth b len M R x i z k) : i ≤ k := by
  induction h with
  | refl => exact Nat.le_refl _
  | step _ t _ ih =>
    obtain ⟨st, _, _, h⟩ := t
    rcases h with ⟨_, _, e⟩ | ⟨f, _, _, _, _, e⟩ <;> omega

theorem Pth.le_len {M : List St} {R : Int → Prop} {x z : Int} {i k : Nat} (h : Pth b len M R x i z k) (hi : i ≤ len) : k ≤ len := by
  induction h with
  | refl => exact hi
  | step _ t _ ih =>
    obtain ⟨st, _, _, h⟩ := t
    rcases h with ⟨_, _, e⟩ | ⟨f, _, _, _, _, e⟩ <;> exact ih (by omega)

/-- The last byte of a path. -/
theorem Pth.last {M : List St} {x z : Int} {i k : Nat} (h : Pth b len M (fun _ => True) x i z k) :
    (k = i ∧ EpsR M x z) ∨ (∃ m y st f, k = m + 1 ∧ Pth b len M (fun _ => True) x i y m ∧ 0 ≤ y ∧ M[y.toNat]? = some st ∧ st.set = some f ∧ m < len ∧ f (b m) = true ∧ EpsR M st.next z) := by
  induction h with
  | refl => exact .inl ⟨rfl, .refl _⟩
  | @step x i y j z k _ t _ ih =>
    obtain ⟨st, h0, h1, h2⟩ := t
    rcases h2 with ⟨hs, hy, rfl⟩ | ⟨f, hs, hi, hb, rfl, rfl⟩
    · rcases ih with ⟨rfl, e⟩ | ⟨m, y', st', f', rfl, p, rest⟩
      · exact .inl ⟨rfl, .step ⟨st, h0, h1, hs, hy⟩ e⟩
      · exact .inr ⟨m, y', st', f', rfl, .step trivial ⟨st, h0, h1, .inl ⟨hs, hy, rfl⟩⟩ p, rest⟩
    · rcases ih with ⟨rfl, e⟩ | ⟨m, y', st', f', rfl, p, rest⟩
      · exact .inr ⟨i, x, st, f, rfl, .refl _ _, h0, h1, hs, hi, hb, e⟩
      · exact .inr ⟨m, y', st', f', rfl, .step trivial ⟨st, h0, h1, .inr ⟨f, hs, hi, hb, rfl, rfl⟩⟩ p, rest⟩

/-- A path is somewhere at each place. -/
theorem Pth.mid {M : List St} {x z : Int} {i k m : Nat} (h : Pth b len M (fun _ => True) x i z k) (h1 : i ≤ m) (h2 : m ≤ k) : ∃ y, Pth b len M (fun _ => True) x i y m ∧ Pth b len M (fun _ => True) y m z k := by
  induction h with
  | refl => obtain rfl : m = _ := Nat.le_antisymm h2 h1; exact ⟨_, .refl _ _, .refl _ _⟩
  | @step x i y j z k a t p ih =>
    by_cases hm : m = i
    · subst hm; exact ⟨x, .refl _ _, .step a t p⟩
    · have hj : j ≤ m := by
        obtain ⟨st, _, _, h⟩ := t
        rcases h with ⟨_, _, e⟩ | ⟨f, _, _, _, _, e⟩ <;> omega
      obtain ⟨y', p1, p2⟩ := ih hj h2
      exact ⟨y', .step a t p1, p2⟩

theorem EpsR.in_ {M : List St} (hM : ∀ (k : Nat) (st : St), M[k]? = some st → (-1 ≤ st.next ∧ st.next < M.length) ∧ (-1 ≤ st.other ∧ st.other < M.length)) {x y : Int} (h : EpsR M x y) (hx : -1 ≤ x ∧ x < M.length) : -1 ≤ y ∧ y < M.length := by
  induction h with
  | refl => exact hx
  | step e _ ih =>
    obtain ⟨st, h0, h1, _, h2⟩ := e
    have := hM _ _ h1
    exact ih (by rcases h2 with rfl | rfl <;> omega)

/-- From where a state was come to; -1: it wasn't. -/
def fa (F : List Int) (y : Int) : Int := F.getD y.toNat (-1)

theorem fa_set {F : List Int} {x y a : Int} (hx : 0 ≤ x) (hl : x < F.length) (hy : 0 ≤ y) : fa (F.set x.toNat a) y = if y = x then a else fa F y := by
  unfold fa
  rw [List.getD_eq_getElem?_getD, List.getD_eq_getElem?_getD, List.getElem?_set]
  by_cases h : y = x
  · subst h; rw [if_pos rfl, if_pos rfl, if_pos (by omega)]; rfl
  · rw [if_neg (by omega), if_neg h]

structure SetOk (M : List St) (F L : List Int) : Prop where
  len : F.length = M.length
  nd : L.Nodup
  mem : ∀ y, y ∈ L ↔ (0 ≤ y ∧ y < M.length ∧ fa F y ≠ -1)
  nn : ∀ y : Int, 0 ≤ y → y < M.length → fa F y ≠ -1 → 0 ≤ fa F y
  closed : ∀ y : Int, 0 ≤ y → y < M.length → fa F y ≠ -1 → ∀ z, Ep M y z → z = -1 ∨ (fa F z ≠ -1 ∧ fa F z ≤ fa F y)

structure Met (M : List St) (F F' : List Int) (x a : Int) : Prop where
  mono : ∀ y : Int, 0 ≤ y → y < M.length → fa F y ≠ -1 → fa F' y ≠ -1 ∧ fa F' y ≤ fa F y
  snd : ∀ y : Int, 0 ≤ y → y < M.length → fa F' y = fa F y ∨ (fa F' y = a ∧ EpsR M x y)
  reach : ∀ y : Int, 0 ≤ y → y < M.length → EpsR M x y → fa F' y ≠ -1 ∧ fa F' y ≤ a

/-- In the middle of a meeting: todo are states that are still to be met. -/
structure MeetI (M : List St) (F0 F L todo : List Int) (x0 a : Int) : Prop where
  len : F.length = M.length
  nd : L.Nodup
  mem : ∀ y, y ∈ L ↔ (0 ≤ y ∧ y < M.length ∧ fa F y ≠ -1)
  nn : ∀ y : Int, 0 ≤ y → y < M.length → fa F y ≠ -1 → 0 ≤ fa F y
  mono : ∀ y : Int, 0 ≤ y → y < M.length → fa F0 y ≠ -1 → fa F y ≠ -1 ∧ fa F y ≤ fa F0 y
  snd : ∀ y : Int, 0 ≤ y → y < M.length → fa F y = fa F0 y ∨ (fa F y = a ∧ EpsR M x0 y)
  pend : ∀ y : Int, 0 ≤ y → y < M.length → fa F y ≠ -1 → ∀ z, Ep M y z → z = -1 ∨ (fa F z ≠ -1 ∧ fa F z ≤ fa F y) ∨ (fa F y = a ∧ z ∈ todo)
  first : x0 = -1 ∨ (fa F x0 ≠ -1 ∧ fa F x0 ≤ a) ∨ x0 ∈ todo
  todoOk : ∀ z, z ∈ todo → z = -1 ∨ (0 ≤ z ∧ z < M.length ∧ EpsR M x0 z)

theorem meet_start {M : List St} {F L : List Int} {x a : Int} (h : SetOk M F L) (hx : -1 ≤ x ∧ x < M.length) : MeetI M F F L [x] x a where
  len := h.len
  nd := h.nd
  mem := h.mem
  nn := h.nn
  mono := fun y _ _ hy => ⟨hy, Int.le_refl _⟩
  snd := fun y _ _ => .inl rfl
  pend := fun y h0 h1 hy z e => (h.closed y h0 h1 hy z e).imp id .inl
  first := .inr (.inr (by simp))
  todoOk := fun z hz => by
    simp at hz
    subst hz
    by_cases hz : z = -1
    · exact .inl hz
    · exact .inr ⟨by omega, by omega, .refl _⟩

theorem meet_skip {M : List St} {F0 F L T : List Int} {x x0 a : Int} (h : MeetI M F0 F L (T ++ [x]) x0 a) (hx : x = -1 ∨ (fa F x ≠ -1 ∧ fa F x ≤ a)) : MeetI M F0 F L T x0 a where
  len := h.len
  nd := h.nd
  mem := h.mem
  nn := h.nn
  mono := h.mono
  snd := h.snd
  pend := fun y h0 h1 hy z e => by
    rcases h.pend y h0 h1 hy z e with h2 | h2 | ⟨h2, h3⟩
    · exact .inl h2
    · exact .inr (.inl h2)
    · rcases List.mem_append.1 h3 with h3 | h3
      · exact .inr (.inr ⟨h2, h3⟩)
      · simp at h3
        subst h3
        rcases hx with hx | hx
        · exact .inl hx
        · exact .inr (.inl ⟨hx.1, by omega⟩)
  first := by
    rcases h.first with h2 | h2 | h2
    · exact .inl h2
    · exact .inr (.inl h2)
    · rcases List.mem_append.1 h2 with h3 | h3
      · exact .inr (.inr h3)
      · simp at h3
        subst h3
        exact hx.imp id .inl
  todoOk := fun z hz => h.todoOk z (List.mem_append.2 (.inl hz))

theorem meet_take {M : List St} (hM : ∀ (k : Nat) (st : St), M[k]? = some st → (-1 ≤ st.next ∧ st.next < M.length) ∧ (-1 ≤ st.other ∧ st.other < M.length)) {F0 F L T : List Int} {x x0 a : Int} (ha : 0 ≤ a) (h : MeetI M F0 F L (T ++ [x]) x0 a) (hx : x ≠ -1) (hf : fa F x = -1 ∨ a < fa F x) {st : St} (hst : M[x.toNat]? = some st) :
    MeetI M F0 (F.set x.toNat a) (if fa F x = -1 then L ++ [x] else L) (if st.set.isNone then T ++ [st.next, st.other] else T) x0 a := by
  obtain ⟨h0, h1, he⟩ : 0 ≤ x ∧ x < M.length ∧ EpsR M x0 x := by
    rcases h.todoOk x (by simp) with h2 | h2
    · exact (hx h2).elim
    · exact h2
  have hset : ∀ y : Int, 0 ≤ y → fa (F.set x.toNat a) y = if y = x then a else fa F y := fun y hy => fa_set h0 (by rw [h.len]; exact h1) hy
  have hself : fa (F.set x.toNat a) x = a := by rw [hset x h0, if_pos rfl]
  have hT : ∀ z, z ∈ T → z ∈ (if st.set.isNone then T ++ [st.next, st.other] else T) := by
    intro z hz; split
    · exact List.mem_append.2 (.inl hz)
    · exact hz
  constructor
  · simp [h.len]
  · split
    · rename_i e
      refine List.nodup_append.2 ⟨h.nd, by simp, fun y hy z hz => ?_⟩
      simp at hz
      subst hz
      rintro rfl
      exact ((h.mem y).1 hy).2.2 e
    · exact h.nd
  · intro y
    constructor
    · intro hy
      have hy' : y ∈ L ∨ y = x := by
        split at hy
        · rcases List.mem_append.1 hy with hy | hy
          · exact .inl hy
          · simp at hy; exact .inr hy
        · exact .inl hy
      rcases hy' with hy | rfl
      · obtain ⟨a1, a2, a3⟩ := (h.mem y).1 hy
        refine ⟨a1, a2, ?_⟩
        rw [hset y a1]
        split
        · omega
        · exact a3
      · exact ⟨h0, h1, by rw [hself]; omega⟩
    · rintro ⟨a1, a2, a3⟩
      rw [hset y a1] at a3
      by_cases e : y = x
      · subst e
        split
        · exact List.mem_append.2 (.inr (by simp))
        · rename_i e2; exact (h.mem y).2 ⟨a1, a2, e2⟩
      · rw [if_neg e] at a3
        have := (h.mem y).2 ⟨a1, a2, a3⟩
        split
        · exact List.mem_append.2 (.inl this)
        · exact this
  · intro y a1 a2 a3
    rw [hset y a1] at a3 ⊢
    split
    · exact ha
    · rename_i e; rw [if_neg e] at a3; exact h.nn y a1 a2 a3
  · intro y a1 a2 a3
    have := h.mono y a1 a2 a3
    rw [hset y a1]
    split
    · rename_i e
      subst e
      refine ⟨by omega, ?_⟩
      rcases hf with hf | hf
      · exact (this.1 hf).elim
      · omega
    · exact this
  · intro y a1 a2
    rw [hset y a1]
    split
    · rename_i e; subst e; exact .inr ⟨rfl, he⟩
    · exact h.snd y a1 a2
  · intro y a1 a2 a3 z e
    have hz : z = -1 ∨ 0 ≤ z := by
      obtain ⟨st', _, e1, _, e2⟩ := e
      have := hM _ _ e1
      rcases e2 with rfl | rfl <;> omega
    rcases hz with hz | hz0
    · exact .inl hz
    · rw [hset y a1] at a3 ⊢
      rw [hset z hz0]
      by_cases ey : y = x
      · subst ey
        rw [if_pos rfl]
        obtain ⟨st', _, e1, e3, e2⟩ := e
        rw [hst] at e1
        injection e1 with e1
        subst e1
        refine .inr (.inr ⟨rfl, ?_⟩)
        rw [if_pos (by rw [e3]; rfl)]
        refine List.mem_append.2 (.inr ?_)
        rcases e2 with rfl | rfl <;> simp
      · rw [if_neg ey] at a3 ⊢
        rcases h.pend y a1 a2 a3 z e with h2 | h2 | ⟨h2, h3⟩
        · exact .inl h2
        · refine .inr (.inl ?_)
          split
          · rename_i ez
            subst ez
            refine ⟨by omega, ?_⟩
            rcases hf with hf | hf
            · exact (h2.1 hf).elim
            · omega
          · exact h2
        · rcases List.mem_append.1 h3 with h3 | h3
          · exact .inr (.inr ⟨h2, hT z h3⟩)
          · simp at h3
            subst h3
            rw [if_pos rfl]
            exact .inr (.inl ⟨by omega, by omega⟩)
  · rcases h.first with h2 | h2 | h2
    · exact .inl h2
    · refine .inr (.inl ?_)
      by_cases hx0 : 0 ≤ x0
      · rw [hset x0 hx0]
        split
        · omega
        · exact h2
      · exfalso
        have e0 : x0.toNat = 0 := by omega
        -- a first state below 0 is none
        have : EpsR M x0 x := he
        cases this with
        | refl => exact hx0 h0
        | step e _ => obtain ⟨_, q, _⟩ := e; exact hx0 q
    · rcases List.mem_append.1 h2 with h3 | h3
      · exact .inr (.inr (hT _ h3))
      · simp at h3
        subst h3
        exact .inr (.inl ⟨by rw [hself]; omega, by rw [hself]; omega⟩)
  · intro z hz
    split at hz
    · rename_i e
      rcases List.mem_append.1 hz with hz | hz
      · exact h.todoOk z (List.mem_append.2 (.inl hz))
      · have hn := hM _ _ hst
        have hep : ∀ y, (y = st.next ∨ y = st.other) → EpsR M x0 y := fun y hy => he.snoc ⟨st, h0, hst, by simpa using e, hy⟩
        simp at hz
        by_cases hz1 : z = -1
        · exact .inl hz1
        · exact .inr ⟨by rcases hz with rfl | rfl <;> omega, by rcases hz with rfl | rfl <;> omega, hep z hz⟩
    · exact h.todoOk z (List.mem_append.2 (.inl hz))

theorem meet_done {M : List St} (hM : ∀ (k : Nat) (st : St), M[k]? = some st → (-1 ≤ st.next ∧ st.next < M.length) ∧ (-1 ≤ st.other ∧ st.other < M.length)) {F0 F L : List Int} {x0 a : Int} (h : MeetI M F0 F L [] x0 a) (hx0 : -1 ≤ x0 ∧ x0 < M.length) : SetOk M F L ∧ Met M F0 F x0 a := by
  have hcl : ∀ y : Int, 0 ≤ y → y < M.length → fa F y ≠ -1 → ∀ z, Ep M y z → z = -1 ∨ (fa F z ≠ -1 ∧ fa F z ≤ fa F y) := by
    intro y a1 a2 a3 z e
    rcases h.pend y a1 a2 a3 z e with h2 | h2 | ⟨_, h3⟩
    · exact .inl h2
    · exact .inr h2
    · simp at h3
  refine ⟨⟨h.len, h.nd, h.mem, h.nn, hcl⟩, ⟨h.mono, h.snd, ?_⟩⟩
  have key : ∀ x y, EpsR M x y → (-1 ≤ x ∧ x < M.length) → 0 ≤ y → (x = -1 ∨ (fa F x ≠ -1 ∧ fa F x ≤ a)) → fa F y ≠ -1 ∧ fa F y ≤ a := by
    intro x y e
    induction e with
    | refl => intro _ h0 h1; rcases h1 with h1 | h1; · omega
              · exact h1
    | step e _ ih =>
      intro hx hy h1
      obtain ⟨st, e0, e1, e2, e3⟩ := e
      have hn := hM _ _ e1
      rcases h1 with h1 | h1
      · omega
      · refine ih (by rcases e3 with rfl | rfl <;> omega) hy ?_
        rcases hcl _ e0 hx.2 h1.1 _ ⟨st, e0, e1, e2, e3⟩ with h2 | h2
        · exact .inl h2
        · exact .inr ⟨h2.1, by omega⟩
  intro y a1 _ e
  refine key x0 y e hx0 a1 ?_
  rcases h.first with h2 | h2 | h2
  · exact .inl h2
  · exact .inr h2
  · simp at h2

/-- How many states a meeting may still take. -/
def cnt (F : List Int) (a : Int) : Nat := F.countP (fun v => decide (v = -1 ∨ a < v))

theorem cnt_set {F : List Int} {a : Int} {k : Nat} (hk : k < F.length) (ha : 0 ≤ a) (hf : F.getD k (-1) = -1 ∨ a < F.getD k (-1)) : cnt (F.set k a) a + 1 = cnt F a := by
  induction F generalizing k with
  | nil => simp at hk
  | cons v F ih =>
    unfold cnt at *
    cases k with
    | zero =>
      simp only [List.getD_cons_zero] at hf
      simp only [List.set_cons_zero, List.countP_cons]
      have h1 : decide (v = -1 ∨ a < v) = true := by simpa using hf
      have h2 : decide (a = -1 ∨ a < a) = false := by simp; omega
      rw [h1, h2]
      simp
    | succ k =>
      simp only [List.getD_cons_succ] at hf
      simp only [List.set_cons_succ, List.countP_cons]
      have := ih (k := k) (by simpa using hk) hf
      omega

theorem cnt_le (F : List Int) (a : Int) : cnt F a ≤ F.length := List.countP_le_length

/-- Which places a piece may begin at. -/
def Al (anyw : Bool) (at0 a : Nat) : Prop := at0 ≤ a ∧ (anyw = false → a = at0)

/-- The best piece that ends ahead of a place. -/
def Best (b : Nat → Int) (len : Nat) (r : Re) (anyw : Bool) (at0 i : Nat) (ok : Bool) (frm to : Int) : Prop :=
  (ok = false → ∀ a j, Al anyw at0 a → j < i → ¬ mt b len r a j) ∧
  (ok = true → ∃ f t : Nat, frm = f ∧ to = t ∧ Al anyw at0 f ∧ t < i ∧ mt b len r f t ∧ ∀ a j, Al anyw at0 a → j < i → mt b len r a j → f < a ∨ (f = a ∧ j ≤ t))

structure RunI (b : Nat → Int) (len : Nat) (r : Re) (anyw : Bool) (at0 i : Nat) (F L : List Int) (ok : Bool) (frm : Int) : Prop where
  set : SetOk (mac r) F L
  snd : ∀ y : Int, 0 ≤ y → y < (mac r).length → fa F y ≠ -1 → ∃ a : Nat, fa F y = a ∧ Al anyw at0 a ∧ a ≤ i ∧ Rch b len r (start r) a y i
  cmp : ∀ a : Nat, Al anyw at0 a → a ≤ i → (ok = true → (a : Int) ≤ frm) → ∀ y : Int, 0 ≤ y → y < (mac r).length → Rch b len r (start r) a y i → fa F y ≠ -1 ∧ fa F y ≤ a

theorem mac_pos (r : Re) : 0 < (mac r).length := (List.getElem?_eq_some_iff.1 (mac_zero r)).1

/-- At a place: is the end met? -/
theorem run_check {r : Re} {anyw : Bool} {at0 i : Nat} {F L : List Int} {ok : Bool} {frm to : Int} (h : RunI b len r anyw at0 i F L ok frm) (hb : Best b len r anyw at0 i ok frm to) :
    (fa F 0 ≠ -1 → (ok = false ∨ fa F 0 ≤ frm) → RunI b len r anyw at0 i F L true (fa F 0) ∧ Best b len r anyw at0 (i + 1) true (fa F 0) i) ∧
    (¬ (fa F 0 ≠ -1 ∧ (ok = false ∨ fa F 0 ≤ frm)) → Best b len r anyw at0 (i + 1) ok frm to) := by
  have hp := mac_pos r
  have hin : ∀ a, Al anyw at0 a → mt b len r a i → a ≤ i := fun a _ hm => ((reach_mt r a i).2 hm).le
  constructor
  · intro h0 h1
    obtain ⟨a, e, ha, hai, hr⟩ := h.snd 0 (by omega) (by omega) h0
    have hmt := (reach_mt r a i).1 hr
    refine ⟨⟨h.set, h.snd, fun a' ha' hle hrel => h.cmp a' ha' hle fun hok => ?_⟩, ⟨(fun e => by cases e), fun _ => ⟨a, i, e, rfl, ha, by omega, hmt, ?_⟩⟩⟩
    · have := hrel rfl
      rcases h1 with h1 | h1
      · rw [hok] at h1; cases h1
      · omega
    · intro a' j ha' hj hm
      by_cases hji : j = i
      · subst hji
        by_cases hrel : ok = true → (a' : Int) ≤ frm
        · have := (h.cmp a' ha' (hin a' ha' hm) hrel 0 (by omega) (by omega) ((reach_mt r a' j).2 hm)).2
          omega
        · have hok : ok = true := by
            by_cases q : ok = true
            · exact q
            · exact (hrel fun c => (q c).elim).elim
          have : ¬ (a' : Int) ≤ frm := fun c => hrel fun _ => c
          rcases h1 with h1 | h1
          · rw [hok] at h1; cases h1
          · omega
      · cases hok : ok with
        | false => exact (hb.1 hok a' j ha' (by omega) hm).elim
        | true =>
          obtain ⟨f, t, ef, et, hf, ht, hft, hbest⟩ := hb.2 hok
          rcases h1 with h1 | h1
          · rw [hok] at h1; cases h1
          · rcases hbest a' j ha' (by omega) hm with h2 | ⟨h2, h3⟩ <;> omega
  · intro hno
    refine ⟨fun hok a j ha hj hm => ?_, fun hok => ?_⟩
    · by_cases hji : j = i
      · subst hji
        have := h.cmp a ha (hin a ha hm) (fun c => by rw [hok] at c; cases c) 0 (by omega) (by omega) ((reach_mt r a j).2 hm)
        exact hno ⟨this.1, .inl hok⟩
      · exact hb.1 hok a j ha (by omega) hm
    · obtain ⟨f, t, ef, et, hf, ht, hft, hbest⟩ := hb.2 hok
      refine ⟨f, t, ef, et, hf, by omega, hft, fun a j ha hj hm => ?_⟩
      by_cases hji : j = i
      · subst hji
        by_cases hrel : (a : Int) ≤ frm
        · have := h.cmp a ha (hin a ha hm) (fun _ => hrel) 0 (by omega) (by omega) ((reach_mt r a j).2 hm)
          exact (hno ⟨this.1, .inr (by omega)⟩).elim
        · exact .inl (by omega)
      · exact hbest a j ha (by omega) hm

/-- It may be over. -/
theorem run_over {r : Re} {anyw : Bool} {at0 i : Nat} {F L : List Int} {ok : Bool} {frm to : Int} (hi : at0 ≤ i) (hil : i ≤ len) (h : RunI b len r anyw at0 i F L ok frm) (hb : Best b len r anyw at0 (i + 1) ok frm to)
    (hov : i = len ∨ (L = [] ∧ (ok = true ∨ anyw = false))) : Best b len r anyw at0 (len + 1) ok frm to := by
  rcases hov with rfl | ⟨hL, hov⟩
  · exact hb
  · subst hL
    have hnone : ∀ y : Int, 0 ≤ y → y < (mac r).length → fa F y = -1 := by
      intro y a1 a2
      by_cases e : fa F y = -1
      · exact e
      · have := (h.set.mem y).2 ⟨a1, a2, e⟩
        simp at this
    have key : ∀ a j, Al anyw at0 a → i < j → mt b len r a j → (ok = true → (a : Int) ≤ frm) → a ≤ i → False := by
      intro a j ha hj hm hrel hai
      obtain ⟨y, p1, p2⟩ := ((reach_mt r a j).2 hm).mid hai (by omega : i ≤ j)
      have hy : 0 ≤ y ∧ y < (mac r).length := by
        cases p2 with
        | refl => omega
        | step _ t _ =>
          obtain ⟨st, h0, h1, _⟩ := t
          have := (List.getElem?_eq_some_iff.1 h1).1
          omega
      exact (h.cmp a ha hai hrel y hy.1 hy.2 p1).1 (hnone y hy.1 hy.2)
    refine ⟨fun hok a j ha hj hm => ?_, fun hok => ?_⟩
    · by_cases hji : j < i + 1
      · exact hb.1 hok a j ha hji hm
      · have han : anyw = false := by rcases hov with c | c; · rw [hok] at c; cases c
                                      · exact c
        have := ha.2 han
        exact key a j ha (by omega) hm (fun c => by rw [hok] at c; cases c) (by omega)
    · obtain ⟨f, t, ef, et, hf, ht, hft, hbest⟩ := hb.2 hok
      refine ⟨f, t, ef, et, hf, by omega, hft, fun a j ha hj hm => ?_⟩
      by_cases hji : j < i + 1
      · exact hbest a j ha hji hm
      · by_cases hai : a ≤ i
        · by_cases hrel : (a : Int) ≤ frm
          · exact (key a j ha (by omega) hm (fun _ => hrel) hai).elim
          · exact .inl (by omega)
        · have : f ≤ t := ((reach_mt r f t).2 hft).le
          exact .inl (by omega)

/-- On the way to the next place: L1 of the states are done. -/
structure NextI (b : Nat → Int) (len : Nat) (r : Re) (anyw : Bool) (at0 i : Nat) (F : List Int) (ok : Bool) (frm : Int) (L1 F' L' : List Int) : Prop where
  set : SetOk (mac r) F' L'
  snd : ∀ y : Int, 0 ≤ y → y < (mac r).length → fa F' y ≠ -1 → ∃ a : Nat, fa F' y = a ∧ Al anyw at0 a ∧ a ≤ i ∧ Rch b len r (start r) a y (i + 1)
  cmp : ∀ x, x ∈ L1 → ¬ (ok = true ∧ frm < fa F x) → ∀ st f, (mac r)[x.toNat]? = some st → st.set = some f → f (b i) = true → ∀ y : Int, 0 ≤ y → y < (mac r).length → EpsR (mac r) st.next y → fa F' y ≠ -1 ∧ fa F' y ≤ fa F x

theorem next_nil {r : Re} {anyw : Bool} {at0 i : Nat} {F : List Int} {ok : Bool} {frm : Int} {F' : List Int} (hl : F'.length = (mac r).length) (hF : ∀ y : Int, 0 ≤ y → y < (mac r).length → fa F' y = -1) : NextI b len r anyw at0 i F ok frm [] F' [] where
  set := ⟨hl, List.nodup_nil, fun y => ⟨fun h => by simp at h, fun h => (h.2.2 (hF y h.1 h.2.1)).elim⟩, fun y a1 a2 a3 => (a3 (hF y a1 a2)).elim, fun y a1 a2 a3 => (a3 (hF y a1 a2)).elim⟩
  snd := fun y a1 a2 a3 => (a3 (hF y a1 a2)).elim
  cmp := fun x hx => by simp at hx

theorem next_skip {r : Re} {anyw : Bool} {at0 i : Nat} {F : List Int} {ok : Bool} {frm : Int} {L1 F' L' : List Int} {x : Int} {st : St} (h : NextI b len r anyw at0 i F ok frm L1 F' L') (hst : (mac r)[x.toNat]? = some st)
    (hs : st.set = none ∨ (ok = true ∧ frm < fa F x) ∨ ∃ f, st.set = some f ∧ f (b i) = false) : NextI b len r anyw at0 i F ok frm (L1 ++ [x]) F' L' where
  set := h.set
  snd := h.snd
  cmp := fun x' hx' hns st' f hst' hf hb => by
    rcases List.mem_append.1 hx' with hx' | hx'
    · exact h.cmp x' hx' hns st' f hst' hf hb
    · simp at hx'
      subst hx'
      rw [hst] at hst'
      injection hst' with hst'
      subst hst'
      rcases hs with hs | hs | ⟨g, hg, hgb⟩
      · rw [hs] at hf; cases hf
      · exact (hns hs).elim
      · rw [hg] at hf; injection hf with hf; subst hf; rw [hb] at hgb; cases hgb

theorem next_meet {r : Re} {anyw : Bool} {at0 i : Nat} {F L : List Int} {ok : Bool} {frm frm0 : Int} {ok0 : Bool} {L1 F' L' F'' L'' : List Int} {x : Int} {st : St} {f : Int → Bool} (hi : i < len) (hR : RunI b len r anyw at0 i F L ok0 frm0) (hx : x ∈ L) (h : NextI b len r anyw at0 i F ok frm L1 F' L') (hst : (mac r)[x.toNat]? = some st)
    (hf : st.set = some f) (hfb : f (b i) = true) (hs : SetOk (mac r) F'' L'') (hm : Met (mac r) F' F'' st.next (fa F x)) : NextI b len r anyw at0 i F ok frm (L1 ++ [x]) F'' L'' where
  set := hs
  snd := fun y a1 a2 a3 => by
    rcases hm.snd y a1 a2 with e | ⟨e, he⟩
    · rw [e] at a3 ⊢; exact h.snd y a1 a2 a3
    · obtain ⟨c1, c2, c3⟩ := (hR.set.mem x).1 hx
      obtain ⟨a, ea, ha, hai, hr⟩ := hR.snd x c1 c2 c3
      refine ⟨a, by rw [e, ea], ha, hai, hr.trans (.step trivial ⟨st, c1, hst, .inr ⟨f, hf, hi, hfb, rfl, rfl⟩⟩ (he.pth _))⟩
  cmp := fun x' hx' hns st' f' hst' hf' hb y a1 a2 e => by
    rcases List.mem_append.1 hx' with hx' | hx'
    · obtain ⟨q1, q2⟩ := h.cmp x' hx' hns st' f' hst' hf' hb y a1 a2 e
      obtain ⟨q3, q4⟩ := hm.mono y a1 a2 q1
      exact ⟨q3, by omega⟩
    · simp at hx'
      subst hx'
      rw [hst] at hst'
      injection hst' with hst'
      subst hst'
      exact hm.reach y a1 a2 e

/-- The next place is reached. -/
theorem next_run {r : Re} {anyw : Bool} {at0 i : Nat} {F L : List Int} {ok : Bool} {frm : Int} {F' L' F'' L'' : List Int} (hi : at0 ≤ i) (hR : RunI b len r anyw at0 i F L ok frm) (hN : NextI b len r anyw at0 i F ok frm L F' L') (hok : ok = true → frm ≤ i)
    (hlast : (anyw = true ∧ ok = false ∧ SetOk (mac r) F'' L'' ∧ Met (mac r) F' F'' (start r) ((i + 1 : Nat) : Int)) ∨ (¬ (anyw = true ∧ ok = false) ∧ F'' = F' ∧ L'' = L')) : RunI b len r anyw at0 (i + 1) F'' L'' ok frm := by
  have hmono : ∀ y : Int, 0 ≤ y → y < (mac r).length → fa F' y ≠ -1 → fa F'' y ≠ -1 ∧ fa F'' y ≤ fa F' y := by
    rcases hlast with ⟨_, _, _, hm⟩ | ⟨_, rfl, rfl⟩
    · exact hm.mono
    · exact fun y _ _ h => ⟨h, Int.le_refl _⟩
  refine ⟨?_, ?_, ?_⟩
  · rcases hlast with ⟨_, _, hs, _⟩ | ⟨_, rfl, rfl⟩
    · exact hs
    · exact hN.set
  · intro y a1 a2 a3
    rcases hlast with ⟨han, _, _, hm⟩ | ⟨_, rfl, rfl⟩
    · rcases hm.snd y a1 a2 with e | ⟨e, he⟩
      · rw [e] at a3 ⊢
        obtain ⟨a, h1, h2, h3, h4⟩ := hN.snd y a1 a2 a3
        exact ⟨a, h1, h2, by omega, h4⟩
      · exact ⟨i + 1, e, ⟨by omega, fun c => by rw [han] at c; cases c⟩, Nat.le_refl _, he.pth _⟩
    · obtain ⟨a, h1, h2, h3, h4⟩ := hN.snd y a1 a2 a3
      exact ⟨a, h1, h2, by omega, h4⟩
  · intro a ha hai hrel y a1 a2 p
    by_cases hai' : a ≤ i
    · rcases p.last with ⟨e, _⟩ | ⟨m, x, st, f, em, p1, x0, x1, x2, x3, x4, x5⟩
      · omega
      · have hmi : m = i := by omega
        subst hmi
        have hxl : x < (mac r).length := by have := (List.getElem?_eq_some_iff.1 x1).1; omega
        obtain ⟨q1, q2⟩ := hR.cmp a ha hai' hrel x x0 hxl p1
        have hxL := (hR.set.mem x).2 ⟨x0, hxl, q1⟩
        obtain ⟨q3, q4⟩ := hN.cmp x hxL (fun c => by have := hrel c.1; omega) st f x1 x2 x4 y a1 a2 x5
        obtain ⟨q5, q6⟩ := hmono y a1 a2 q3
        exact ⟨q5, by omega⟩
    · have hae : a = i + 1 := by omega
      subst hae
      rcases hlast with ⟨han, hno, _, hm⟩ | ⟨hno, rfl, rfl⟩
      · rcases p.last with ⟨_, e⟩ | ⟨m, x, st, f, em, p1, _⟩
        · exact hm.reach y a1 a2 e
        · have := p1.le; omega
      · exfalso
        by_cases han : anyw = true
        · have hk : ok = true := by
            cases ok with
            | true => rfl
            | false => exact (hno ⟨han, rfl⟩).elim
          have := hrel hk
          have := hok hk
          omega
        · have := ha.2 (by simpa using han)
          omega

/-- At the beginning. -/
theorem run_start {r : Re} {anyw : Bool} {at0 : Nat} {F0 F L : List Int} (hF : ∀ y : Int, 0 ≤ y → y < (mac r).length → fa F0 y = -1) (hs : SetOk (mac r) F L) (hm : Met (mac r) F0 F (start r) at0) :
    RunI b len r anyw at0 at0 F L false 0 ∧ (Best b len r anyw at0 at0 false 0 0) := by
  refine ⟨⟨hs, fun y a1 a2 a3 => ?_, fun a ha hle _ y a1 a2 p => ?_⟩, ⟨fun _ a j ha hj hm => ?_, fun c => by cases c⟩⟩
  · rcases hm.snd y a1 a2 with e | ⟨e, he⟩
    · rw [e, hF y a1 a2] at a3; exact (a3 rfl).elim
    · exact ⟨at0, e, ⟨Nat.le_refl _, fun _ => rfl⟩, Nat.le_refl _, he.pth _⟩
  · have hae : a = at0 := by have := ha.1; omega
    subst hae
    rcases p.last with ⟨_, e⟩ | ⟨m, x, st, f, em, p1, _⟩
    · exact hm.reach y a1 a2 e
    · have := p1.le; omega
  · have := ((reach_mt r a j).2 hm).le
    have := ha.1
    omega
end
end Go.Proofs.Ytmhodkkfbbpgaaa.Re
