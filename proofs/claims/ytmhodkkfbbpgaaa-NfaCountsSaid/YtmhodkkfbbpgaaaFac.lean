/- Plain: what the printed functions over trees yield: depth, count, right, wrong, few, Check. No program in sight. -/
import Derived.Test.YtmhodkkfbbpgaaaTree
import Derived.Test.YtmhodkkfbbpgaaaPNfax1
import Derived.Test.YtmhodkkfbbpgaaaPNfax2
import Derived.IntWalk
namespace Go.Proofs.Ytmhodkkfbbpgaaa.Fac
set_option linter.unusedVariables false
set_option linter.unusedSimpArgs false
open Go.RowKit Go.Proofs.Ytmhodkkfbbpgaaa.PNfa Tree Go.Proofs.YtmhodkkfbbpgaaaW.PrintWords

/-- With enough fuel it yields r. -/
def Ev {α : Type} (f : Nat → Option α) (r : α) : Prop := ∃ k0, ∀ k, k0 ≤ k → f k = some r

theorem Ev.ret {α : Type} (r : α) : Ev (fun _ => some r) r := ⟨0, fun _ _ => rfl⟩
theorem Ev.succ {α : Type} {f : Nat → Option α} {r : α} (h : Ev (fun k => f (k + 1)) r) : Ev f r := by
  obtain ⟨k0, h⟩ := h
  refine ⟨k0 + 1, fun k hk => ?_⟩
  obtain ⟨j, rfl⟩ : ∃ j, k = j + 1 := ⟨k - 1, by omega⟩
  exact h j (by omega)
theorem Ev.bind {α β : Type} {f : Nat → Option α} {g : Nat → α → Option β} {a : α} {r : β} (h : Ev f a) (h2 : Ev (fun k => g k a) r) : Ev (fun k => (f k).bind (g k)) r := by
  obtain ⟨k0, h⟩ := h
  obtain ⟨k1, h2⟩ := h2
  refine ⟨max k0 k1, fun k hk => ?_⟩
  show (f k).bind (g k) = some r
  rw [h k (by omega)]
  exact h2 k (by omega)
theorem Ev.congr {α : Type} {f g : Nat → Option α} {r : α} (h : Ev f r) (e : ∀ k, g k = f k) : Ev g r := by
  obtain ⟨k0, h⟩ := h
  exact ⟨k0, fun k hk => (e k).trans (h k hk)⟩
theorem Ev.get {α : Type} {f : Nat → Option α} {r : α} (h : Ev f r) : ∃ k, f k = some r := by
  obtain ⟨k0, h⟩ := h
  exact ⟨k0, h k0 (Nat.le_refl _)⟩

mutual
def dp : Nd → Nat
  | ⟨_, _, kids⟩ => 1 + dpL kids
def dpL : List Nd → Nat
  | [] => 0
  | x :: l => max (dp x) (dpL l)
end

/-- Rows no longer than a row can be. -/
def lenMax : Nat := 9223372036854775807
mutual
def lenT : Nd → Prop
  | ⟨_, rs, kids⟩ => rs.length ≤ lenMax ∧ kids.length ≤ lenMax ∧ lenL kids
def lenL : List Nd → Prop
  | [] => True
  | x :: l => lenT x ∧ lenL l
end
theorem lenL_mem {l : List Nd} (h : lenL l) : ∀ x, x ∈ l → lenT x := by
  induction l with
  | nil => intro x hx; simp at hx
  | cons y l ih =>
    simp only [lenL] at h
    intro x hx
    rcases List.mem_cons.1 hx with rfl | hx
    · exact h.1
    · exact ih h.2 x hx

mutual
def rightB : Nd → Bool
  | ⟨k, _, kids⟩ => decide (1 ≤ k ∧ k ≤ 6) && (decide (k < 4) || !kids.isEmpty) && rightBL kids
def rightBL : List Nd → Bool
  | [] => true
  | x :: l => rightB x && rightBL l
end
mutual
theorem rightB_iff : ∀ x : Nd, rightB x = true ↔ rightT x
  | ⟨k, rs, kids⟩ => by
    simp only [rightB, rightT, Bool.and_eq_true, decide_eq_true_eq, Bool.or_eq_true, rightBL_iff kids, Bool.not_eq_true', List.isEmpty_eq_false_iff]
    constructor
    · rintro ⟨⟨a, b⟩, c⟩
      exact ⟨a, fun h => by rcases b with b | b; · omega
                            · exact b, c⟩
    · rintro ⟨a, b, c⟩
      refine ⟨⟨a, ?_⟩, c⟩
      by_cases h : k < 4
      · exact .inl h
      · exact .inr (b (by omega))
theorem rightBL_iff : ∀ l : List Nd, rightBL l = true ↔ rightL l
  | [] => by simp [rightBL, rightL]
  | x :: l => by simp only [rightBL, rightL, Bool.and_eq_true, rightB_iff x, rightBL_iff l]
end

theorem rdT (l : List Nd) (i : Nat) (h : i < l.length) : rd_T25 l (i : Int) = l[i] := by
  unfold rd_T25
  rw [Int.toNat_natCast, List.getD_eq_getElem?_getD, List.getElem?_eq_getElem h]
  rfl
theorem w64 {z : Int} (h0 : -9223372036854775808 ≤ z) (h1 : z ≤ 9223372036854775807) : wrap64 z = z := by unfold wrap64; omega
theorem dpL_drop (l : List Nd) (k : Nat) (h : k < l.length) : dpL (l.drop k) = max (dp l[k]) (dpL (l.drop (k + 1))) := by
  rw [List.drop_eq_getElem_cons h]; simp only [dpL]
theorem rightBL_drop (l : List Nd) (k : Nat) (h : k < l.length) : rightBL (l.drop k) = (rightB l[k] && rightBL (l.drop (k + 1))) := by
  rw [List.drop_eq_getElem_cons h]; simp only [rightBL]
theorem dp_pos (x : Nd) : 0 < dp x := by cases x; simp only [dp]; omega

theorem deep_l {l : List Nd} {rs : List Rg} {k0 : Int} {m : Nat} (hm : 0 < m) (hmb : m ≤ 1000000) (hl : l.length ≤ lenMax)
    (ih : ∀ y, y ∈ l → Ev (fun k => colloquyref05_Deep.f k y.f0 y.f1 y.f2 ((m - 1 : Nat) : Int)) (decide (m - 1 < dp y))) :
    ∀ (d i : Nat), d = l.length - i → i ≤ l.length → Ev (fun k => colloquyref05_Deep.l0 k (m : Int) (i : Int) k0 rs l) (decide (m - 1 < dpL (l.drop i))) := by
  intro d
  induction d with
  | zero =>
    intro i hd hi
    obtain rfl : i = l.length := by omega
    refine Ev.succ ((Ev.ret _).congr fun k => ?_)
    rw [List.drop_length]
    simp [colloquyref05_Deep.l0, dpL]
  | succ d hd =>
    intro i hdi hi
    have hil : i < l.length := by omega
    unfold lenMax at hl
    have hn := hd (i + 1) (by omega) (by omega)
    have hk := ih l[i] (List.getElem_mem _)
    refine Ev.succ ?_
    rw [dpL_drop l i hil]
    refine Ev.congr (f := fun k => (colloquyref05_Deep.f k l[i].f0 l[i].f1 l[i].f2 ((m - 1 : Nat) : Int)).bind fun t => if t = true then some true else colloquyref05_Deep.l0 k (m : Int) ((i + 1 : Nat) : Int) k0 rs l) (Ev.bind hk ?_) ?_
    · by_cases c : m - 1 < dp l[i]
      · have : decide (m - 1 < max (dp l[i]) (dpL (l.drop (i + 1)))) = true := by simp; omega
        rw [this]
        exact (Ev.ret true).congr (fun k => by rw [decide_eq_true c]; rfl)
      · have : decide (m - 1 < max (dp l[i]) (dpL (l.drop (i + 1)))) = decide (m - 1 < dpL (l.drop (i + 1))) := by
          congr 1
          apply propext
          omega
        rw [this]
        exact hn.congr fun k => by rw [decide_eq_false c]; rfl
    · intro k
      rw [colloquyref05_Deep.l0, if_pos (by omega), if_pos (by omega), rdT l i hil, w64 (z := (m : Int) - 1) (by omega) (by omega), w64 (z := (i : Int) + 1) (by omega) (by omega)]
      have e1 : ((m : Int) - 1) = ((m - 1 : Nat) : Int) := by omega
      have e2 : ((i : Int) + 1) = ((i + 1 : Nat) : Int) := by omega
      rw [e1, e2]

theorem deep_ev : ∀ (n : Nat) (x : Nd) (m : Nat), sz x ≤ n → lenT x → m ≤ 1000000 → Ev (fun k => colloquyref05_Deep.f k x.f0 x.f1 x.f2 (m : Int)) (decide (m < dp x)) := by
  intro n
  induction n with
  | zero => intro x m hx; have := sz_pos x; omega
  | succ n ih =>
    intro x m hx hl hm
    obtain ⟨k0, rs, kids⟩ := x
    simp only [sz] at hx
    simp only [lenT] at hl
    refine Ev.succ ?_
    have hd : dp ⟨k0, rs, kids⟩ = 1 + dpL kids := by simp only [dp]
    rw [hd]
    by_cases h0 : m = 0
    · subst h0
      rw [decide_eq_true (by omega : 0 < 1 + dpL kids)]
      refine (Ev.ret _).congr fun k => ?_
      simp [colloquyref05_Deep.f]
    · have := deep_l (l := kids) (rs := rs) (k0 := k0) (m := m) (by omega) hm hl.2.1 (fun y hy => ih y (m - 1) (by have := szL_mem y hy; omega) (lenL_mem hl.2.2 y hy) (by omega)) _ 0 rfl (Nat.zero_le _)
      rw [List.drop_zero] at this
      have e : decide (m < 1 + dpL kids) = decide (m - 1 < dpL kids) := by
        congr 1
        apply propext
        omega
      rw [e]
      refine this.congr fun k => ?_
      simp only [colloquyref05_Deep.f]
      rw [if_neg (by omega)]
      rfl

theorem min_step (a b m : Nat) (h : a < m) : a + min b (m - a) = min (a + b) m := by omega

theorem count_l {l : List Nd} {rs : List Rg} {k0 : Int} {m : Nat} (hmb : m ≤ 1000000) (hl : l.length ≤ lenMax)
    (ih : ∀ y, y ∈ l → ∀ m' : Nat, 0 < m' → m' ≤ 1000000 → Ev (fun k => colloquyref03_Count.f k y.f0 y.f1 y.f2 (m' : Int)) ((min (sz y) m' : Nat) : Int)) :
    ∀ (d i c : Nat), d = l.length - i → i ≤ l.length → c ≤ m → Ev (fun k => colloquyref03_Count.l0 k (m : Int) (c : Int) (i : Int) k0 rs l) ((min (c + szL (l.drop i)) m : Nat) : Int) := by
  intro d
  induction d with
  | zero =>
    intro i c hd hi hc
    obtain rfl : i = l.length := by omega
    refine Ev.succ ((Ev.ret _).congr fun k => ?_)
    rw [List.drop_length, colloquyref03_Count.l0, if_neg (by omega)]
    simp only [szL]
    congr 2
    omega
  | succ d hd =>
    intro i c hdi hi hc
    have hil : i < l.length := by omega
    unfold lenMax at hl
    refine Ev.succ ?_
    by_cases hcm : c < m
    · have hk := ih l[i] (List.getElem_mem _) (m - c) (by omega) (by omega)
      have hn := hd (i + 1) (c + min (sz l[i]) (m - c)) (by omega) (by omega) (by omega)
      rw [szL_drop l i hil]
      have e : min (c + min (sz l[i]) (m - c) + szL (l.drop (i + 1))) m = min (c + (sz l[i] + szL (l.drop (i + 1)))) m := by omega
      rw [e] at hn
      refine Ev.congr (f := fun k => (colloquyref03_Count.f k l[i].f0 l[i].f1 l[i].f2 ((m - c : Nat) : Int)).bind fun t => colloquyref03_Count.l0 k (m : Int) (wrap64 ((c : Int) + t)) ((i + 1 : Nat) : Int) k0 rs l) (Ev.bind hk ?_) ?_
      · refine hn.congr fun k => ?_
        rw [w64 (z := (c : Int) + ((min (sz l[i]) (m - c) : Nat) : Int)) (by omega) (by omega)]
        rfl
      · intro k
        rw [colloquyref03_Count.l0, if_pos (by omega), if_pos (by omega), if_pos (by omega), rdT l i hil, w64 (z := (m : Int) - (c : Int)) (by omega) (by omega), w64 (z := (i : Int) + 1) (by omega) (by omega)]
        have e1 : ((m : Int) - (c : Int)) = ((m - c : Nat) : Int) := by omega
        have e2 : ((i : Int) + 1) = ((i + 1 : Nat) : Int) := by omega
        rw [e1, e2]
    · refine (Ev.ret _).congr fun k => ?_
      rw [colloquyref03_Count.l0, if_pos (by omega), if_neg (by omega)]
      congr 2
      omega

theorem count_ev : ∀ (n : Nat) (x : Nd) (m : Nat), sz x ≤ n → lenT x → 0 < m → m ≤ 1000000 → Ev (fun k => colloquyref03_Count.f k x.f0 x.f1 x.f2 (m : Int)) ((min (sz x) m : Nat) : Int) := by
  intro n
  induction n with
  | zero => intro x m hx; have := sz_pos x; omega
  | succ n ih =>
    intro x m hx hl hm0 hm
    obtain ⟨k0, rs, kids⟩ := x
    simp only [sz] at hx
    simp only [lenT] at hl
    refine Ev.succ ?_
    have hd : sz ⟨k0, rs, kids⟩ = 1 + szL kids := by simp only [sz]
    rw [hd]
    have := count_l (l := kids) (rs := rs) (k0 := k0) (m := m) hm hl.2.1 (fun y hy m' h0 h1 => ih y m' (by have := szL_mem y hy; omega) (lenL_mem hl.2.2 y hy) h0 h1) _ 0 1 rfl (Nat.zero_le _) (by omega)
    rw [List.drop_zero] at this
    exact this.congr fun k => by simp only [colloquyref03_Count.f]; rfl

theorem ncount_l {l : List Nd} {d0 : Nat} (hd0 : d0 ≤ 1000) (hl : l.length ≤ lenMax)
    (ih : ∀ y, y ∈ l → Ev (fun k => nfa_count.f k y.f0 y.f1 y.f2 ((d0 + 1 : Nat) : Int)) ((sz y : Nat) : Int)) :
    ∀ (d i c : Nat), d = l.length - i → i ≤ l.length → c + szL (l.drop i) ≤ 1000 → Ev (fun k => nfa_count.l0 k (d0 : Int) (c : Int) l (l.length : Int) (i : Int)) ((c + szL (l.drop i) : Nat) : Int) := by
  intro d
  induction d with
  | zero =>
    intro i c hd hi hc
    obtain rfl : i = l.length := by omega
    refine Ev.succ ((Ev.ret _).congr fun k => ?_)
    rw [List.drop_length, nfa_count.l0, if_neg (by omega)]
    simp only [szL]
    rfl
  | succ d hd =>
    intro i c hdi hi hc
    have hil : i < l.length := by omega
    unfold lenMax at hl
    refine Ev.succ ?_
    have hk := ih l[i] (List.getElem_mem _)
    rw [szL_drop l i hil] at hc ⊢
    have hn := hd (i + 1) (c + sz l[i]) (by omega) (by omega) (by omega)
    rw [Nat.add_assoc] at hn
    refine Ev.congr (f := fun k => (nfa_count.f k l[i].f0 l[i].f1 l[i].f2 ((d0 + 1 : Nat) : Int)).bind fun t => if wrap64 ((c : Int) + t) > 1000 then some (wrap64 ((c : Int) + t)) else nfa_count.l0 k (d0 : Int) (wrap64 ((c : Int) + t)) l (l.length : Int) ((i + 1 : Nat) : Int)) (Ev.bind hk ?_) ?_
    · refine hn.congr fun k => ?_
      rw [w64 (z := (c : Int) + ((sz l[i] : Nat) : Int)) (by omega) (by omega), if_neg (by omega)]
      rfl
    · intro k
      rw [nfa_count.l0, if_pos (by omega), if_pos (by omega), if_pos (by omega), rdT l i hil, w64 (z := (d0 : Int) + 1) (by omega) (by omega), w64 (z := (i : Int) + 1) (by omega) (by omega)]
      have e1 : ((d0 : Int) + 1) = ((d0 + 1 : Nat) : Int) := by omega
      have e2 : ((i : Int) + 1) = ((i + 1 : Nat) : Int) := by omega
      rw [e1, e2]

theorem dpL_mem {l : List Nd} : ∀ x, x ∈ l → dp x ≤ dpL l := by
  induction l with
  | nil => intro x hx; simp at hx
  | cons y l ih =>
    intro x hx
    simp only [dpL]
    rcases List.mem_cons.1 hx with rfl | hx
    · omega
    · have := ih x hx; omega

theorem ncount_ev : ∀ (n : Nat) (x : Nd) (d : Nat), sz x ≤ n → lenT x → sz x ≤ 1000 → d + dp x ≤ 301 → Ev (fun k => nfa_count.f k x.f0 x.f1 x.f2 (d : Int)) ((sz x : Nat) : Int) := by
  intro n
  induction n with
  | zero => intro x m hx; have := sz_pos x; omega
  | succ n ih =>
    intro x m hx hl hs hdp
    have hpos := dp_pos x
    obtain ⟨k0, rs, kids⟩ := x
    simp only [sz] at hx hs
    simp only [lenT] at hl
    simp only [dp] at hdp
    refine Ev.succ ?_
    have hd : sz ⟨k0, rs, kids⟩ = 1 + szL kids := by simp only [sz]
    rw [hd]
    have := ncount_l (l := kids) (d0 := m) (by omega) hl.2.1 (fun y hy => ih y (m + 1) (by have := szL_mem y hy; omega) (lenL_mem hl.2.2 y hy) (by have := szL_mem y hy; omega) (by have := dpL_mem y hy; omega)) _ 0 1 rfl (Nat.zero_le _) (by rw [List.drop_zero]; omega)
    rw [List.drop_zero] at this
    refine this.congr fun k => ?_
    simp only [nfa_count.f]
    rw [if_neg (by omega)]
    rfl

theorem right_l {l : List Nd} (hl : l.length ≤ lenMax) (ih : ∀ y, y ∈ l → Ev (fun k => nfa_right.f k y.f0 y.f1 y.f2) (rightB y)) :
    ∀ (d i : Nat), d = l.length - i → i ≤ l.length → Ev (fun k => nfa_right.l0 k l (l.length : Int) (i : Int)) (rightBL (l.drop i)) := by
  intro d
  induction d with
  | zero =>
    intro i hd hi
    obtain rfl : i = l.length := by omega
    refine Ev.succ ((Ev.ret _).congr fun k => ?_)
    rw [List.drop_length, nfa_right.l0, if_neg (by omega)]
    simp only [rightBL]
  | succ d hd =>
    intro i hdi hi
    have hil : i < l.length := by omega
    unfold lenMax at hl
    have hn := hd (i + 1) (by omega) (by omega)
    have hk := ih l[i] (List.getElem_mem _)
    refine Ev.succ ?_
    rw [rightBL_drop l i hil]
    refine Ev.congr (f := fun k => (nfa_right.f k l[i].f0 l[i].f1 l[i].f2).bind fun t => if t = true then nfa_right.l0 k l (l.length : Int) ((i + 1 : Nat) : Int) else some false) (Ev.bind hk ?_) ?_
    · cases hc : rightB l[i] with
      | false => exact Ev.ret _
      | true => exact hn
    · intro k
      rw [nfa_right.l0, if_pos (by omega), if_pos (by omega), if_pos (by omega), rdT l i hil, w64 (z := (i : Int) + 1) (by omega) (by omega)]
      have e2 : ((i : Int) + 1) = ((i + 1 : Nat) : Int) := by omega
      rw [e2]

theorem kindB (k0 : Int) (kids : List Nd) : (decide (1 ≤ k0 ∧ k0 ≤ 6) && (decide (k0 < 4) || !kids.isEmpty)) = !(decide (k0 < 1) || decide (k0 > 6) || (decide (k0 > 3) && ((kids.length : Int) == 0))) := by
  cases kids with
  | nil =>
    have : ((([] : List Nd).length : Int) == 0) = true := rfl
    rw [this]
    simp only [List.isEmpty_nil, Bool.not_true, Bool.or_false, Bool.and_true]
    by_cases a : k0 < 1
    · have : ¬ (1 ≤ k0 ∧ k0 ≤ 6) := by omega
      simp [a, this]
    · by_cases b : k0 > 6
      · have : ¬ (1 ≤ k0 ∧ k0 ≤ 6) := by omega
        simp [b, this]
      · have c : (1 ≤ k0 ∧ k0 ≤ 6) := by omega
        by_cases d : k0 < 4
        · have e : ¬ k0 > 3 := by omega
          simp [a, b, c, d, e]
        · have e : k0 > 3 := by omega
          simp [a, b, c, d, e]
  | cons y l =>
    have : (((y :: l).length : Int) == 0) = false := by simp; omega
    rw [this]
    simp only [List.isEmpty_cons, Bool.not_false, Bool.or_true, Bool.and_true, Bool.and_false, Bool.or_false]
    by_cases a : k0 < 1
    · have : ¬ (1 ≤ k0 ∧ k0 ≤ 6) := by omega
      simp [a, this]
    · by_cases b : k0 > 6
      · have : ¬ (1 ≤ k0 ∧ k0 ≤ 6) := by omega
        simp [b, this]
      · have c : (1 ≤ k0 ∧ k0 ≤ 6) := by omega
        simp [a, b, c]

theorem right_ev : ∀ (n : Nat) (x : Nd), sz x ≤ n → lenT x → Ev (fun k => nfa_right.f k x.f0 x.f1 x.f2) (rightB x) := by
  intro n
  induction n with
  | zero => intro x hx; have := sz_pos x; omega
  | succ n ih =>
    intro x hx hl
    obtain ⟨k0, rs, kids⟩ := x
    simp only [sz] at hx
    simp only [lenT] at hl
    have hd : rightB ⟨k0, rs, kids⟩ = (decide (1 ≤ k0 ∧ k0 ≤ 6) && (decide (k0 < 4) || !kids.isEmpty) && rightBL kids) := by simp only [rightB]
    rw [hd, kindB]
    have hli := right_l (l := kids) hl.2.1 (fun y hy => ih y (by have := szL_mem y hy; omega) (lenL_mem hl.2.2 y hy)) _ 0 rfl (Nat.zero_le _)
    rw [List.drop_zero] at hli
    have hj : ∀ b : Bool, Ev (fun k => nfa_right.j0 k b k0 rs kids) (!b && rightBL kids) := by
      intro b
      refine Ev.succ ?_
      cases b with
      | true => exact (Ev.ret _).congr fun k => by simp [nfa_right.j0]
      | false => exact hli.congr fun k => by simp only [nfa_right.j0]; rfl
    refine Ev.succ ?_
    by_cases a : k0 < 1
    · have := (hj true).congr (g := fun k => nfa_right.f (k + 1) k0 rs kids) (fun k => by simp only [nfa_right.f]; rw [if_pos a])
      simpa [a] using this
    · by_cases b : k0 > 6
      · have := (hj true).congr (g := fun k => nfa_right.f (k + 1) k0 rs kids) (fun k => by simp only [nfa_right.f]; rw [if_neg a, if_pos b])
        simpa [b] using this
      · by_cases c : k0 > 3
        · have := (hj ((kids.length : Int) == 0)).congr (g := fun k => nfa_right.f (k + 1) k0 rs kids) (fun k => by simp only [nfa_right.f]; rw [if_neg a, if_neg b, if_pos (by omega)])
          simpa [a, b, c] using this
        · have := (hj false).congr (g := fun k => nfa_right.f (k + 1) k0 rs kids) (fun k => by simp only [nfa_right.f]; rw [if_neg a, if_neg b, if_neg (by omega)])
          simpa [a, b, c] using this

theorem wrong_l {l : List Nd} {rs : List Rg} {k0 : Int} (hl : l.length ≤ lenMax) (ih : ∀ y, y ∈ l → Ev (fun k => colloquyref05_wrong.f k y.f0 y.f1 y.f2) (!rightB y)) :
    ∀ (d i : Nat), d = l.length - i → i ≤ l.length → Ev (fun k => colloquyref05_wrong.l0 k (i : Int) k0 rs l) (!rightBL (l.drop i)) := by
  intro d
  induction d with
  | zero =>
    intro i hd hi
    obtain rfl : i = l.length := by omega
    refine Ev.succ ((Ev.ret _).congr fun k => ?_)
    rw [List.drop_length, colloquyref05_wrong.l0, if_neg (by omega)]
    simp only [rightBL]
    rfl
  | succ d hd =>
    intro i hdi hi
    have hil : i < l.length := by omega
    unfold lenMax at hl
    have hn := hd (i + 1) (by omega) (by omega)
    have hk := ih l[i] (List.getElem_mem _)
    refine Ev.succ ?_
    rw [rightBL_drop l i hil]
    refine Ev.congr (f := fun k => (colloquyref05_wrong.f k l[i].f0 l[i].f1 l[i].f2).bind fun t => if t = true then some true else colloquyref05_wrong.l0 k ((i + 1 : Nat) : Int) k0 rs l) (Ev.bind hk ?_) ?_
    · cases hc : rightB l[i] with
      | false => exact Ev.ret _
      | true => exact hn
    · intro k
      rw [colloquyref05_wrong.l0, if_pos (by omega), if_pos (by omega), rdT l i hil, w64 (z := (i : Int) + 1) (by omega) (by omega)]
      have e2 : ((i : Int) + 1) = ((i + 1 : Nat) : Int) := by omega
      rw [e2]

theorem wrong_ev : ∀ (n : Nat) (x : Nd), sz x ≤ n → lenT x → Ev (fun k => colloquyref05_wrong.f k x.f0 x.f1 x.f2) (!rightB x) := by
  intro n
  induction n with
  | zero => intro x hx; have := sz_pos x; omega
  | succ n ih =>
    intro x hx hl
    obtain ⟨k0, rs, kids⟩ := x
    simp only [sz] at hx
    simp only [lenT] at hl
    have hd : rightB ⟨k0, rs, kids⟩ = (decide (1 ≤ k0 ∧ k0 ≤ 6) && (decide (k0 < 4) || !kids.isEmpty) && rightBL kids) := by simp only [rightB]
    rw [hd, kindB]
    have hli := wrong_l (l := kids) (rs := rs) (k0 := k0) hl.2.1 (fun y hy => ih y (by have := szL_mem y hy; omega) (lenL_mem hl.2.2 y hy)) _ 0 rfl (Nat.zero_le _)
    rw [List.drop_zero] at hli
    have hj : ∀ b : Bool, Ev (fun k => colloquyref05_wrong.j0 k b k0 rs kids) (b || !rightBL kids) := by
      intro b
      refine Ev.succ ?_
      cases b with
      | true => exact (Ev.ret _).congr fun k => by simp [colloquyref05_wrong.j0]
      | false => exact hli.congr fun k => by simp only [colloquyref05_wrong.j0]; rfl
    refine Ev.succ ?_
    by_cases a : k0 < 1
    · have := (hj true).congr (g := fun k => colloquyref05_wrong.f (k + 1) k0 rs kids) (fun k => by simp only [colloquyref05_wrong.f]; rw [if_pos a])
      simpa [a] using this
    · by_cases b : k0 > 6
      · have := (hj true).congr (g := fun k => colloquyref05_wrong.f (k + 1) k0 rs kids) (fun k => by simp only [colloquyref05_wrong.f]; rw [if_neg a, if_pos b])
        simpa [b] using this
      · by_cases c : k0 > 3
        · have := (hj ((kids.length : Int) == 0)).congr (g := fun k => colloquyref05_wrong.f (k + 1) k0 rs kids) (fun k => by simp only [colloquyref05_wrong.f]; rw [if_neg a, if_neg b, if_pos c])
          simpa [a, b, c] using this
        · have := (hj false).congr (g := fun k => colloquyref05_wrong.f (k + 1) k0 rs kids) (fun k => by simp only [colloquyref05_wrong.f]; rw [if_neg a, if_neg b, if_neg c])
          simpa [a, b, c] using this


/-- Check of a tree that is not too large. -/
theorem check_ev (x : Nd) (hl : lenT x) (hs : sz x ≤ 1000) (hd : dp x ≤ 300) : Ev (fun k => colloquyref05_Check.f k x.f0 x.f1 x.f2) (if rightB x = true then 0 else 1) := by
  have h1 := deep_ev (sz x) x 300 (Nat.le_refl _) hl (by omega)
  have h2 := count_ev (sz x) x 1001 (Nat.le_refl _) hl (by omega) (by omega)
  have h3 := wrong_ev (sz x) x (Nat.le_refl _) hl
  rw [decide_eq_false (by omega)] at h1
  rw [show min (sz x) 1001 = sz x by omega] at h2
  refine Ev.congr (f := fun k => (colloquyref05_Deep.f k x.f0 x.f1 x.f2 300).bind fun t => if t = true then colloquyref05_Check.j0 k true x.f0 x.f1 x.f2 else (colloquyref03_Count.f k x.f0 x.f1 x.f2 1001).bind fun t2 => colloquyref05_Check.j0 k (decide (t2 > 1000)) x.f0 x.f1 x.f2) (Ev.bind h1 ?_) (fun k => rfl)
  refine Ev.congr (f := fun k => (colloquyref03_Count.f k x.f0 x.f1 x.f2 1001).bind fun t2 => colloquyref05_Check.j0 k (decide (t2 > 1000)) x.f0 x.f1 x.f2) (Ev.bind h2 ?_) (fun k => rfl)
  rw [decide_eq_false (by omega)]
  refine Ev.succ ?_
  refine Ev.congr (f := fun k => (colloquyref05_wrong.f k x.f0 x.f1 x.f2).bind fun t => if t = true then some 1 else some 0) (Ev.bind h3 ?_) (fun k => by simp only [colloquyref05_Check.j0]; rfl)
  cases rightB x with
  | true => exact Ev.ret _
  | false => exact Ev.ret _

theorem few_ev (x : Nd) (s : ByteArray) (hl : lenT x) : Ev (fun k => colloquylaw05_few.f k x.f0 x.f1 x.f2 s) (decide (dp x ≤ 60 ∧ sz x ≤ 40 ∧ s.size ≤ 30)) := by
  have h1 := deep_ev (sz x) x 60 (Nat.le_refl _) hl (by omega)
  have h2 := count_ev (sz x) x 41 (Nat.le_refl _) hl (by omega) (by omega)
  refine Ev.congr (f := fun k => (colloquyref05_Deep.f k x.f0 x.f1 x.f2 60).bind fun t => if t = true then some false else (colloquyref03_Count.f k x.f0 x.f1 x.f2 41).bind fun t2 => if t2 ≤ 40 then some (decide ((s.size : Int) ≤ 30)) else some false) (Ev.bind h1 ?_) (fun k => rfl)
  by_cases c : 60 < dp x
  · rw [decide_eq_true c, decide_eq_false (by omega : ¬ (dp x ≤ 60 ∧ sz x ≤ 40 ∧ s.size ≤ 30))]
    exact Ev.ret _
  · rw [decide_eq_false c]
    refine Ev.congr (f := fun k => (colloquyref03_Count.f k x.f0 x.f1 x.f2 41).bind fun t2 => if t2 ≤ 40 then some (decide ((s.size : Int) ≤ 30)) else some false) (Ev.bind h2 ?_) (fun k => rfl)
    by_cases c2 : sz x ≤ 40
    · rw [if_pos (by omega)]
      have e : decide (dp x ≤ 60 ∧ sz x ≤ 40 ∧ s.size ≤ 30) = decide ((s.size : Int) ≤ 30) := by
        congr 1
        apply propext
        omega
      rw [e]
      exact Ev.ret _
    · rw [if_neg (by omega), decide_eq_false (by omega : ¬ (dp x ≤ 60 ∧ sz x ≤ 40 ∧ s.size ≤ 30))]
      exact Ev.ret _

end Go.Proofs.Ytmhodkkfbbpgaaa.Fac
