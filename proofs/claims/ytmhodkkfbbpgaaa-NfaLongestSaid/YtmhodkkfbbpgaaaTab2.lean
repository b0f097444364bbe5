/- Plain: the printed Table is what the tree matches, from each place to each. -/
import Derived.Test.YtmhodkkfbbpgaaaTab
namespace Go.Proofs.Ytmhodkkfbbpgaaa.Fac
set_option linter.unusedVariables false
set_option linter.unusedSimpArgs false
open Go.RowKit Go.Proofs.Ytmhodkkfbbpgaaa.PNfa Tree Re Go.Proofs.YtmhodkkfbbpgaaaW.PrintWords

/-- A way from place to place, by places ahead of m. -/
inductive Pm (f : Nat → Nat → Bool) (m : Nat) : Nat → Nat → Prop
  | one {i j : Nat} : f i j = true → Pm f m i j
  | cat {i k j : Nat} : k < m → Pm f m i k → Pm f m k j → Pm f m i j

theorem Pm.mono {f : Nat → Nat → Bool} {m m' i j : Nat} (h : Pm f m i j) (hm : m ≤ m') : Pm f m' i j := by
  induction h with
  | one h => exact .one h
  | cat hk _ _ a b => exact .cat (by omega) a b

theorem pm_zero (f : Nat → Nat → Bool) (i j : Nat) : Pm f 0 i j ↔ f i j = true := by
  constructor
  · intro h
    cases h with
    | one h => exact h
    | cat hk _ _ => omega
  · exact .one

theorem pm_succ (f : Nat → Nat → Bool) (m i j : Nat) : Pm f (m + 1) i j ↔ Pm f m i j ∨ (Pm f m i m ∧ Pm f m m j) := by
  constructor
  · intro h
    induction h with
    | one h => exact .inl (.one h)
    | @cat i k j hk _ _ a b =>
      by_cases e : k = m
      · subst e
        refine .inr ⟨?_, ?_⟩
        · exact a.elim id (fun c => c.1)
        · exact b.elim id (fun c => c.2)
      · have hk' : k < m := by omega
        rcases a with a | ⟨a1, a2⟩ <;> rcases b with b | ⟨b1, b2⟩
        · exact .inl (.cat hk' a b)
        · exact .inr ⟨.cat hk' a b1, b2⟩
        · exact .inr ⟨a1, .cat hk' a2 b⟩
        · exact .inr ⟨a1, b2⟩
  · rintro (h | ⟨h1, h2⟩)
    · exact h.mono (by omega)
    · exact .cat (Nat.lt_succ_self m) (h1.mono (by omega)) (h2.mono (by omega))

theorem pm_all (f : Nat → Nat → Bool) (n i j : Nat) (hb : ∀ a b, a < n → f a b = true → b < n) (hi : i < n) : Pm f n i j ↔ ∃ k, f i k = true ∧ Clo (fun a b => f a b = true) k j := by
  constructor
  · intro h
    induction h with
    | one h => exact ⟨_, h, .refl _⟩
    | cat hk _ _ a b =>
      obtain ⟨k1, a1, a2⟩ := a hi
      obtain ⟨k2, b1, b2⟩ := b hk
      exact ⟨k1, a1, a2.trans (.step b1 b2)⟩
  · rintro ⟨k, h1, h2⟩
    induction h2 generalizing i with
    | refl => exact .one h1
    | step a _ ih => exact .cat (hb _ _ hi h1) (.one h1) (ih _ (hb _ _ hi h1) a)

section
variable (n : Nat) (hn : n ≤ 1000) (s : ByteArray) (kd : Int) (rs : List Rg) (kids : List Nd)
include hn

theorem l4_ev : ∀ (d i m j : Nat) (h : Nat → Nat → Bool) (r : List (List Bool)), d = n - j → i < n → m < n → j ≤ n →
    (∀ h' : Nat → Nat → Bool, (∀ p q, p < n → q < n → (h' p q = true ↔ h p q = true ∨ (p = i ∧ j ≤ q ∧ h i m = true ∧ h m q = true))) → Ev (fun k => colloquyref03_Table.l3 k s (tb n h') (m : Int) ((i + 1 : Nat) : Int) kd rs kids) r) → Ev (fun k => colloquyref03_Table.l4 k s (tb n h) (m : Int) (i : Int) (j : Int) kd rs kids) r := by
  have hlen : ∀ h : Nat → Nat → Bool, ((tb n h).length : Int) = n := fun h => by rw [tb_len]
  intro d
  induction d with
  | zero =>
    intro i m j h r hd hi hm hj hr
    obtain rfl : j = n := by omega
    refine Ev.succ ((hr h (fun p q hp hq => or_no (by omega))).congr fun k => ?_)
    rw [colloquyref03_Table.l4, if_neg (by rw [hlen]; omega), w64 (z := (i : Int) + 1) (by omega) (by omega)]
    rfl
  | succ d hd =>
    intro i m j h r hdj hi hm hj hr
    have hjl : j < n := by omega
    by_cases hf : h i m = true
    · have hu1 : upd h i j (h i j || h m j) i m = true := by
        unfold upd
        split
        · rename_i e; obtain ⟨_, e⟩ := e; subst e; rw [hf]; rfl
        · exact hf
      have hn' := hd i m (j + 1) (upd h i j (h i j || h m j)) r (by omega) hi hm (by omega) (fun h' hh' => hr h' (fun p q hp hq => by
        rw [hh' p q hp hq]
        have hmq : j + 1 ≤ q → upd h i j (h i j || h m j) m q = h m q := fun c => by unfold upd; rw [if_neg (by omega)]
        by_cases a : p = i ∧ q = j
        · obtain ⟨rfl, rfl⟩ := a
          have e : upd h p q (h p q || h m q) p q = (h p q || h m q) := by unfold upd; rw [if_pos ⟨rfl, rfl⟩]
          rw [e, Bool.or_eq_true]
          constructor
          · rintro ((c | c) | ⟨_, c, _⟩)
            · exact .inl c
            · exact .inr ⟨rfl, Nat.le_refl _, hf, c⟩
            · omega
          · rintro (c | ⟨_, _, _, c⟩)
            · exact .inl (.inl c)
            · exact .inl (.inr c)
        · have e : upd h i j (h i j || h m j) p q = h p q := by unfold upd; rw [if_neg a]
          rw [e]
          constructor
          · rintro (c | ⟨c1, c2, c3, c4⟩)
            · exact .inl c
            · exact .inr ⟨c1, by omega, hf, by rw [hmq c2] at c4; exact c4⟩
          · rintro (c | ⟨c1, c2, c3, c4⟩)
            · exact .inl c
            · have hq2 : j + 1 ≤ q := by
                have : q ≠ j := fun e => a ⟨c1, e⟩
                omega
              exact .inr ⟨c1, hq2, hu1, by rw [hmq hq2]; exact c4⟩))
      refine Ev.succ (hn'.congr fun k => ?_)
      rw [colloquyref03_Table.l4, if_pos (by rw [hlen]; omega), if_pos (by omega), if_pos (by rw [hlen]; omega), if_pos (by omega), if_pos (by rw [row_len hi]; omega), tb_get hi hm, if_pos hf, if_pos (by omega), if_pos (by rw [row_len hi]; omega), tb_get hi hjl]
      by_cases c : h i j = true
      · rw [if_pos c, Int.toNat_natCast, Int.toNat_natCast, tb_set hi, w64 (z := (j : Int) + 1) (by omega) (by omega), c]
        rfl
      · have c' : h i j = false := by simpa using c
        rw [if_neg c, if_pos (by rw [hlen]; omega), if_pos (by rw [row_len hm]; omega), tb_get hm hjl, Int.toNat_natCast, Int.toNat_natCast, tb_set hi, w64 (z := (j : Int) + 1) (by omega) (by omega), c', Bool.false_or]
        rfl
    · refine Ev.succ ((hr h (fun p q hp hq => or_no (fun c => hf c.2.2.1))).congr fun k => ?_)
      rw [colloquyref03_Table.l4, if_pos (by rw [hlen]; omega), if_pos (by omega), if_pos (by rw [hlen]; omega), if_pos (by omega), if_pos (by rw [row_len hi]; omega), tb_get hi hm, if_neg hf, w64 (z := (i : Int) + 1) (by omega) (by omega)]
      rfl

theorem l3_ev : ∀ (d i m : Nat) (h : Nat → Nat → Bool) (r : List (List Bool)), d = n - i → i ≤ n → m < n →
    (∀ h' : Nat → Nat → Bool, (∀ p q, p < n → q < n → (h' p q = true ↔ h p q = true ∨ (i ≤ p ∧ h p m = true ∧ h m q = true))) → Ev (fun k => colloquyref03_Table.l2 k s (tb n h') ((m + 1 : Nat) : Int) kd rs kids) r) → Ev (fun k => colloquyref03_Table.l3 k s (tb n h) (m : Int) (i : Int) kd rs kids) r := by
  have hlen : ∀ h : Nat → Nat → Bool, ((tb n h).length : Int) = n := fun h => by rw [tb_len]
  intro d
  induction d with
  | zero =>
    intro i m h r hd hi hm hr
    obtain rfl : i = n := by omega
    refine Ev.succ ((hr h (fun p q hp hq => or_no (by omega))).congr fun k => ?_)
    rw [colloquyref03_Table.l3, if_neg (by rw [hlen]; omega), w64 (z := (m : Int) + 1) (by omega) (by omega)]
    rfl
  | succ d hd =>
    intro i m h r hdi hi hm hr
    have hil : i < n := by omega
    refine Ev.succ ((l4_ev n hn s kd rs kids n i m 0 h r (by omega) hil hm (Nat.zero_le _) (fun h1 hh1 => hd (i + 1) m h1 r (by omega) (by omega) hm (fun h' hh' => hr h' (fun p q hp hq => by
      have e1 : h1 p m = true ↔ h p m = true := by
        rw [hh1 p m hp hm]
        exact ⟨fun c => c.elim id (fun c => by rw [c.1]; exact c.2.2.1), .inl⟩
      have e2 : h1 m q = true ↔ h m q = true := by
        rw [hh1 m q hm hq]
        exact ⟨fun c => c.elim id (fun c => c.2.2.2), .inl⟩
      rw [hh' p q hp hq, hh1 p q hp hq, e1, e2]
      constructor
      · rintro ((c | ⟨c1, _, c3, c4⟩) | ⟨c1, c2, c3⟩)
        · exact .inl c
        · subst c1; exact .inr ⟨Nat.le_refl _, c3, c4⟩
        · exact .inr ⟨by omega, c2, c3⟩
      · rintro (c | ⟨c1, c2, c3⟩)
        · exact .inl (.inl c)
        · by_cases e : p = i
          · subst e; exact .inl (.inr ⟨rfl, Nat.zero_le _, c2, c3⟩)
          · exact .inr ⟨by omega, c2, c3⟩)))).congr fun k => ?_)
    rw [colloquyref03_Table.l3, if_pos (by rw [hlen]; omega)]
    rfl

theorem l2_ev (f : Nat → Nat → Bool) : ∀ (d m : Nat) (h : Nat → Nat → Bool) (r : List (List Bool)), d = n - m → m ≤ n → (∀ p q, p < n → q < n → (h p q = true ↔ Pm f m p q)) →
    (∀ h' : Nat → Nat → Bool, (∀ p q, p < n → q < n → (h' p q = true ↔ Pm f n p q)) → Ev (fun k => if kd = 4 then ((colloquyref03_same.f k (wrap64 ((s.size : Int) + 1))).bind fun t310 => ((colloquyref03_either.f k (tb n h') t310).bind fun t313 => (some t313))) else (some (tb n h'))) r) → Ev (fun k => colloquyref03_Table.l2 k s (tb n h) (m : Int) kd rs kids) r := by
  have hlen : ∀ h : Nat → Nat → Bool, ((tb n h).length : Int) = n := fun h => by rw [tb_len]
  intro d
  induction d with
  | zero =>
    intro m h r hd hm hh hr
    obtain rfl : m = n := by omega
    refine Ev.succ ((hr h hh).congr fun k => ?_)
    rw [colloquyref03_Table.l2, if_neg (by rw [hlen]; omega)]
  | succ d hd =>
    intro m h r hdm hm hh hr
    have hml : m < n := by omega
    refine Ev.succ ((l3_ev n hn s kd rs kids n 0 m h r (by omega) (Nat.zero_le _) hml (fun h' hh' => hd (m + 1) h' r (by omega) (by omega) (fun p q hp hq => by
      rw [hh' p q hp hq, pm_succ, hh p q hp hq, hh p m hp hml, hh m q hml hq]
      exact ⟨fun c => c.imp id (fun c => c.2), fun c => c.imp id (fun c => ⟨Nat.zero_le _, c⟩)⟩) hr)).congr fun k => ?_)
    rw [colloquyref03_Table.l2, if_pos (by rw [hlen]; omega)]
    rfl
end

theorem in_ev (rs : List Rg) (c : Int) (hl : rs.length ≤ lenMax) (ho : ∀ r, r ∈ rs → okR r) : Ev (fun k => colloquyref03_In.f k rs c) (inR rs c) := by
  have key : ∀ (d i : Nat), d = rs.length - i → i ≤ rs.length → Ev (fun k => colloquyref03_In.l0 k rs c (i : Int)) (inR (rs.drop i) c) := by
    intro d
    induction d with
    | zero =>
      intro i hd hi
      obtain rfl : i = rs.length := by omega
      refine Ev.succ ((Ev.ret _).congr fun k => ?_)
      rw [List.drop_length, colloquyref03_In.l0, if_neg (by omega)]
      rfl
    | succ d hd =>
      intro i hdi hi
      have hil : i < rs.length := by omega
      unfold lenMax at hl
      have hn := hd (i + 1) (by omega) (by omega)
      have hrd : rd_T64 rs (i : Int) = rs[i] := by
        unfold rd_T64
        rw [Int.toNat_natCast, List.getD_eq_getElem?_getD, List.getElem?_eq_getElem hil]
        rfl
      have hr := ho rs[i] (List.getElem_mem _)
      unfold okR at hr
      have hdrop : inR (rs.drop i) c = ((decide (rs[i].f0 ≤ c) && decide (c ≤ rs[i].f1)) || inR (rs.drop (i + 1)) c) := by
        unfold inR
        rw [List.drop_eq_getElem_cons hil, List.any_cons]
      rw [hdrop]
      refine Ev.succ ?_
      have hun : ∀ k, colloquyref03_In.l0 (k + 1) rs c (i : Int) = if c ≥ rs[i].f0 then (if c ≤ rs[i].f1 then some true else colloquyref03_In.l0 k rs c ((i + 1 : Nat) : Int)) else colloquyref03_In.l0 k rs c ((i + 1 : Nat) : Int) := by
        intro k
        rw [colloquyref03_In.l0, if_pos (by omega), if_pos (by omega), hrd, w64 (z := rs[i].f0) (by omega) (by omega), w64 (z := rs[i].f1) (by omega) (by omega), w64 (z := (i : Int) + 1) (by omega) (by omega)]
        rfl
      by_cases a : rs[i].f0 ≤ c
      · by_cases b : c ≤ rs[i].f1
        · rw [decide_eq_true a, decide_eq_true b]
          exact (Ev.ret true).congr fun k => by rw [hun, if_pos a, if_pos b]
        · rw [decide_eq_false b, Bool.and_false, Bool.false_or]
          exact hn.congr fun k => by rw [hun, if_pos a, if_neg b]
      · rw [decide_eq_false a, Bool.false_and, Bool.false_or]
        exact hn.congr fun k => by rw [hun, if_neg a]
  have := key rs.length 0 (by omega) (Nat.zero_le _)
  rw [List.drop_zero] at this
  exact this.congr fun k => by simp only [colloquyref03_In.f]; rfl

end Go.Proofs.Ytmhodkkfbbpgaaa.Fac
