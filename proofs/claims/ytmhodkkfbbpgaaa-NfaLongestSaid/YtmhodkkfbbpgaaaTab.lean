/- Plain: the printed tables as tables of a function: none, same, both, either. -/
import Derived.Test.YtmhodkkfbbpgaaaFac
import Derived.Test.YtmhodkkfbbpgaaaPNfax6
import Derived.Test.YtmhodkkfbbpgaaaPNfax7
namespace Go.Proofs.Ytmhodkkfbbpgaaa.Fac
set_option linter.unusedVariables false
set_option linter.unusedSimpArgs false
open Go.RowKit Go.Proofs.Ytmhodkkfbbpgaaa.PNfa Tree Go.Proofs.YtmhodkkfbbpgaaaW.PrintWords

def tb (n : Nat) (f : Nat → Nat → Bool) : List (List Bool) := (List.range n).map fun i => (List.range n).map fun j => f i j
def upd (f : Nat → Nat → Bool) (i j : Nat) (v : Bool) (p q : Nat) : Bool := if p = i ∧ q = j then v else f p q

theorem tb_len (n : Nat) (f : Nat → Nat → Bool) : (tb n f).length = n := by simp [tb]
theorem tb_row {n : Nat} {f : Nat → Nat → Bool} {i : Nat} (h : i < n) : rd_L6 (tb n f) (i : Int) = (List.range n).map (f i) := by
  unfold rd_L6 tb
  rw [Int.toNat_natCast, List.getD_eq_getElem?_getD, List.getElem?_map, List.getElem?_range h]
  rfl
theorem row_len {n : Nat} {f : Nat → Nat → Bool} {i : Nat} (h : i < n) : (rd_L6 (tb n f) (i : Int)).length = n := by rw [tb_row h]; simp
theorem tb_get {n : Nat} {f : Nat → Nat → Bool} {i j : Nat} (h : i < n) (hj : j < n) : rdOf false (rd_L6 (tb n f) (i : Int)) (j : Int) = f i j := by
  rw [tb_row h]
  unfold rdOf
  rw [Int.toNat_natCast, List.getD_eq_getElem?_getD, List.getElem?_map, List.getElem?_range hj]
  rfl
theorem tb_congr {n : Nat} {f g : Nat → Nat → Bool} (h : ∀ i j, i < n → j < n → f i j = g i j) : tb n f = tb n g := by
  unfold tb
  refine List.map_congr_left fun i hi => List.map_congr_left fun j hj => ?_
  exact h i j (List.mem_range.1 hi) (List.mem_range.1 hj)
theorem tb_set {n : Nat} {f : Nat → Nat → Bool} {i j : Nat} (h : i < n) (v : Bool) : (tb n f).set i ((rd_L6 (tb n f) (i : Int)).set j v) = tb n (upd f i j v) := by
  rw [tb_row h]
  unfold tb
  apply List.ext_getElem?
  intro p
  rw [List.getElem?_set]
  by_cases hp : i = p
  · subst hp
    rw [if_pos rfl, if_pos (by simpa using h), List.getElem?_map, List.getElem?_range h]
    simp only [Option.map_some]
    congr 1
    apply List.ext_getElem?
    intro q
    rw [List.getElem?_set]
    by_cases hq : j = q
    · subst hq
      rw [if_pos rfl]
      by_cases hjn : j < n
      · rw [if_pos (by simpa using hjn), List.getElem?_map, List.getElem?_range hjn]
        simp [upd]
      · rw [if_neg (by simpa using hjn), List.getElem?_eq_none (by simp; omega)]
    · rw [if_neg hq, List.getElem?_map, List.getElem?_map]
      by_cases hqn : q < n
      · rw [List.getElem?_range hqn]
        simp [upd, Ne.symm hq]
      · rw [List.getElem?_eq_none (by simp; omega)]
        rfl
  · rw [if_neg hp]
    by_cases hpn : p < n
    · rw [List.getElem?_map, List.getElem?_map, List.getElem?_range hpn]
      simp [upd, Ne.symm hp]
    · rw [List.getElem?_eq_none (by simp; omega), List.getElem?_eq_none (by simp; omega)]

theorem none_ev (n : Nat) (hn : n ≤ 1000) : Ev (fun k => colloquyref03_none.f k (n : Int)) (tb n fun _ _ => false) := by
  have key : ∀ (d i : Nat), d = n - i → i ≤ n → Ev (fun k => colloquyref03_none.l0 k (n : Int) (List.replicate i (List.replicate n false)) (i : Int)) (tb n fun _ _ => false) := by
    intro d
    induction d with
    | zero =>
      intro i hd hi
      obtain rfl : i = n := by omega
      refine Ev.succ ((Ev.ret _).congr fun k => ?_)
      rw [colloquyref03_none.l0, if_neg (by omega)]
      congr 1
      apply List.ext_getElem?
      intro p
      unfold tb
      by_cases hp : p < i
      · rw [List.getElem?_map, List.getElem?_range hp, List.getElem?_replicate, if_pos hp]
        simp only [Option.map_some]
        congr 1
        apply List.ext_getElem?
        intro q
        by_cases hq : q < i
        · rw [List.getElem?_map, List.getElem?_range hq, List.getElem?_replicate, if_pos hq]; rfl
        · rw [List.getElem?_eq_none (by simp; omega), List.getElem?_eq_none (by simp; omega)]
      · rw [List.getElem?_eq_none (by simp; omega), List.getElem?_eq_none (by simp; omega)]
    | succ d hd =>
      intro i hdi hi
      have hn' := hd (i + 1) (by omega) (by omega)
      refine Ev.succ (hn'.congr fun k => ?_)
      rw [colloquyref03_none.l0, if_pos (by omega), if_pos (by omega), if_pos (by omega), if_pos (by simp; omega), w64 (z := (i : Int) + 1) (by omega) (by omega), Int.toNat_natCast]
      congr 1
      rw [List.replicate_succ']
  have := key n 0 (by omega) (Nat.zero_le _)
  exact this.congr fun k => by simp only [colloquyref03_none.f]; rfl

theorem same_ev (n : Nat) (hn : n ≤ 1000) : Ev (fun k => colloquyref03_same.f k (n : Int)) (tb n fun i j => decide (i = j)) := by
  have key : ∀ (d i : Nat) (f : Nat → Nat → Bool), d = n - i → i ≤ n → (∀ p q, f p q = decide (p = q ∧ p < i)) → Ev (fun k => colloquyref03_same.l0 k (n : Int) (tb n f) (i : Int)) (tb n fun i j => decide (i = j)) := by
    intro d
    induction d with
    | zero =>
      intro i f hd hi hf
      obtain rfl : i = n := by omega
      refine Ev.succ ((Ev.ret _).congr fun k => ?_)
      rw [colloquyref03_same.l0, if_neg (by omega)]
      congr 1
      refine tb_congr fun p q hp hq => ?_
      rw [hf]
      congr 1
      apply propext
      omega
    | succ d hd =>
      intro i f hdi hi hf
      have hil : i < n := by omega
      have hn' := hd (i + 1) (upd f i i true) (by omega) (by omega) (fun p q => by
        unfold upd
        split
        · rename_i h; simp; omega
        · rename_i h
          rw [hf]
          congr 1
          apply propext
          omega)
      refine Ev.succ (hn'.congr fun k => ?_)
      rw [colloquyref03_same.l0, if_pos (by omega), if_pos (by omega), if_pos (by rw [tb_len]; omega), if_pos (by rw [row_len hil]; omega), w64 (z := (i : Int) + 1) (by omega) (by omega), Int.toNat_natCast, tb_set hil]
      rfl
  have := key n 0 (fun _ _ => false) (by omega) (Nat.zero_le _) (fun p q => by simp)
  exact (Ev.bind (g := fun k t => colloquyref03_same.l0 k (n : Int) t 0) (none_ev n hn) this).congr fun k => by simp only [colloquyref03_same.f]

/-- Some of the places ahead of n. -/
def ex (n : Nat) (g : Nat → Bool) : Bool := (List.range n).any g
theorem ex_iff (n : Nat) (g : Nat → Bool) : ex n g = true ↔ ∃ k, k < n ∧ g k = true := by simp [ex]

theorem either_ev (n : Nat) (hn : n ≤ 1000) (f g : Nat → Nat → Bool) : Ev (fun k => colloquyref03_either.f k (tb n f) (tb n g)) (tb n fun i j => f i j || g i j) := by
  have hlen : ∀ h : Nat → Nat → Bool, ((tb n h).length : Int) = n := fun h => by rw [tb_len]
  -- a row
  have row : ∀ (d i j : Nat) (h : Nat → Nat → Bool) (r : List (List Bool)), d = n - j → i < n → j ≤ n →
      (∀ h' : Nat → Nat → Bool, (∀ p q, p < n → q < n → h' p q = if p = i ∧ j ≤ q then (f p q || g p q) else h p q) → Ev (fun k => colloquyref03_either.l0 k (tb n f) (tb n g) (tb n h') ((i + 1 : Nat) : Int)) r) → Ev (fun k => colloquyref03_either.l1 k (tb n f) (tb n g) (tb n h) (i : Int) (j : Int)) r := by
    intro d
    induction d with
    | zero =>
      intro i j h r hd hi hj hr
      obtain rfl : j = n := by omega
      refine Ev.succ ((hr h (fun p q hp hq => by rw [if_neg (by omega)])).congr fun k => ?_)
      rw [colloquyref03_either.l1, if_neg (by rw [hlen]; omega), w64 (z := (i : Int) + 1) (by omega) (by omega)]
      rfl
    | succ d hd =>
      intro i j h r hdj hi hj hr
      have hjl : j < n := by omega
      have hn' := hd i (j + 1) (upd h i j (f i j || g i j)) r (by omega) hi (by omega) (fun h' hh' => hr h' (fun p q hp hq => by
        rw [hh' p q hp hq]
        unfold upd
        by_cases a : p = i
        · subst a
          by_cases b : q = j
          · subst b; simp
          · by_cases c : j ≤ q
            · rw [if_pos (by omega), if_pos (by omega)]
            · rw [if_neg (by omega), if_neg (by omega), if_neg (by omega)]
        · rw [if_neg (by omega), if_neg (by omega), if_neg (by omega)]))
      refine Ev.succ (hn'.congr fun k => ?_)
      rw [colloquyref03_either.l1, if_pos (by rw [hlen]; omega), if_pos (by omega), if_pos (by rw [hlen]; omega), if_pos (by rw [hlen]; omega), if_pos (by omega), if_pos (by rw [row_len hi]; omega), tb_get hi hjl]
      by_cases c : f i j = true
      · rw [if_pos c, if_pos (by rw [row_len hi]; omega), Int.toNat_natCast, Int.toNat_natCast, tb_set hi, w64 (z := (j : Int) + 1) (by omega) (by omega), c]
        rfl
      · have c' : f i j = false := by simpa using c
        rw [if_neg c, if_pos (by rw [hlen]; omega), if_pos (by rw [row_len hi]; omega), if_pos (by rw [row_len hi]; omega), tb_get hi hjl, Int.toNat_natCast, Int.toNat_natCast, tb_set hi, w64 (z := (j : Int) + 1) (by omega) (by omega), c', Bool.false_or]
        rfl
  have all : ∀ (d i : Nat) (h : Nat → Nat → Bool), d = n - i → i ≤ n → (∀ p q, p < n → q < n → h p q = (if p < i then (f p q || g p q) else false)) → Ev (fun k => colloquyref03_either.l0 k (tb n f) (tb n g) (tb n h) (i : Int)) (tb n fun i j => f i j || g i j) := by
    intro d
    induction d with
    | zero =>
      intro i h hd hi hh
      obtain rfl : i = n := by omega
      refine Ev.succ ((Ev.ret _).congr fun k => ?_)
      rw [colloquyref03_either.l0, if_neg (by rw [hlen]; omega)]
      congr 1
      exact tb_congr fun p q hp hq => by rw [hh p q hp hq, if_pos hp]
    | succ d hd =>
      intro i h hdi hi hh
      have hil : i < n := by omega
      refine Ev.succ ((row n i 0 h _ (by omega) hil (Nat.zero_le _) (fun h' hh' => hd (i + 1) h' (by omega) (by omega) (fun p q hp hq => by
        rw [hh' p q hp hq, hh p q hp hq]
        by_cases a : p = i
        · subst a; rw [if_pos (by omega), if_pos (by omega)]
        · by_cases b : p < i
          · rw [if_neg (by omega), if_pos b, if_pos (by omega)]
          · rw [if_neg (by omega), if_neg b, if_neg (by omega)]))).congr fun k => ?_)
      rw [colloquyref03_either.l0, if_pos (by rw [hlen]; omega)]
      rfl
  have := all n 0 (fun _ _ => false) (by omega) (Nat.zero_le _) (fun p q _ _ => by rw [if_neg (by omega)])
  refine (Ev.bind (g := fun k t => colloquyref03_either.l0 k (tb n f) (tb n g) t 0) (none_ev n hn) this).congr fun k => ?_
  simp only [colloquyref03_either.f, tb_len]

theorem or_no {A B : Prop} (h : ¬ B) : A ↔ A ∨ B := ⟨.inl, fun c => c.resolve_right h⟩

theorem both_ev (n : Nat) (hn : n ≤ 1000) (f g : Nat → Nat → Bool) : Ev (fun k => colloquyref03_both.f k (tb n f) (tb n g)) (tb n fun i j => ex n fun k => f i k && g k j) := by
  have hlen : ∀ h : Nat → Nat → Bool, ((tb n h).length : Int) = n := fun h => by rw [tb_len]
  have col : ∀ (d i m j : Nat) (h : Nat → Nat → Bool) (r : List (List Bool)), d = n - j → i < n → m < n → j ≤ n →
      (∀ h' : Nat → Nat → Bool, (∀ p q, p < n → q < n → (h' p q = true ↔ h p q = true ∨ (p = i ∧ j ≤ q ∧ f i m = true ∧ g m q = true))) → Ev (fun k => colloquyref03_both.l1 k (tb n f) (tb n g) (tb n h') (i : Int) ((m + 1 : Nat) : Int)) r) → Ev (fun k => colloquyref03_both.l2 k (tb n f) (tb n g) (tb n h) (i : Int) (m : Int) (j : Int)) r := by
    intro d
    induction d with
    | zero =>
      intro i m j h r hd hi hm hj hr
      obtain rfl : j = n := by omega
      refine Ev.succ ((hr h (fun p q hp hq => or_no (by omega))).congr fun k => ?_)
      rw [colloquyref03_both.l2, if_neg (by rw [hlen]; omega), w64 (z := (m : Int) + 1) (by omega) (by omega)]
      rfl
    | succ d hd =>
      intro i m j h r hdj hi hm hj hr
      have hjl : j < n := by omega
      by_cases hf : f i m = true
      · have hn' := hd i m (j + 1) (upd h i j (h i j || g m j)) r (by omega) hi hm (by omega) (fun h' hh' => hr h' (fun p q hp hq => by
          rw [hh' p q hp hq]
          unfold upd
          by_cases a : p = i ∧ q = j
          · obtain ⟨rfl, rfl⟩ := a
            rw [if_pos ⟨rfl, rfl⟩, Bool.or_eq_true]
            constructor
            · rintro ((c | c) | ⟨_, c, _⟩)
              · exact .inl c
              · exact .inr ⟨rfl, Nat.le_refl _, hf, c⟩
              · omega
            · rintro (c | ⟨_, _, _, c⟩)
              · exact .inl (.inl c)
              · exact .inl (.inr c)
          · rw [if_neg a]
            constructor
            · rintro (c | ⟨c1, c2, c3, c4⟩)
              · exact .inl c
              · exact .inr ⟨c1, by omega, c3, c4⟩
            · rintro (c | ⟨c1, c2, c3, c4⟩)
              · exact .inl c
              · exact .inr ⟨c1, by have : q ≠ j := fun e => a ⟨c1, e⟩; omega, c3, c4⟩))
        refine Ev.succ (hn'.congr fun k => ?_)
        rw [colloquyref03_both.l2, if_pos (by rw [hlen]; omega), if_pos (by omega), if_pos (by rw [hlen]; omega), if_pos (by omega), if_pos (by rw [row_len hi]; omega), tb_get hi hm, if_pos hf, if_pos (by rw [hlen]; omega), if_pos (by omega), if_pos (by rw [row_len hi]; omega), tb_get hi hjl]
        by_cases c : h i j = true
        · rw [if_pos c, Int.toNat_natCast, Int.toNat_natCast, tb_set hi, w64 (z := (j : Int) + 1) (by omega) (by omega), c]
          rfl
        · have c' : h i j = false := by simpa using c
          rw [if_neg c, if_pos (by rw [hlen]; omega), if_pos (by rw [row_len hm]; omega), tb_get hm hjl, Int.toNat_natCast, Int.toNat_natCast, tb_set hi, w64 (z := (j : Int) + 1) (by omega) (by omega), c', Bool.false_or]
          rfl
      · refine Ev.succ ((hr h (fun p q hp hq => or_no (fun c => hf c.2.2.1))).congr fun k => ?_)
        rw [colloquyref03_both.l2, if_pos (by rw [hlen]; omega), if_pos (by omega), if_pos (by rw [hlen]; omega), if_pos (by omega), if_pos (by rw [row_len hi]; omega), tb_get hi hm, if_neg hf, w64 (z := (m : Int) + 1) (by omega) (by omega)]
        rfl
  have row : ∀ (d i m : Nat) (h : Nat → Nat → Bool) (r : List (List Bool)), d = n - m → i < n → m ≤ n →
      (∀ h' : Nat → Nat → Bool, (∀ p q, p < n → q < n → (h' p q = true ↔ h p q = true ∨ (p = i ∧ ∃ m', m ≤ m' ∧ m' < n ∧ f i m' = true ∧ g m' q = true))) → Ev (fun k => colloquyref03_both.l0 k (tb n f) (tb n g) (tb n h') ((i + 1 : Nat) : Int)) r) → Ev (fun k => colloquyref03_both.l1 k (tb n f) (tb n g) (tb n h) (i : Int) (m : Int)) r := by
    intro d
    induction d with
    | zero =>
      intro i m h r hd hi hm hr
      obtain rfl : m = n := by omega
      refine Ev.succ ((hr h (fun p q hp hq => or_no (fun ⟨_, m', c1, c2, _⟩ => by omega))).congr fun k => ?_)
      rw [colloquyref03_both.l1, if_neg (by rw [hlen]; omega), w64 (z := (i : Int) + 1) (by omega) (by omega)]
      rfl
    | succ d hd =>
      intro i m h r hdj hi hm hr
      have hml : m < n := by omega
      refine Ev.succ ((col n i m 0 h r (by omega) hi hml (Nat.zero_le _) (fun h1 hh1 => hd i (m + 1) h1 r (by omega) hi (by omega) (fun h' hh' => hr h' (fun p q hp hq => by
        rw [hh' p q hp hq, hh1 p q hp hq]
        constructor
        · rintro ((c | ⟨c1, _, c3, c4⟩) | ⟨c1, m', c2, c3, c4, c5⟩)
          · exact .inl c
          · exact .inr ⟨c1, m, Nat.le_refl _, hml, c3, c4⟩
          · exact .inr ⟨c1, m', by omega, c3, c4, c5⟩
        · rintro (c | ⟨c1, m', c2, c3, c4, c5⟩)
          · exact .inl (.inl c)
          · by_cases e : m' = m
            · subst e; exact .inl (.inr ⟨c1, Nat.zero_le _, c4, c5⟩)
            · exact .inr ⟨c1, m', by omega, c3, c4, c5⟩)))).congr fun k => ?_)
      rw [colloquyref03_both.l1, if_pos (by rw [hlen]; omega)]
      rfl
  have all : ∀ (d i : Nat) (h : Nat → Nat → Bool), d = n - i → i ≤ n → (∀ p q, p < n → q < n → (h p q = true ↔ (p < i ∧ ∃ m', m' < n ∧ f p m' = true ∧ g m' q = true))) → Ev (fun k => colloquyref03_both.l0 k (tb n f) (tb n g) (tb n h) (i : Int)) (tb n fun i j => ex n fun k => f i k && g k j) := by
    intro d
    induction d with
    | zero =>
      intro i h hd hi hh
      obtain rfl : i = n := by omega
      refine Ev.succ ((Ev.ret _).congr fun k => ?_)
      rw [colloquyref03_both.l0, if_neg (by rw [hlen]; omega)]
      congr 1
      refine tb_congr fun p q hp hq => ?_
      rw [Bool.eq_iff_iff, hh p q hp hq, ex_iff]
      constructor
      · rintro ⟨_, m', c1, c2, c3⟩; exact ⟨m', c1, by rw [c2, c3]; rfl⟩
      · rintro ⟨m', c1, c2⟩
        rw [Bool.and_eq_true] at c2
        exact ⟨hp, m', c1, c2.1, c2.2⟩
    | succ d hd =>
      intro i h hdi hi hh
      have hil : i < n := by omega
      refine Ev.succ ((row n i 0 h _ (by omega) hil (Nat.zero_le _) (fun h' hh' => hd (i + 1) h' (by omega) (by omega) (fun p q hp hq => by
        rw [hh' p q hp hq, hh p q hp hq]
        constructor
        · rintro (⟨c, c2⟩ | ⟨rfl, m', _, c3⟩)
          · exact ⟨by omega, c2⟩
          · exact ⟨by omega, m', c3⟩
        · rintro ⟨c, m', c3⟩
          by_cases e : p = i
          · subst e; exact .inr ⟨rfl, m', Nat.zero_le _, c3⟩
          · exact .inl ⟨by omega, m', c3⟩))).congr fun k => ?_)
      rw [colloquyref03_both.l0, if_pos (by rw [hlen]; omega)]
      rfl
  have := all n 0 (fun _ _ => false) (by omega) (Nat.zero_le _) (fun p q _ _ => ⟨fun c => (by cases c), fun c => (by omega)⟩)
  refine (Ev.bind (g := fun k t => colloquyref03_both.l0 k (tb n f) (tb n g) t 0) (none_ev n hn) this).congr fun k => ?_
  simp only [colloquyref03_both.f, tb_len]

end Go.Proofs.Ytmhodkkfbbpgaaa.Fac
