/- Plain: the printed trees as regular ones: what is asked of them, how large they are. -/
import Derived.Test.YtmhodkkfbbpgaaaPNfax0
import Derived.Test.YtmhodkkfbbpgaaaRe
namespace Go.Proofs.Ytmhodkkfbbpgaaa.Tree
set_option linter.unusedVariables false
set_option linter.unusedSimpArgs false
open Go.Proofs.Ytmhodkkfbbpgaaa.PNfa Re

abbrev Nd := S25
abbrev Rg := S64

def inR (rs : List Rg) (c : Int) : Bool := rs.any fun r => decide (r.f0 ≤ c) && decide (c ≤ r.f1)

mutual
def re : Nd → Re
  | ⟨k, rs, kids⟩ => if k = 1 then .set (inR rs) else if k = 2 then .cat (reL kids) else if k = 3 then .alt (reL kids) else reK k kids
def reL : List Nd → List Re
  | [] => []
  | x :: l => re x :: reL l
def reK (k : Int) : List Nd → Re
  | [] => .alt []
  | x :: _ => if k = 4 then .star (re x) else if k = 5 then .plus (re x) else .maybe (re x)
end

/-- Numbers of their kinds. -/
def okR (r : Rg) : Prop := (0 ≤ r.f0 ∧ r.f0 ≤ 255) ∧ 0 ≤ r.f1 ∧ r.f1 ≤ 255
mutual
def okT : Nd → Prop
  | ⟨k, rs, kids⟩ => (-9223372036854775808 ≤ k ∧ k ≤ 9223372036854775807) ∧ (∀ r, r ∈ rs → okR r) ∧ okL kids
def okL : List Nd → Prop
  | [] => True
  | x :: l => okT x ∧ okL l
end

-- Right kinds, and kids where they must be.
mutual
def rightT : Nd → Prop
  | ⟨k, _, kids⟩ => (1 ≤ k ∧ k ≤ 6) ∧ (4 ≤ k → kids ≠ []) ∧ rightL kids
def rightL : List Nd → Prop
  | [] => True
  | x :: l => rightT x ∧ rightL l
end

mutual
def sz : Nd → Nat
  | ⟨_, _, kids⟩ => 1 + szL kids
def szL : List Nd → Nat
  | [] => 0
  | x :: l => sz x + szL l
end

theorem sz_pos (x : Nd) : 0 < sz x := by cases x; simp only [sz]; omega
theorem okL_mem {l : List Nd} (h : okL l) : ∀ x, x ∈ l → okT x := by
  induction l with
  | nil => intro x hx; simp at hx
  | cons y l ih =>
    simp only [okL] at h
    intro x hx
    rcases List.mem_cons.1 hx with rfl | hx
    · exact h.1
    · exact ih h.2 x hx
theorem rightL_mem {l : List Nd} (h : rightL l) : ∀ x, x ∈ l → rightT x := by
  induction l with
  | nil => intro x hx; simp at hx
  | cons y l ih =>
    simp only [rightL] at h
    intro x hx
    rcases List.mem_cons.1 hx with rfl | hx
    · exact h.1
    · exact ih h.2 x hx
theorem szL_mem {l : List Nd} : ∀ x, x ∈ l → sz x ≤ szL l := by
  induction l with
  | nil => intro x hx; simp at hx
  | cons y l ih =>
    intro x hx
    simp only [szL]
    rcases List.mem_cons.1 hx with rfl | hx
    · omega
    · have := ih x hx; omega
theorem szL_drop (l : List Nd) (k : Nat) (h : k < l.length) : szL (l.drop k) = sz l[k] + szL (l.drop (k + 1)) := by
  rw [List.drop_eq_getElem_cons h]; simp only [szL]
theorem reL_drop (l : List Nd) (k : Nat) (h : k < l.length) : reL (l.drop k) = re l[k] :: reL (l.drop (k + 1)) := by
  rw [List.drop_eq_getElem_cons h]; simp only [reL]
theorem szL_drop_le (l : List Nd) (k : Nat) : szL (l.drop k) ≤ szL l := by
  induction l generalizing k with
  | nil => simp
  | cons x l ih =>
    cases k with
    | zero => simp
    | succ k => have := ih k; simp only [List.drop_succ_cons, szL]; omega
theorem len_le_szL (l : List Nd) : l.length ≤ szL l := by
  induction l with
  | nil => simp
  | cons x l ih => have := sz_pos x; simp only [szL, List.length_cons]; omega

-- How many states are made.
mutual
theorem bld_len (x : Nd) (tgt : Int) (M : List St) : (bld (re x) tgt M).1.length + 1 ≤ M.length + 2 * sz x := by
  obtain ⟨k, rs, kids⟩ := x
  simp only [re, sz]
  split
  · simp only [bld, List.length_append, List.length_cons, List.length_nil]; omega
  · split
    · simp only [bld]
      have := bldC_len kids tgt M
      omega
    · split
      · simp only [bld]
        have := bldA_len kids tgt M
        split
        · simp only [List.length_append, List.length_cons, List.length_nil]; omega
        · omega
      · cases kids with
        | nil => simp only [reK, bld, bldA]; simp; omega
        | cons y l =>
          simp only [reK, szL]
          split
          · simp only [bld, List.length_set]
            have := bld_len y M.length (M ++ [⟨none, 0, tgt⟩])
            simp only [List.length_append, List.length_cons, List.length_nil] at this
            omega
          · split
            · simp only [bld, List.length_set]
              have := bld_len y M.length (M ++ [⟨none, 0, tgt⟩])
              simp only [List.length_append, List.length_cons, List.length_nil] at this
              omega
            · simp only [bld, List.length_append, List.length_cons, List.length_nil]
              have := bld_len y tgt M
              omega
theorem bldC_len (l : List Nd) (tgt : Int) (M : List St) : (bldC (reL l) tgt M).1.length ≤ M.length + 2 * szL l := by
  cases l with
  | nil => simp [reL, bldC]
  | cons x l =>
    simp only [reL, bldC, szL]
    have h1 := bldC_len l tgt M
    have h2 := bld_len x (bldC (reL l) tgt M).2 (bldC (reL l) tgt M).1
    omega
theorem bldA_len (l : List Nd) (tgt : Int) (M : List St) : (bldA (reL l) tgt M).1.length ≤ M.length + 2 * szL l := by
  cases l with
  | nil => simp [reL, bldA]
  | cons x l =>
    simp only [reL, bldA, szL, List.length_append, List.length_cons, List.length_nil]
    have h1 := bldA_len l tgt M
    have h2 := bld_len x tgt (bldA (reL l) tgt M).1
    omega
end
end Go.Proofs.Ytmhodkkfbbpgaaa.Tree
