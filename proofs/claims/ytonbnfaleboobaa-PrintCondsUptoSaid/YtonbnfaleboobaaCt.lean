/- Plain: a condition's text, how long it is, which conditions are right. -/
import Derived.Test.YtonbnfaleboobaaPPrintCondsx0
import Derived.Test.YtonbnfaleboobaaQuo
import Derived.Lib.Join
namespace Go.Proofs.Ytonbnfaleboobaa.Pr
set_option linter.unusedVariables false
set_option linter.unusedSimpArgs false
open Go.RowKit Go.Proofs.Ytonbnfaleboobaa.PPrintConds Quo

abbrev Cd := S24
def paren (s : ByteArray) : ByteArray := (⟨#[40]⟩ ++ s) ++ ⟨#[41]⟩
def kindsOf (k : Int) : List Int := if k = 5 then [5] else [4, 5]
def wB (k k2 : Int) (t : ByteArray) : ByteArray := if k2 ∈ kindsOf k then paren t else t
def hdB : List ByteArray → ByteArray
  | [] => ⟨#[]⟩
  | x :: _ => x
def joinB (xs : List ByteArray) (sep : ByteArray) : ByteArray := ⟨(Lib.join (xs.map (·.data.toList)) sep.data.toList).toArray⟩
def topB (k : Int) (n v : ByteArray) (l : List ByteArray) : ByteArray :=
  if k = 1 then (n ++ ⟨#[32, 61, 32]⟩) ++ quot v else if k = 2 then (n ++ ⟨#[32, 33, 61, 32]⟩) ++ quot v
  else if k = 3 then ⟨#[33]⟩ ++ hdB l else if k = 4 then joinB l ⟨#[32, 38, 32]⟩ else joinB l ⟨#[32, 124, 32]⟩
mutual
def ctB : Cd → ByteArray
  | ⟨k, n, v, l⟩ => topB k n v (ctL k l)
def ctL (k : Int) : List Cd → List ByteArray
  | [] => []
  | c :: l => wB k c.f0 (ctB c) :: ctL k l
end
mutual
def blk : Cd → Nat
  | ⟨_, n, v, l⟩ => 1 + n.size + v.size + blkL l
def blkL : List Cd → Nat
  | [] => 0
  | c :: l => blk c + blkL l
end
-- A Not has one kid.
mutual
def shp : Cd → Prop
  | ⟨k, _, _, l⟩ => (k = 3 → l.length = 1) ∧ shpL l
def shpL : List Cd → Prop
  | [] => True
  | c :: l => shp c ∧ shpL l
end

theorem blk_pos (c : Cd) : 0 < blk c := by cases c; simp only [blk]; omega
theorem ctL_len (k : Int) (l : List Cd) : (ctL k l).length = l.length := by
  induction l with
  | nil => rfl
  | cons c l ih => simp only [ctL, List.length_cons, ih]
theorem len_blkL (l : List Cd) : l.length ≤ blkL l := by
  induction l with
  | nil => simp
  | cons c l ih => have := blk_pos c; simp only [blkL, List.length_cons]; omega
theorem blkL_mem {l : List Cd} : ∀ x, x ∈ l → blk x ≤ blkL l := by
  induction l with
  | nil => intro x hx; simp at hx
  | cons y l ih =>
    intro x hx
    simp only [blkL]
    rcases List.mem_cons.1 hx with rfl | hx
    · omega
    · have := ih x hx; omega
theorem shpL_mem {l : List Cd} (h : shpL l) : ∀ x, x ∈ l → shp x := by
  induction l with
  | nil => intro x hx; simp at hx
  | cons y l ih =>
    simp only [shpL] at h
    intro x hx
    rcases List.mem_cons.1 hx with rfl | hx
    · exact h.1
    · exact ih h.2 x hx
theorem ctL_take (k : Int) (l : List Cd) (j : Nat) (h : j < l.length) : ctL k (l.take (j + 1)) = ctL k (l.take j) ++ [wB k l[j].f0 (ctB l[j])] := by
  induction l generalizing j with
  | nil => simp at h
  | cons c l ih =>
    cases j with
    | zero => simp [ctL]
    | succ j =>
      simp only [List.take_succ_cons, ctL, List.cons_append]
      rw [ih j (by simpa using h)]
      rfl

def tot (l : List ByteArray) : Nat := (l.map ByteArray.size).sum
theorem joinB_size (xs : List ByteArray) (sep : ByteArray) : (Lib.join (xs.map (·.data.toList)) sep.data.toList).length ≤ tot xs + sep.size * xs.length := by
  unfold Lib.join tot
  induction xs with
  | nil => simp
  | cons x xs ih =>
    cases xs with
    | nil => simp
    | cons y ys =>
      simp only [List.map_cons, List.intercalate_cons_cons, List.length_append, List.sum_cons, List.length_cons, Array.length_toList] at ih ⊢
      have h1 : x.data.size = x.size := rfl
      have h2 : sep.data.size = sep.size := rfl
      have h3 : sep.size * (ys.length + 1 + 1) = sep.size * (ys.length + 1) + sep.size := by rw [Nat.mul_succ]
      omega
theorem size_mk (l : List UInt8) : (⟨l.toArray⟩ : ByteArray).size = l.length := by simp [ByteArray.size]
theorem joinB_size' (xs : List ByteArray) (sep : ByteArray) : (joinB xs sep).size ≤ tot xs + sep.size * xs.length := by
  unfold joinB; rw [size_mk]; exact joinB_size xs sep
theorem quot_size (s : ByteArray) : (quot s).size ≤ 4 * s.size + 2 := by
  unfold quot strOfNums
  rw [size_mk, List.length_map]
  unfold quotI
  have := flat_len (bI s)
  rw [bI_len] at this
  simp only [List.length_cons, List.length_append, List.length_nil]
  omega
theorem paren_size (s : ByteArray) : (paren s).size = s.size + 2 := by
  unfold paren
  simp only [ByteArray.size_append]
  show 1 + s.size + 1 = _
  omega
theorem wB_size (k k2 : Int) (t : ByteArray) : (wB k k2 t).size ≤ t.size + 2 := by
  unfold wB
  split
  · rw [paren_size]; omega
  · omega

mutual
theorem ctB_size (c : Cd) : (ctB c).size + 8 ≤ 16 * blk c := by
  obtain ⟨k, n, v, l⟩ := c
  have hq := quot_size v
  have hl := ctL_size k l
  have h3 : (⟨#[32, 61, 32]⟩ : ByteArray).size = 3 := rfl
  have h4 : (⟨#[32, 33, 61, 32]⟩ : ByteArray).size = 4 := rfl
  have h1 : (⟨#[33]⟩ : ByteArray).size = 1 := rfl
  simp only [ctB, blk, topB]
  split
  · rw [ByteArray.size_append, ByteArray.size_append, h3]; omega
  · split
    · rw [ByteArray.size_append, ByteArray.size_append, h4]; omega
    · split
      · rw [ByteArray.size_append, h1]
        have : (hdB (ctL k l)).size ≤ tot (ctL k l) := by
          cases ctL k l with
          | nil => exact Nat.zero_le _
          | cons x xs => simp [hdB, tot]
        omega
      · split
        · have := joinB_size' (ctL k l) ⟨#[32, 38, 32]⟩
          rw [show (⟨#[32, 38, 32]⟩ : ByteArray).size = 3 from rfl] at this
          omega
        · have := joinB_size' (ctL k l) ⟨#[32, 124, 32]⟩
          rw [show (⟨#[32, 124, 32]⟩ : ByteArray).size = 3 from rfl] at this
          omega
theorem ctL_size (k : Int) (l : List Cd) : tot (ctL k l) + 3 * (ctL k l).length ≤ 16 * blkL l := by
  cases l with
  | nil => simp [ctL, tot]
  | cons c l =>
    have h1 := ctB_size c
    have h2 := ctL_size k l
    have h3 := wB_size k c.f0 (ctB c)
    simp only [ctL, blkL, tot, List.map_cons, List.sum_cons, List.length_cons] at h2 ⊢
    omega
end

/-- What the document has made of the first parts. -/
def sepB (k : Int) : ByteArray := if k = 4 then ⟨#[32, 38, 32]⟩ else ⟨#[32, 124, 32]⟩
def accB (k : Int) (xs : List ByteArray) : ByteArray := if k = 3 then (match xs with | [] => ⟨#[]⟩ | x :: _ => ⟨#[33]⟩ ++ x) else joinB xs (sepB k)
theorem join_snoc (xs : List (List UInt8)) (y sep : List UInt8) (h : xs ≠ []) : Lib.join (xs ++ [y]) sep = (Lib.join xs sep ++ sep) ++ y := by
  unfold Lib.join
  induction xs with
  | nil => exact (h rfl).elim
  | cons x xs ih =>
    cases xs with
    | nil => simp [List.intercalate_cons_cons]
    | cons z zs =>
      have := ih (by simp)
      simp only [List.cons_append, List.intercalate_cons_cons] at this ⊢
      rw [this]
      simp [List.append_assoc]
theorem ba_ext {a b : ByteArray} (h : a.data.toList = b.data.toList) : a = b := by
  cases a; cases b
  congr 1
  exact Array.toList_inj.1 h
theorem joinB_snoc (xs : List ByteArray) (y sep : ByteArray) (h : xs ≠ []) : joinB (xs ++ [y]) sep = (joinB xs sep ++ sep) ++ y := by
  apply ba_ext
  unfold joinB
  rw [List.map_append, List.map_cons, List.map_nil, join_snoc _ _ _ (by simpa using h)]
  simp [ByteArray.data_append]
theorem joinB_one (y sep : ByteArray) : joinB [y] sep = y := by
  apply ba_ext
  simp [joinB, Lib.join]
theorem blkL_take (l : List Cd) (k : Nat) : blkL (l.take k) ≤ blkL l := by
  induction l generalizing k with
  | nil => simp
  | cons c l ih =>
    cases k with
    | zero => simp [blkL]
    | succ k => have := ih k; simp only [List.take_succ_cons, blkL]; omega
theorem accB_size (k0 : Int) (l : List Cd) (k : Nat) : (accB k0 (ctL k0 (l.take k))).size ≤ 16 * blkL l + 1 := by
  have h1 := ctL_size k0 (l.take k)
  have h2 := blkL_take l k
  unfold accB
  split
  · cases hx : ctL k0 (l.take k) with
    | nil => exact Nat.zero_le _
    | cons x xs =>
      rw [hx] at h1
      simp only [tot, List.map_cons, List.sum_cons, List.length_cons] at h1
      simp only [ByteArray.size_append]
      have : (⟨#[33]⟩ : ByteArray).size = 1 := rfl
      omega
  · have h3 := joinB_size' (ctL k0 (l.take k)) (sepB k0)
    have h4 : (sepB k0).size = 3 := by unfold sepB; split <;> rfl
    rw [h4] at h3
    omega
theorem acc_top (k0 : Int) (n v : ByteArray) (l : List Cd) (h1 : k0 ≠ 1) (h2 : k0 ≠ 2) (h3 : k0 = 3 → l.length = 1) : accB k0 (ctL k0 l) = ctB ⟨k0, n, v, l⟩ := by
  simp only [ctB, topB, accB]
  rw [if_neg h1, if_neg h2]
  by_cases h : k0 = 3
  · rw [if_pos h, if_pos h]
    have := h3 h
    match l, this with
    | [x], _ => simp [ctL, hdB]
  · rw [if_neg h, if_neg h]
    unfold sepB
    split <;> rfl
theorem acc_zero (k0 : Int) (l : List Cd) : accB k0 (ctL k0 (l.take 0)) = ⟨#[]⟩ := by
  simp [accB, ctL, joinB, Lib.join]
theorem acc_not (l : List Cd) (k : Nat) (h : k < l.length) (h1 : l.length = 1) : accB 3 (ctL 3 (l.take (k + 1))) = ⟨#[33]⟩ ++ wB 3 l[k].f0 (ctB l[k]) := by
  obtain rfl : k = 0 := by omega
  match l, h1 with
  | [x], _ => simp [accB, ctL]
theorem acc_first (k0 : Int) (l : List Cd) (h : 0 < l.length) (h3 : k0 ≠ 3) : accB k0 (ctL k0 (l.take (0 + 1))) = wB k0 l[0].f0 (ctB l[0]) := by
  rw [ctL_take k0 l 0 h]
  simp only [List.take_zero, ctL, List.nil_append, accB]
  rw [if_neg h3, joinB_one]
theorem acc_more (k0 : Int) (l : List Cd) (k : Nat) (h : k < l.length) (hk : 0 < k) (h3 : k0 ≠ 3) : accB k0 (ctL k0 (l.take (k + 1))) = (accB k0 (ctL k0 (l.take k)) ++ sepB k0) ++ wB k0 l[k].f0 (ctB l[k]) := by
  rw [ctL_take k0 l k h]
  simp only [accB]
  rw [if_neg h3, if_neg h3, joinB_snoc]
  intro c
  have := congrArg List.length c
  rw [ctL_len, List.length_take] at this
  simp only [List.length_nil] at this
  omega

end Go.Proofs.Ytonbnfaleboobaa.Pr
