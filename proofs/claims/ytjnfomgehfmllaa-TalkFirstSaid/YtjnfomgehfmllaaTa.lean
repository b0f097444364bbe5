/- Plain: a session with a board, a buffer, a wait for texts. No program in sight. -/
import Derived.Test.YtjnfomgehfmllaaBy
namespace Go.Proofs.Ytjnfomgehfmllaa.Tk
set_option linter.unusedVariables false
set_option linter.unusedSimpArgs false
open Go.RowKit Go.Proofs.Ytjnfomgehfmllaa.By

/-- Where a text stands in some bytes, first. -/
def ix (b : List Int) (x : ByteArray) : Int := Lib.index (Lib.bytesOf b) x.data.toList
theorem bytesOf_len (b : List Int) : (Lib.bytesOf b).length = b.length := by simp [Lib.bytesOf]
theorem ix_rng (b : List Int) (x : ByteArray) : -1 ≤ ix b x ∧ (0 ≤ ix b x → ix b x + (x.size : Int) ≤ (b.length : Int)) := by
  refine ⟨Lib.index_ge _ _, fun h => ?_⟩
  have := Lib.index_room (Lib.bytesOf b) x.data.toList h
  rw [bytesOf_len] at this
  have e : x.data.toList.length = x.size := by simp
  rw [e] at this
  exact this
/-- What a board says, and how it ends. -/
structure Ln where
  chunks : List (Int × List Int)
  fin : Int
  wt : Int
/-- How far a session has come. -/
structure Ld where
  at_ : Nat
  now : Int
  last : Int
def ticks (n : Int) : Int := min (max n 0) 1000000
theorem ticks_rng (n : Int) : 0 ≤ ticks n ∧ ticks n ≤ 1000000 := by unfold ticks; omega
def due (s : Ln) (d : Ld) : Int × Int :=
  match s.chunks[d.at_]? with
  | some c => (d.last + ticks c.1, 1)
  | none => if s.fin = 1 then (d.last + ticks s.wt, 2) else if s.fin = 2 then (d.last + ticks s.wt, 3) else (0, 4)
/-- What comes next. -/
def nextP (s : Ln) (d : Ld) (lim : Int) : Int × List Int × Ld :=
  if (due s d).2 = 4 ∨ max lim d.now < (due s d).1 then (4, [], ⟨d.at_, max d.now lim, d.last⟩)
  else if (due s d).2 ≠ 1 then ((due s d).2, [], ⟨d.at_, max d.now (due s d).1, d.last⟩)
  else (1, (s.chunks[d.at_]?.getD (0, [])).2, ⟨d.at_ + 1, max d.now (due s d).1, (due s d).1⟩)
/-- How many bytes go when some come. -/
def over (most : Nat) (b x : List Int) : Nat := b.length + x.length - most
def putP (most : Nat) (b x : List Int) : List Int := (b ++ x).drop (over most b x)
/-- A clause: its kind, the text that it looks for. -/
abbrev Cl := Int × Option ByteArray
def firstK : List Cl → Int → Nat → Int
  | [], _, _ => -1
  | c :: cs, k, i => if c.1 = k then (i : Int) else firstK cs k (i + 1)
/-- The first clause that finds, from a number on: its number, from where, to where. -/
def lookP : List Cl → List Int → Nat → Option (Nat × Int × Int)
  | [], _, _ => none
  | c :: cs, b, i =>
    match c.2 with
    | none => lookP cs b (i + 1)
    | some x => if 0 ≤ ix b x then some (i, ix b x, ix b x + (x.size : Int)) else lookP cs b (i + 1)
structure Out where
  kind : Int
  clause : Int
  text : List Int
  gone : Int
/-- How a wait ends. -/
def waitP (s : Ln) (cs : List Cl) (most : Nat) (until_ bound : Int) : Nat → Ld → List Int → Bool → Int → Out × Ld × List Int
  | 0, d, b, _, gone => (⟨0, 0, [], gone⟩, d, b)
  | n + 1, d, b, came, gone =>
    match lookP cs b 0 with
    | some q => (⟨1, (q.1 : Int), (b.take q.2.2.toNat).drop q.2.1.toNat, gone⟩, d, b.drop q.2.2.toNat)
    | none =>
      if came = true ∧ 0 ≤ firstK cs 7 0 ∧ b.length = most then (⟨2, firstK cs 7 0, b, gone⟩, d, [])
      else if (nextP s d (min until_ bound)).1 = 1 then waitP s cs most until_ bound n (nextP s d (min until_ bound)).2.2 (putP most b (nextP s d (min until_ bound)).2.1) true (gone + ((over most b (nextP s d (min until_ bound)).2.1 : Nat) : Int))
      else if (nextP s d (min until_ bound)).1 = 2 then (⟨3, firstK cs 5 0, [], gone⟩, (nextP s d (min until_ bound)).2.2, b)
      else if (nextP s d (min until_ bound)).1 = 3 then (⟨4, firstK cs 6 0, [], gone⟩, (nextP s d (min until_ bound)).2.2, b)
      else if bound < until_ then (⟨6, -1, [], gone⟩, (nextP s d (min until_ bound)).2.2, b)
      else (⟨5, firstK cs 4 0, [], gone⟩, (nextP s d (min until_ bound)).2.2, b)
theorem lookP_rng : ∀ (cs : List Cl) (b : List Int) (i : Nat) (q : Nat × Int × Int), lookP cs b i = some q → i ≤ q.1 ∧ q.1 < i + cs.length ∧ 0 ≤ q.2.1 ∧ q.2.1 ≤ q.2.2 ∧ q.2.2 ≤ (b.length : Int)
  | [], b, i, q, h => by cases h
  | c :: cs, b, i, q, h => by
    rw [lookP] at h
    split at h
    · have := lookP_rng cs b (i + 1) q h
      simp only [List.length_cons]; omega
    · rename_i x _
      split at h
      · rename_i hok
        injection h with h
        subst h
        have := (ix_rng b x).2 hok
        simp only [List.length_cons]
        exact ⟨Nat.le_refl _, by omega, hok, by omega, this⟩
      · have := lookP_rng cs b (i + 1) q h
        simp only [List.length_cons]; omega
theorem firstK_rng : ∀ (cs : List Cl) (k : Int) (i : Nat), -1 ≤ firstK cs k i ∧ firstK cs k i < (i + cs.length : Nat)
  | [], k, i => by rw [firstK]; simp only [List.length_nil]; omega
  | c :: cs, k, i => by
    rw [firstK]
    have := firstK_rng cs k (i + 1)
    simp only [List.length_cons]
    split <;> omega
theorem putP_len (most : Nat) (b x : List Int) : (putP most b x).length ≤ most := by
  unfold putP over
  rw [List.length_drop, List.length_append]
  omega
theorem next_at (s : Ln) (d : Ld) (lim : Int) (h : (nextP s d lim).1 = 1) : d.at_ < s.chunks.length ∧ (nextP s d lim).2.2.at_ = d.at_ + 1 := by
  unfold nextP at h ⊢
  by_cases h1 : (due s d).2 = 4 ∨ max lim d.now < (due s d).1
  · rw [if_pos h1] at h; cases h
  · rw [if_neg h1] at h ⊢
    by_cases h2 : (due s d).2 ≠ 1
    · rw [if_pos h2] at h
      exact (h2 h).elim
    · rw [if_neg h2]
      refine ⟨?_, rfl⟩
      have h3 : (due s d).2 = 1 := by omega
      unfold due at h3
      split at h3
      · rename_i c hc
        exact (List.getElem?_eq_some_iff.1 hc).1
      · repeat' split at h3
        all_goals simp at h3
end Go.Proofs.Ytjnfomgehfmllaa.Tk
