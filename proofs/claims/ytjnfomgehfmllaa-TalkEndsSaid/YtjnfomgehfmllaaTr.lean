/- TalkEnds: what is plain of it. -/
import Derived.Test.YtjnfomgehfmllaaTp
namespace Go.Proofs.Ytjnfomgehfmllaa.Tk
set_option linter.unusedVariables false
set_option linter.unusedSimpArgs false
open Go.RowKit Go.Proofs.Ytjnfomgehfmllaa.Mem Go.Proofs.Ytjnfomgehfmllaa.By Go.Proofs.YtjnfomgehfmllaaW.PrintWords Go.Proofs.YtjnfomgehfmllaaW.PrintLast Go.Proofs.YtjnfomgehfmllaaW.PrintMore

theorem and1 (n : Int) : bits .and .i64 n 1 = n % 2 := by
  have hand : (BitVec.ofInt 64 n &&& BitVec.ofInt 64 1).toNat = (n % 2).toNat := by
    rw [BitVec.toNat_and, BitVec.toNat_ofInt]
    show (n % 18446744073709551616).toNat &&& (2 ^ 1 - 1) = _
    rw [Nat.and_two_pow_sub_one_eq_mod]
    omega
  show IntKind.i64.wrap ((BitVec.ofInt 64 n &&& BitVec.ofInt 64 1).toNat : Int) = _
  rw [hand]
  rw [IntWalk.i64_in _ (by omega)]
  omega
/-- The clauses. -/
def csE (x : ByteArray) (has twice : Bool) : List (Int × ByteArray) := [(1, x)] ++ (if has then [(6, ⟨#[]⟩), (5, ⟨#[]⟩)] else []) ++ (if twice then [(5, ⟨#[]⟩), (6, ⟨#[]⟩)] else [])
def wantE (e : Int) (has twice : Bool) : Int := if has = true ∧ e = 1 then 2 else if has then 1 else if twice = true ∧ e = 1 then 1 else if twice then 2 else -1
theorem ix_long {b : List Int} {x : ByteArray} (h : b.length < x.size) : ix b x < 0 := by
  have := ix_rng b x
  by_cases h1 : 0 ≤ ix b x
  · have := this.2 h1; omega
  · omega
theorem look_E (x : ByteArray) (has twice : Bool) (b : List Int) (h : b.length < x.size) : lookP ((csE x has twice).map toCl) b 0 = none := by
  have h1 : ¬ 0 ≤ ix b x := by have := ix_long h; omega
  cases has <;> cases twice <;> simp [csE, toCl, lookP, h1]
theorem first_E (x : ByteArray) (has twice : Bool) : firstK ((csE x has twice).map toCl) 7 0 = -1 ∧ firstK ((csE x has twice).map toCl) 5 0 = wantE 1 has twice ∧ firstK ((csE x has twice).map toCl) 6 0 = wantE 2 has twice := by
  cases has <;> cases twice <;> simp [csE, toCl, firstK, wantE]
abbrev lnE (s : List Int) (e : Int) : Ln := ⟨[(1, s)], e, 2⟩
def resE (s : List Int) (e : Int) (has twice : Bool) : Out × Ld × List Int := (⟨e + 2, wantE e has twice, [], 0⟩, ⟨1, 3, 1⟩, s)
theorem wait_E2 (s : List Int) (x : ByteArray) (has twice : Bool) (e : Int) (he : e = 1 ∨ e = 2) (hx : s.length < x.size) (n : Nat) (now : Int) (hnow : now ≤ 3) (came : Bool) (gone : Int) (hg : gone = 0) : waitP (lnE s e) ((csE x has twice).map toCl) 200 100 1000 (n + 1) ⟨1, now, 1⟩ s came gone = resE s e has twice := by
  subst hg
  obtain ⟨f7, f5, f6⟩ := first_E x has twice
  rw [waitP, look_E x has twice s hx]
  simp only [f7, f5, f6]
  rw [if_neg (by omega)]
  have hd : due (lnE s e) ⟨1, now, 1⟩ = (3, e + 1) := by
    rcases he with rfl | rfl <;> rfl
  have hn : nextP (lnE s e) ⟨1, now, 1⟩ (min 100 1000) = (e + 1, [], ⟨1, 3, 1⟩) := by
    unfold nextP
    rw [hd, if_neg (by simp only; omega), if_pos (by simp only; omega)]
    simp only
    rw [show max now 3 = 3 by omega]
  rw [hn]
  simp only
  rcases he with rfl | rfl
  · rw [if_neg (by decide), if_pos (by decide)]; rfl
  · rw [if_neg (by decide), if_neg (by decide), if_pos (by decide)]; rfl
theorem wait_E1 (s : List Int) (x : ByteArray) (has twice : Bool) (e : Int) (he : e = 1 ∨ e = 2) (hx : s.length < x.size) (hs : s.length ≤ 200) (n : Nat) : waitP (lnE s e) ((csE x has twice).map toCl) 200 100 1000 (n + 2) ⟨0, 0, 0⟩ [] false 0 = resE s e has twice := by
  rw [waitP, look_E x has twice [] (by simp; omega)]
  simp only
  rw [if_neg (by simp)]
  have hn : nextP (lnE s e) ⟨0, 0, 0⟩ (min 100 1000) = (1, s, ⟨1, 1, 1⟩) := rfl
  rw [hn]
  simp only
  rw [if_pos trivial]
  have h0 : over 200 [] s = 0 := by unfold over; simp; omega
  have hp : putP 200 [] s = s := by unfold putP; rw [h0]; rfl
  rw [h0, hp]
  exact wait_E2 s x has twice e he hx n 1 (by omega) true _ rfl
end Go.Proofs.Ytjnfomgehfmllaa.Tk
