/- rex, plainly: what a pattern's bytes come to. No program in sight. -/
import Derived.Test.YtcdkooebhpfknaaPRxx0
namespace Go.Proofs.Ytcdkooebhpfknaa.Rx
open Go.RowKit Go.Proofs.YtcdkooebhpfknaaW.PrintWords Go.Proofs.YtcdkooebhpfknaaW.PrintLast Go.Proofs.YtcdkooebhpfknaaW.PrintMore Go.Proofs.Ytcdkooebhpfknaa.PRx
set_option linter.unusedVariables false
set_option linter.unusedSimpArgs false

/-- A text's bytes. -/
def bI (s : ByteArray) : List Int := s.data.toList.map fun b => (b.toNat : Int)
theorem bI_len (s : ByteArray) : (bI s).length = s.size := by simp [bI]
theorem bI_rng (s : ByteArray) : ∀ x, x ∈ bI s → 0 ≤ x ∧ x < 256 := by
  intro x hx
  simp only [bI, List.mem_map] at hx
  obtain ⟨b, _, rfl⟩ := hx
  have := b.toNat_lt
  omega
/-- Read on, with what is left; or an error and how much was left at its place. -/
inductive R (α : Type) where
  | ok (v : α) (r : List Int)
  | err (c : Int) (k : Nat)
def R.bind {α β : Type} : R α → (α → List Int → R β) → R β
  | .ok v r, f => f v r
  | .err c k, _ => .err c k
/-- A letter or a digit. -/
def alnumI (c : Int) : Bool := decide (97 ≤ c ∧ c ≤ 122) || decide (65 ≤ c ∧ c ≤ 90) || decide (48 ≤ c ∧ c ≤ 57)
/-- Behind a backslash (k: what was left at it). -/
def escR (k : Nat) : List Int → R Int
  | [] => .err 31 0
  | c :: r => if c = 110 then .ok 10 r else if c = 116 then .ok 9 r else if alnumI c = true then .err 30 k else .ok c r
def itemR : List Int → R Int
  | [] => .err 31 0
  | c :: r => if c = 92 then escR (r.length + 1) r else .ok c r
/-- Is a - here, and behind it something that is no ]? -/
def dash : List Int → Bool
  | 45 :: d :: _ => decide (d ≠ 93)
  | _ => false
/-- One range of a class. -/
def rangeR (xs : List Int) : R S37 :=
  (itemR xs).bind fun lo r => ((if dash r then itemR r.tail else .ok lo r) : R Int).bind fun hi r2 => if hi < lo then .err 32 xs.length else .ok ⟨lo, hi⟩ r2
/-- A class's ranges, up to its ]. -/
def clsR : Nat → List S37 → List Int → R (List S37)
  | 0, _, _ => .err 0 0
  | n + 1, acc, xs => if acc ≠ [] ∧ xs.head? = some 93 then .ok acc xs.tail else (rangeR xs).bind fun x r => clsR n (acc ++ [x]) r

/-- The ranges, sorted, made one row (or all others). -/
def mergeGo (neg : Bool) : List S37 → List S37 → Int → List S37 × Int
  | out, [], next => (out, next)
  | out, r :: rs, next =>
    let nx := max next (r.f1 + 1)
    if neg = true then
      (if next < r.f0 then mergeGo neg (out ++ [⟨next, r.f0 - 1⟩]) rs nx else mergeGo neg out rs nx)
    else if 0 < out.length ∧ r.f0 ≤ next then
      mergeGo neg (out.dropLast ++ [⟨(out.getLast?.getD z37).f0, max (out.getLast?.getD z37).f1 r.f1⟩]) rs nx
    else mergeGo neg (out ++ [r]) rs nx
def cmpS (x y : S37) : Int := if x.f0 < y.f0 then -1 else if x.f0 > y.f0 then 1 else 0
end Go.Proofs.Ytcdkooebhpfknaa.Rx
