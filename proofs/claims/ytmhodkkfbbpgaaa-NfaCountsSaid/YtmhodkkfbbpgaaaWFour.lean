-- Begun as a text of print.sh; theorems that this claim does not need are struck (shake.py). Lean checks it.
import Derived.Test.YtmhodkkfbbpgaaaWTab
/-! ### 56. Four, five, six operations that may come up next, in any order -/
namespace Go.Proofs.YtmhodkkfbbpgaaaW.PrintLast
section
variable {P : Program} {ops : Array Oper} {Q : Exit → Act → World → Prop} {md : Region.Mode} {S : World → Prop} {ds : List Nat} {T : Bool × List (List Nat × List Nat)}
end
end Go.Proofs.YtmhodkkfbbpgaaaW.PrintLast
