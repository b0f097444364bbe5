-- Begun as a text of print.sh; theorems that this claim does not need are struck (shake.py). Lean checks it.
import Derived.Test.YtmhodkkfbbpgaaaWWords
import Derived.Laws.StructEq
/-! ### 53. '==' of structs as_ one Bool -/
namespace Go.Proofs.YtmhodkkfbbpgaaaW.PrintWords
open Go.RowKit
section
variable {P : Program} {d : Nat} {xs ys : Array Value} {f : Field} {fs : List Field} {a b : Value} {r s : Bool} {w : World}
end
end Go.Proofs.YtmhodkkfbbpgaaaW.PrintWords
