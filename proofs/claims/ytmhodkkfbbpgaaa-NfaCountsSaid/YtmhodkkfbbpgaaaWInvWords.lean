-- Begun as a text of print.sh; theorems that this claim does not need are struck (shake.py). Lean checks it.
import Derived.Test.YtmhodkkfbbpgaaaWInv
import Derived.Test.YtmhodkkfbbpgaaaWFootNe
namespace Go.Proofs.YtmhodkkfbbpgaaaW.PrintWords
open Go.RowKit
end Go.Proofs.YtmhodkkfbbpgaaaW.PrintWords
namespace Go.Proofs.YtmhodkkfbbpgaaaW.PrintLast
section
variable {ops : Array Oper} {a : Act} {o og : Oper} {g : Nat} {t : Tmp} {u : Bool}
end
end Go.Proofs.YtmhodkkfbbpgaaaW.PrintLast
