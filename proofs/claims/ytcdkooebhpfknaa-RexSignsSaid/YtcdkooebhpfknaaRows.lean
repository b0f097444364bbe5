/-
  No cell of these rows narrows 'for every input' (looked for: loops, veiled, ifaces, maps, wideKeys, modest, calm, conditions, laid).
  DERIVED. THE GIVEN ROWS OF THIS SEAT. 5 by the template 'for every input the law returns true; each argument reads behind the call as it read before'; 0 by the template 'total and deterministic' (their statements: YtcdkooebhpfknaaTotals.lean).
  GIVEN WITH THE SEED: the statements are not yours to turn. If you find one false, say at which input.
  Laid BY PROGRAM, IN A SANDBOX (cutbox-rows.mjs): the forced cells as the released guide's own fill.sh prints them over the translation d37f8b13a799d15b… (all of the seat's roots in one cut). By AI agents, Wed Nov 11 2026. No macro, syntax, notation, axiom, sorry.
-/
import Derived.Test.YtcdkooebhpfknaaChecked
import GoSem.Claim
import GoSem.ClaimJoined
import GoSem.ClaimMapViews
import Derived.JoinedTies
import Derived.KernelRfl
namespace Go.Proofs.Ytcdkooebhpfknaa
/- THE CELL 'sum', in the pinned program and in every row, IS THE sha256 OF THE DUMP (.gsa) THAT YtcdkooebhpfknaaProg.lean LOADS. Nothing in Lean hashes anything: it is a label: what it is worth is what the hold of that sum in a sandbox is worth. -/
noncomputable def Try.pinned : Pinned := { name := "ytcdkooebhpfknaa", sum := "d37f8b13a799d15baf996792fb761918516ce0a8aea85c59789e154269cf9dad", checked := Try.checked }
namespace Rows
def none {H : Type} : Left H := { results := [], args := [] }

/-- 'colloquylaw04.RexJoins': WHATEVER THE INPUT: true; the input reads as it did. -/
def rexJoinsSpec : ChangeSpec := { name := "rexJoins", fn := fun _ => fun
  | [d1, d2] => { results := [.lit (.bool true)], args := [d1, d2] }
  | _ => none }
def rexJoinsRow : OpenClaim := { program := "ytcdkooebhpfknaa", sum := "d37f8b13a799d15baf996792fb761918516ce0a8aea85c59789e154269cf9dad", func := "colloquy/colloquylaw04.RexJoins", spec := "rexJoins", unfollowed := true, recurses := true, apart := false }
def RexJoinsSaid : Prop := rexJoinsRow.holds Try.pinned (OpenSpec.ofChange rexJoinsSpec)

/-- ITS FALSE NEIGHBOUR: 'it returns false'. Refute it at one input. -/
def rexJoinsWrong : ChangeSpec := { name := "rexJoins", fn := fun _ => fun
  | [d1, d2] => { results := [.lit (.bool false)], args := [d1, d2] }
  | _ => none }
def RexJoinsWrongFalsely : Prop := rexJoinsRow.holds Try.pinned (OpenSpec.ofChange rexJoinsWrong)

/-- 'colloquylaw04.RexWrong': WHATEVER THE INPUT: true; the input reads as it did. -/
def rexWrongSpec : ChangeSpec := { name := "rexWrong", fn := fun _ => fun
  | [d1, d2] => { results := [.lit (.bool true)], args := [d1, d2] }
  | _ => none }
def rexWrongRow : OpenClaim := { program := "ytcdkooebhpfknaa", sum := "d37f8b13a799d15baf996792fb761918516ce0a8aea85c59789e154269cf9dad", func := "colloquy/colloquylaw04.RexWrong", spec := "rexWrong", unfollowed := true, recurses := true, apart := false }
def RexWrongSaid : Prop := rexWrongRow.holds Try.pinned (OpenSpec.ofChange rexWrongSpec)

/-- ITS FALSE NEIGHBOUR: 'it returns false'. Refute it at one input. -/
def rexWrongWrong : ChangeSpec := { name := "rexWrong", fn := fun _ => fun
  | [d1, d2] => { results := [.lit (.bool false)], args := [d1, d2] }
  | _ => none }
def RexWrongWrongFalsely : Prop := rexWrongRow.holds Try.pinned (OpenSpec.ofChange rexWrongWrong)

/-- 'colloquylaw04.RexBack': WHATEVER THE INPUT: true; the input reads as it did. -/
def rexBackSpec : ChangeSpec := { name := "rexBack", fn := fun _ => fun
  | [d] => { results := [.lit (.bool true)], args := [d] }
  | _ => none }
def rexBackRow : OpenClaim := { program := "ytcdkooebhpfknaa", sum := "d37f8b13a799d15baf996792fb761918516ce0a8aea85c59789e154269cf9dad", func := "colloquy/colloquylaw04.RexBack", spec := "rexBack", inPlace := ["internal/bytealg.IndexByteString", "internal/abi.NoEscape", "internal/bytealg.MakeNoZero"], unfollowed := true, recurses := true, apart := false }
def RexBackSaid : Prop := rexBackRow.holds Try.pinned (OpenSpec.ofChange rexBackSpec)

/-- ITS FALSE NEIGHBOUR: 'it returns false'. Refute it at one input. -/
def rexBackWrong : ChangeSpec := { name := "rexBack", fn := fun _ => fun
  | [d] => { results := [.lit (.bool false)], args := [d] }
  | _ => none }
def RexBackWrongFalsely : Prop := rexBackRow.holds Try.pinned (OpenSpec.ofChange rexBackWrong)

/-- 'colloquylaw04.RexBytes': WHATEVER THE INPUT: true; the input reads as it did. -/
def rexBytesSpec : ChangeSpec := { name := "rexBytes", fn := fun _ => fun
  | [d1, d2] => { results := [.lit (.bool true)], args := [d1, d2] }
  | _ => none }
def rexBytesRow : OpenClaim := { program := "ytcdkooebhpfknaa", sum := "d37f8b13a799d15baf996792fb761918516ce0a8aea85c59789e154269cf9dad", func := "colloquy/colloquylaw04.RexBytes", spec := "rexBytes", inPlace := ["internal/bytealg.IndexByteString", "internal/abi.NoEscape", "internal/bytealg.MakeNoZero"], unfollowed := true, recurses := true, apart := false }
def RexBytesSaid : Prop := rexBytesRow.holds Try.pinned (OpenSpec.ofChange rexBytesSpec)

/-- ITS FALSE NEIGHBOUR: 'it returns false'. Refute it at one input. -/
def rexBytesWrong : ChangeSpec := { name := "rexBytes", fn := fun _ => fun
  | [d1, d2] => { results := [.lit (.bool false)], args := [d1, d2] }
  | _ => none }
def RexBytesWrongFalsely : Prop := rexBytesRow.holds Try.pinned (OpenSpec.ofChange rexBytesWrong)

/-- 'colloquylaw04.RexSigns': WHATEVER THE INPUT: true; the input reads as it did. -/
def rexSignsSpec : ChangeSpec := { name := "rexSigns", fn := fun _ => fun
  | [d] => { results := [.lit (.bool true)], args := [d] }
  | _ => none }
def rexSignsRow : OpenClaim := { program := "ytcdkooebhpfknaa", sum := "d37f8b13a799d15baf996792fb761918516ce0a8aea85c59789e154269cf9dad", func := "colloquy/colloquylaw04.RexSigns", spec := "rexSigns", inPlace := ["internal/bytealg.IndexByteString", "internal/abi.NoEscape", "internal/bytealg.MakeNoZero"], unfollowed := true, recurses := true, apart := false }
def RexSignsSaid : Prop := rexSignsRow.holds Try.pinned (OpenSpec.ofChange rexSignsSpec)

/-- ITS FALSE NEIGHBOUR: 'it returns false'. Refute it at one input. -/
def rexSignsWrong : ChangeSpec := { name := "rexSigns", fn := fun _ => fun
  | [d] => { results := [.lit (.bool false)], args := [d] }
  | _ => none }
def RexSignsWrongFalsely : Prop := rexSignsRow.holds Try.pinned (OpenSpec.ofChange rexSignsWrong)

/- THE SECOND FORM. 'bulk': how many values and letters a reading holds, each counted each time it is reached (what is shared counts as often as it is met; a slice's spare places count too). A statement '..UptoSaid' is the law's where the arguments, and the package variables that the reading takes, are together of bulk at most 1048576: NARROWER than '..Said'. Prove '..Said' where nothing that the law and all that it calls make is longer than what came in: it says more and counts as full. Else prove '..UptoSaid'. A law counts once. -/
mutual
def uptoBulk {H : Type} : DataW H → Nat
  | .lit (.string bytes) => bytes.length + 1
  | .lit _ => 1
  | .nil => 1
  | .ptr d => uptoBulk d + 1
  | .slice elems spare => uptoBulkAll elems + uptoBulkAll spare + 1
  | .agg parts => uptoBulkAll parts + 1
  | .iface _ d => uptoBulk d + 1
  | .map entries => uptoBulkEntries entries + 1
  | .held _ => 1
def uptoBulkAll {H : Type} : List (DataW H) → Nat
  | [] => 0
  | d :: r => uptoBulk d + uptoBulkAll r
def uptoBulkEntries {H : Type} : List (Lit × DataW H) → Nat
  | [] => 0
  | x :: r => uptoBulkEntry x + uptoBulkEntries r
def uptoBulkEntry {H : Type} : Lit × DataW H → Nat
  | (.string bytes, d) => bytes.length + uptoBulk d + 1
  | (_, d) => uptoBulk d + 1
 end
def uptoSmall : (H : Type) → List (DataW H) → Bool := fun _ ds => decide (uptoBulkAll ds ≤ 1048576)
def OpenSpec.upto (s : _root_.Go.ChangeSpec) : _root_.Go.OpenSpec := { _root_.Go.OpenSpec.ofChange s with cond := some uptoSmall }

/-- 'colloquylaw04.RexJoins', WHERE WHAT IT READS IS OF BULK AT MOST 1048576: true; the input reads as it did. -/
def rexJoinsUptoRow : OpenClaim := { program := "ytcdkooebhpfknaa", sum := "d37f8b13a799d15baf996792fb761918516ce0a8aea85c59789e154269cf9dad", func := "colloquy/colloquylaw04.RexJoins", spec := "rexJoins", unfollowed := true, recurses := true, apart := false, narrowed := true }
def RexJoinsUptoSaid : Prop := rexJoinsUptoRow.holds Try.pinned (OpenSpec.upto rexJoinsSpec)

/-- 'colloquylaw04.RexWrong', WHERE WHAT IT READS IS OF BULK AT MOST 1048576: true; the input reads as it did. -/
def rexWrongUptoRow : OpenClaim := { program := "ytcdkooebhpfknaa", sum := "d37f8b13a799d15baf996792fb761918516ce0a8aea85c59789e154269cf9dad", func := "colloquy/colloquylaw04.RexWrong", spec := "rexWrong", unfollowed := true, recurses := true, apart := false, narrowed := true }
def RexWrongUptoSaid : Prop := rexWrongUptoRow.holds Try.pinned (OpenSpec.upto rexWrongSpec)

/-- 'colloquylaw04.RexBack', WHERE WHAT IT READS IS OF BULK AT MOST 1048576: true; the input reads as it did. -/
def rexBackUptoRow : OpenClaim := { program := "ytcdkooebhpfknaa", sum := "d37f8b13a799d15baf996792fb761918516ce0a8aea85c59789e154269cf9dad", func := "colloquy/colloquylaw04.RexBack", spec := "rexBack", inPlace := ["internal/bytealg.IndexByteString", "internal/abi.NoEscape", "internal/bytealg.MakeNoZero"], unfollowed := true, recurses := true, apart := false, narrowed := true }
def RexBackUptoSaid : Prop := rexBackUptoRow.holds Try.pinned (OpenSpec.upto rexBackSpec)

/-- 'colloquylaw04.RexBytes', WHERE WHAT IT READS IS OF BULK AT MOST 1048576: true; the input reads as it did. -/
def rexBytesUptoRow : OpenClaim := { program := "ytcdkooebhpfknaa", sum := "d37f8b13a799d15baf996792fb761918516ce0a8aea85c59789e154269cf9dad", func := "colloquy/colloquylaw04.RexBytes", spec := "rexBytes", inPlace := ["internal/bytealg.IndexByteString", "internal/abi.NoEscape", "internal/bytealg.MakeNoZero"], unfollowed := true, recurses := true, apart := false, narrowed := true }
def RexBytesUptoSaid : Prop := rexBytesUptoRow.holds Try.pinned (OpenSpec.upto rexBytesSpec)

/-- 'colloquylaw04.RexSigns', WHERE WHAT IT READS IS OF BULK AT MOST 1048576: true; the input reads as it did. -/
def rexSignsUptoRow : OpenClaim := { program := "ytcdkooebhpfknaa", sum := "d37f8b13a799d15baf996792fb761918516ce0a8aea85c59789e154269cf9dad", func := "colloquy/colloquylaw04.RexSigns", spec := "rexSigns", inPlace := ["internal/bytealg.IndexByteString", "internal/abi.NoEscape", "internal/bytealg.MakeNoZero"], unfollowed := true, recurses := true, apart := false, narrowed := true }
def RexSignsUptoSaid : Prop := rexSignsUptoRow.holds Try.pinned (OpenSpec.upto rexSignsSpec)

end Rows
end Go.Proofs.Ytcdkooebhpfknaa
