/-
  NARROWER THAN 'FOR EVERY INPUT', by the rows' own cells (each row's printed sentence says how): NfaLongest: loops · NfaFinds: loops · NfaKinds: loops · NfaLoops: loops · NfaSteps: loops.
  DERIVED. THE GIVEN ROWS OF THIS SEAT. 6 by the template 'for every input the law returns true; each argument reads behind the call as it read before'; 0 by the template 'total and deterministic' (their statements: YtmhodkkfbbpgaaaTotals.lean).
  GIVEN WITH THE SEED: the statements are not yours to turn. If you find one false, say at which input.
  Laid BY PROGRAM, IN A SANDBOX (cutbox-rows.mjs): the forced cells as the released guide's own fill.sh prints them over the translation 47d28af51c303c13… (all of the seat's roots in one cut). By AI agents, Wed Nov 11 2026. No macro, syntax, notation, axiom, sorry.
-/
import Derived.Test.YtmhodkkfbbpgaaaChecked
import GoSem.Claim
import GoSem.ClaimJoined
import GoSem.ClaimMapViews
import Derived.JoinedTies
import Derived.KernelRfl
namespace Go.Proofs.Ytmhodkkfbbpgaaa
/- THE CELL 'sum', in the pinned program and in every row, IS THE sha256 OF THE DUMP (.gsa) THAT YtmhodkkfbbpgaaaProg.lean LOADS. Nothing in Lean hashes anything: it is a label: what it is worth is what the hold of that sum in a sandbox is worth. -/
noncomputable def Try.pinned : Pinned := { name := "ytmhodkkfbbpgaaa", sum := "47d28af51c303c13fe98ab87625874814ee610330f2f856072bd22f16f555f98", checked := Try.checked }
namespace Rows
def none {H : Type} : Left H := { results := [], args := [] }

/-- 'colloquylaw05.NfaLongest': WHATEVER THE INPUT: true; the input reads as it did. -/
def nfaLongestSpec : ChangeSpec := { name := "nfaLongest", fn := fun _ => fun
  | [d1, d2, d3] => { results := [.lit (.bool true)], args := [d1, d2, d3] }
  | _ => none }
def nfaLongestRow : OpenClaim := { program := "ytmhodkkfbbpgaaa", sum := "47d28af51c303c13fe98ab87625874814ee610330f2f856072bd22f16f555f98", func := "colloquy/colloquylaw05.NfaLongest", spec := "nfaLongest", recurses := true, loops := true, apart := false }
def NfaLongestSaid : Prop := nfaLongestRow.holds Try.pinned (OpenSpec.ofChange nfaLongestSpec)

/-- ITS FALSE NEIGHBOUR: 'it returns false'. Refute it at one input. -/
def nfaLongestWrong : ChangeSpec := { name := "nfaLongest", fn := fun _ => fun
  | [d1, d2, d3] => { results := [.lit (.bool false)], args := [d1, d2, d3] }
  | _ => none }
def NfaLongestWrongFalsely : Prop := nfaLongestRow.holds Try.pinned (OpenSpec.ofChange nfaLongestWrong)

/-- 'colloquylaw05.NfaFinds': WHATEVER THE INPUT: true; the input reads as it did. -/
def nfaFindsSpec : ChangeSpec := { name := "nfaFinds", fn := fun _ => fun
  | [d1, d2] => { results := [.lit (.bool true)], args := [d1, d2] }
  | _ => none }
def nfaFindsRow : OpenClaim := { program := "ytmhodkkfbbpgaaa", sum := "47d28af51c303c13fe98ab87625874814ee610330f2f856072bd22f16f555f98", func := "colloquy/colloquylaw05.NfaFinds", spec := "nfaFinds", recurses := true, loops := true, apart := false }
def NfaFindsSaid : Prop := nfaFindsRow.holds Try.pinned (OpenSpec.ofChange nfaFindsSpec)

/-- ITS FALSE NEIGHBOUR: 'it returns false'. Refute it at one input. -/
def nfaFindsWrong : ChangeSpec := { name := "nfaFinds", fn := fun _ => fun
  | [d1, d2] => { results := [.lit (.bool false)], args := [d1, d2] }
  | _ => none }
def NfaFindsWrongFalsely : Prop := nfaFindsRow.holds Try.pinned (OpenSpec.ofChange nfaFindsWrong)

/-- 'colloquylaw05.NfaKinds': WHATEVER THE INPUT: true; the input reads as it did. -/
def nfaKindsSpec : ChangeSpec := { name := "nfaKinds", fn := fun _ => fun
  | [d1, d2, d3, d4] => { results := [.lit (.bool true)], args := [d1, d2, d3, d4] }
  | _ => none }
def nfaKindsRow : OpenClaim := { program := "ytmhodkkfbbpgaaa", sum := "47d28af51c303c13fe98ab87625874814ee610330f2f856072bd22f16f555f98", func := "colloquy/colloquylaw05.NfaKinds", spec := "nfaKinds", recurses := true, loops := true, apart := false }
def NfaKindsSaid : Prop := nfaKindsRow.holds Try.pinned (OpenSpec.ofChange nfaKindsSpec)

/-- ITS FALSE NEIGHBOUR: 'it returns false'. Refute it at one input. -/
def nfaKindsWrong : ChangeSpec := { name := "nfaKinds", fn := fun _ => fun
  | [d1, d2, d3, d4] => { results := [.lit (.bool false)], args := [d1, d2, d3, d4] }
  | _ => none }
def NfaKindsWrongFalsely : Prop := nfaKindsRow.holds Try.pinned (OpenSpec.ofChange nfaKindsWrong)

/-- 'colloquylaw05.NfaLoops': WHATEVER THE INPUT: true; the input reads as it did. -/
def nfaLoopsSpec : ChangeSpec := { name := "nfaLoops", fn := fun _ => fun
  | [d1, d2, d3] => { results := [.lit (.bool true)], args := [d1, d2, d3] }
  | _ => none }
def nfaLoopsRow : OpenClaim := { program := "ytmhodkkfbbpgaaa", sum := "47d28af51c303c13fe98ab87625874814ee610330f2f856072bd22f16f555f98", func := "colloquy/colloquylaw05.NfaLoops", spec := "nfaLoops", recurses := true, loops := true, apart := false }
def NfaLoopsSaid : Prop := nfaLoopsRow.holds Try.pinned (OpenSpec.ofChange nfaLoopsSpec)

/-- ITS FALSE NEIGHBOUR: 'it returns false'. Refute it at one input. -/
def nfaLoopsWrong : ChangeSpec := { name := "nfaLoops", fn := fun _ => fun
  | [d1, d2, d3] => { results := [.lit (.bool false)], args := [d1, d2, d3] }
  | _ => none }
def NfaLoopsWrongFalsely : Prop := nfaLoopsRow.holds Try.pinned (OpenSpec.ofChange nfaLoopsWrong)

/-- 'colloquylaw05.NfaCounts': WHATEVER THE INPUT: true; the input reads as it did. -/
def nfaCountsSpec : ChangeSpec := { name := "nfaCounts", fn := fun _ => fun
  | [d1, d2, d3] => { results := [.lit (.bool true)], args := [d1, d2, d3] }
  | _ => none }
def nfaCountsRow : OpenClaim := { program := "ytmhodkkfbbpgaaa", sum := "47d28af51c303c13fe98ab87625874814ee610330f2f856072bd22f16f555f98", func := "colloquy/colloquylaw05.NfaCounts", spec := "nfaCounts", recurses := true, apart := false }
def NfaCountsSaid : Prop := nfaCountsRow.holds Try.pinned (OpenSpec.ofChange nfaCountsSpec)

/-- ITS FALSE NEIGHBOUR: 'it returns false'. Refute it at one input. -/
def nfaCountsWrong : ChangeSpec := { name := "nfaCounts", fn := fun _ => fun
  | [d1, d2, d3] => { results := [.lit (.bool false)], args := [d1, d2, d3] }
  | _ => none }
def NfaCountsWrongFalsely : Prop := nfaCountsRow.holds Try.pinned (OpenSpec.ofChange nfaCountsWrong)

/-- 'colloquylaw05.NfaSteps': WHATEVER THE INPUT: true; the input reads as it did. -/
def nfaStepsSpec : ChangeSpec := { name := "nfaSteps", fn := fun _ => fun
  | [d1, d2, d3] => { results := [.lit (.bool true)], args := [d1, d2, d3] }
  | _ => none }
def nfaStepsRow : OpenClaim := { program := "ytmhodkkfbbpgaaa", sum := "47d28af51c303c13fe98ab87625874814ee610330f2f856072bd22f16f555f98", func := "colloquy/colloquylaw05.NfaSteps", spec := "nfaSteps", recurses := true, loops := true, apart := false }
def NfaStepsSaid : Prop := nfaStepsRow.holds Try.pinned (OpenSpec.ofChange nfaStepsSpec)

/-- ITS FALSE NEIGHBOUR: 'it returns false'. Refute it at one input. -/
def nfaStepsWrong : ChangeSpec := { name := "nfaSteps", fn := fun _ => fun
  | [d1, d2, d3] => { results := [.lit (.bool false)], args := [d1, d2, d3] }
  | _ => none }
def NfaStepsWrongFalsely : Prop := nfaStepsRow.holds Try.pinned (OpenSpec.ofChange nfaStepsWrong)

/- THE SECOND FORM. 'bulk': how many values and letters a reading holds, each counted each time it is reached (what is shared counts as often as it is met; a slice's spare places count too). A statement '..UptoSaid' is the law's where the arguments, and the package variables that the reading takes, are together of bulk at most 1048576: NARROWER than '..Said'. Prove '..Said' where nothing that the law and all that it calls make is longer than what came in: it says more and counts as full. Else prove '..UptoSaid'. A law counts once. -/
mutual
def uptoBulk {H : Type} : DataW H → Nat
  | .lit (.string bytes) => bytes.length + 1
  | .lit _ => 1
  | .nil => 1
  | .ptr d => uptoBulk d + 1
  | .slice elems spare => uptoBulkAll elems + uptoBulkAll spare + 1
  | .agg parts => uptoBulkAll parts + 1
  | .iface _ d => uptoBulk d + 1
  | .map entries => uptoBulkEntries entries + 1
  | .held _ => 1
def uptoBulkAll {H : Type} : List (DataW H) → Nat
  | [] => 0
  | d :: r => uptoBulk d + uptoBulkAll r
def uptoBulkEntries {H : Type} : List (Lit × DataW H) → Nat
  | [] => 0
  | x :: r => uptoBulkEntry x + uptoBulkEntries r
def uptoBulkEntry {H : Type} : Lit × DataW H → Nat
  | (.string bytes, d) => bytes.length + uptoBulk d + 1
  | (_, d) => uptoBulk d + 1
 end
def uptoSmall : (H : Type) → List (DataW H) → Bool := fun _ ds => decide (uptoBulkAll ds ≤ 1048576)
def OpenSpec.upto (s : _root_.Go.ChangeSpec) : _root_.Go.OpenSpec := { _root_.Go.OpenSpec.ofChange s with cond := some uptoSmall }

/-- 'colloquylaw05.NfaLongest', WHERE WHAT IT READS IS OF BULK AT MOST 1048576: true; the input reads as it did. -/
def nfaLongestUptoRow : OpenClaim := { program := "ytmhodkkfbbpgaaa", sum := "47d28af51c303c13fe98ab87625874814ee610330f2f856072bd22f16f555f98", func := "colloquy/colloquylaw05.NfaLongest", spec := "nfaLongest", recurses := true, loops := true, apart := false, narrowed := true }
def NfaLongestUptoSaid : Prop := nfaLongestUptoRow.holds Try.pinned (OpenSpec.upto nfaLongestSpec)

/-- 'colloquylaw05.NfaFinds', WHERE WHAT IT READS IS OF BULK AT MOST 1048576: true; the input reads as it did. -/
def nfaFindsUptoRow : OpenClaim := { program := "ytmhodkkfbbpgaaa", sum := "47d28af51c303c13fe98ab87625874814ee610330f2f856072bd22f16f555f98", func := "colloquy/colloquylaw05.NfaFinds", spec := "nfaFinds", recurses := true, loops := true, apart := false, narrowed := true }
def NfaFindsUptoSaid : Prop := nfaFindsUptoRow.holds Try.pinned (OpenSpec.upto nfaFindsSpec)

/-- 'colloquylaw05.NfaKinds', WHERE WHAT IT READS IS OF BULK AT MOST 1048576: true; the input reads as it did. -/
def nfaKindsUptoRow : OpenClaim := { program := "ytmhodkkfbbpgaaa", sum := "47d28af51c303c13fe98ab87625874814ee610330f2f856072bd22f16f555f98", func := "colloquy/colloquylaw05.NfaKinds", spec := "nfaKinds", recurses := true, loops := true, apart := false, narrowed := true }
def NfaKindsUptoSaid : Prop := nfaKindsUptoRow.holds Try.pinned (OpenSpec.upto nfaKindsSpec)

/-- 'colloquylaw05.NfaLoops', WHERE WHAT IT READS IS OF BULK AT MOST 1048576: true; the input reads as it did. -/
def nfaLoopsUptoRow : OpenClaim := { program := "ytmhodkkfbbpgaaa", sum := "47d28af51c303c13fe98ab87625874814ee610330f2f856072bd22f16f555f98", func := "colloquy/colloquylaw05.NfaLoops", spec := "nfaLoops", recurses := true, loops := true, apart := false, narrowed := true }
def NfaLoopsUptoSaid : Prop := nfaLoopsUptoRow.holds Try.pinned (OpenSpec.upto nfaLoopsSpec)

/-- 'colloquylaw05.NfaCounts', WHERE WHAT IT READS IS OF BULK AT MOST 1048576: true; the input reads as it did. -/
def nfaCountsUptoRow : OpenClaim := { program := "ytmhodkkfbbpgaaa", sum := "47d28af51c303c13fe98ab87625874814ee610330f2f856072bd22f16f555f98", func := "colloquy/colloquylaw05.NfaCounts", spec := "nfaCounts", recurses := true, apart := false, narrowed := true }
def NfaCountsUptoSaid : Prop := nfaCountsUptoRow.holds Try.pinned (OpenSpec.upto nfaCountsSpec)

/-- 'colloquylaw05.NfaSteps', WHERE WHAT IT READS IS OF BULK AT MOST 1048576: true; the input reads as it did. -/
def nfaStepsUptoRow : OpenClaim := { program := "ytmhodkkfbbpgaaa", sum := "47d28af51c303c13fe98ab87625874814ee610330f2f856072bd22f16f555f98", func := "colloquy/colloquylaw05.NfaSteps", spec := "nfaSteps", recurses := true, loops := true, apart := false, narrowed := true }
def NfaStepsUptoSaid : Prop := nfaStepsUptoRow.holds Try.pinned (OpenSpec.upto nfaStepsSpec)

end Rows
end Go.Proofs.Ytmhodkkfbbpgaaa
