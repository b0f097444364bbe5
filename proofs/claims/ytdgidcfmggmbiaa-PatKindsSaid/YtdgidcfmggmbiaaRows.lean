/-
  No cell of these rows narrows 'for every input' (looked for: loops, veiled, ifaces, maps, wideKeys, modest, calm, conditions, laid).
  DERIVED. THE GIVEN ROWS OF THIS SEAT. 4 by the template 'for every input the law returns true; each argument reads behind the call as it read before'; 0 by the template 'total and deterministic' (their statements: YtdgidcfmggmbiaaTotals.lean).
  GIVEN WITH THE SEED: the statements are not yours to turn. If you find one false, say at which input.
  Laid BY PROGRAM, IN A SANDBOX (cutbox-rows.mjs): the forced cells as the released guide's own fill.sh prints them over the translation 7592c3c148978bd7… (all of the seat's roots in one cut). By AI agents, Wed Nov 11 2026. No macro, syntax, notation, axiom, sorry.
-/
import Derived.Test.YtdgidcfmggmbiaaChecked
import GoSem.Claim
import GoSem.ClaimJoined
import GoSem.ClaimMapViews
import Derived.JoinedTies
import Derived.KernelRfl
namespace Go.Proofs.Ytdgidcfmggmbiaa
/- THE CELL 'sum', in the pinned program and in every row, IS THE sha256 OF THE DUMP (.gsa) THAT YtdgidcfmggmbiaaProg.lean LOADS. Nothing in Lean hashes anything: it is a label: what it is worth is what the hold of that sum in a sandbox is worth. -/
noncomputable def Try.pinned : Pinned := { name := "ytdgidcfmggmbiaa", sum := "7592c3c148978bd71cf8f9c6850e9785a440cc932a90f1847d4cd540141508f0", checked := Try.checked }
namespace Rows
def none {H : Type} : Left H := { results := [], args := [] }

/-- 'colloquylaw06.PatCompiles': WHATEVER THE INPUT: true; the input reads as it did. -/
def patCompilesSpec : ChangeSpec := { name := "patCompiles", fn := fun _ => fun
  | [d1, d2] => { results := [.lit (.bool true)], args := [d1, d2] }
  | _ => none }
def patCompilesRow : OpenClaim := { program := "ytdgidcfmggmbiaa", sum := "7592c3c148978bd71cf8f9c6850e9785a440cc932a90f1847d4cd540141508f0", func := "colloquy/colloquylaw06.PatCompiles", spec := "patCompiles", inPlace := ["internal/bytealg.IndexByte", "internal/bytealg.Index"], unfollowed := true, recurses := true, named := ["internal/bytealg.MaxLen"], apart := false }
def PatCompilesSaid : Prop := patCompilesRow.holds Try.pinned (OpenSpec.ofChange patCompilesSpec)

/-- ITS FALSE NEIGHBOUR: 'it returns false'. Refute it at one input. -/
def patCompilesWrong : ChangeSpec := { name := "patCompiles", fn := fun _ => fun
  | [d1, d2] => { results := [.lit (.bool false)], args := [d1, d2] }
  | _ => none }
def PatCompilesWrongFalsely : Prop := patCompilesRow.holds Try.pinned (OpenSpec.ofChange patCompilesWrong)

/-- 'colloquylaw06.PatGrows': WHATEVER THE INPUT: true; the input reads as it did. -/
def patGrowsSpec : ChangeSpec := { name := "patGrows", fn := fun _ => fun
  | [d1, d2, d3, d4] => { results := [.lit (.bool true)], args := [d1, d2, d3, d4] }
  | _ => none }
def patGrowsRow : OpenClaim := { program := "ytdgidcfmggmbiaa", sum := "7592c3c148978bd71cf8f9c6850e9785a440cc932a90f1847d4cd540141508f0", func := "colloquy/colloquylaw06.PatGrows", spec := "patGrows", inPlace := ["internal/bytealg.IndexByte", "internal/bytealg.Index"], unfollowed := true, recurses := true, named := ["internal/bytealg.MaxLen"], apart := false }
def PatGrowsSaid : Prop := patGrowsRow.holds Try.pinned (OpenSpec.ofChange patGrowsSpec)

/-- ITS FALSE NEIGHBOUR: 'it returns false'. Refute it at one input. -/
def patGrowsWrong : ChangeSpec := { name := "patGrows", fn := fun _ => fun
  | [d1, d2, d3, d4] => { results := [.lit (.bool false)], args := [d1, d2, d3, d4] }
  | _ => none }
def PatGrowsWrongFalsely : Prop := patGrowsRow.holds Try.pinned (OpenSpec.ofChange patGrowsWrong)

/-- 'colloquylaw06.PatExact': WHATEVER THE INPUT: true; the input reads as it did. -/
def patExactSpec : ChangeSpec := { name := "patExact", fn := fun _ => fun
  | [d1, d2] => { results := [.lit (.bool true)], args := [d1, d2] }
  | _ => none }
def patExactRow : OpenClaim := { program := "ytdgidcfmggmbiaa", sum := "7592c3c148978bd71cf8f9c6850e9785a440cc932a90f1847d4cd540141508f0", func := "colloquy/colloquylaw06.PatExact", spec := "patExact", inPlace := ["internal/bytealg.IndexByte", "internal/bytealg.Index"], unfollowed := true, recurses := true, named := ["internal/bytealg.MaxLen"], apart := false }
def PatExactSaid : Prop := patExactRow.holds Try.pinned (OpenSpec.ofChange patExactSpec)

/-- ITS FALSE NEIGHBOUR: 'it returns false'. Refute it at one input. -/
def patExactWrong : ChangeSpec := { name := "patExact", fn := fun _ => fun
  | [d1, d2] => { results := [.lit (.bool false)], args := [d1, d2] }
  | _ => none }
def PatExactWrongFalsely : Prop := patExactRow.holds Try.pinned (OpenSpec.ofChange patExactWrong)

/-- 'colloquylaw06.PatKinds': WHATEVER THE INPUT: true; the input reads as it did. -/
def patKindsSpec : ChangeSpec := { name := "patKinds", fn := fun _ => fun
  | [d1, d2] => { results := [.lit (.bool true)], args := [d1, d2] }
  | _ => none }
def patKindsRow : OpenClaim := { program := "ytdgidcfmggmbiaa", sum := "7592c3c148978bd71cf8f9c6850e9785a440cc932a90f1847d4cd540141508f0", func := "colloquy/colloquylaw06.PatKinds", spec := "patKinds", inPlace := ["internal/bytealg.IndexByte", "internal/bytealg.Index"], unfollowed := true, recurses := true, named := ["internal/bytealg.MaxLen"], apart := false }
def PatKindsSaid : Prop := patKindsRow.holds Try.pinned (OpenSpec.ofChange patKindsSpec)

/-- ITS FALSE NEIGHBOUR: 'it returns false'. Refute it at one input. -/
def patKindsWrong : ChangeSpec := { name := "patKinds", fn := fun _ => fun
  | [d1, d2] => { results := [.lit (.bool false)], args := [d1, d2] }
  | _ => none }
def PatKindsWrongFalsely : Prop := patKindsRow.holds Try.pinned (OpenSpec.ofChange patKindsWrong)

/- THE SECOND FORM. 'bulk': how many values and letters a reading holds, each counted each time it is reached (what is shared counts as often as it is met; a slice's spare places count too). A statement '..UptoSaid' is the law's where the arguments, and the package variables that the reading takes, are together of bulk at most 1048576: NARROWER than '..Said'. Prove '..Said' where nothing that the law and all that it calls make is longer than what came in: it says more and counts as full. Else prove '..UptoSaid'. A law counts once. -/
mutual
def uptoBulk {H : Type} : DataW H → Nat
  | .lit (.string bytes) => bytes.length + 1
  | .lit _ => 1
  | .nil => 1
  | .ptr d => uptoBulk d + 1
  | .slice elems spare => uptoBulkAll elems + uptoBulkAll spare + 1
  | .agg parts => uptoBulkAll parts + 1
  | .iface _ d => uptoBulk d + 1
  | .map entries => uptoBulkEntries entries + 1
  | .held _ => 1
def uptoBulkAll {H : Type} : List (DataW H) → Nat
  | [] => 0
  | d :: r => uptoBulk d + uptoBulkAll r
def uptoBulkEntries {H : Type} : List (Lit × DataW H) → Nat
  | [] => 0
  | x :: r => uptoBulkEntry x + uptoBulkEntries r
def uptoBulkEntry {H : Type} : Lit × DataW H → Nat
  | (.string bytes, d) => bytes.length + uptoBulk d + 1
  | (_, d) => uptoBulk d + 1
 end
def uptoSmall : (H : Type) → List (DataW H) → Bool := fun _ ds => decide (uptoBulkAll ds ≤ 1048576)
def OpenSpec.upto (s : _root_.Go.ChangeSpec) : _root_.Go.OpenSpec := { _root_.Go.OpenSpec.ofChange s with cond := some uptoSmall }

/-- 'colloquylaw06.PatCompiles', WHERE WHAT IT READS IS OF BULK AT MOST 1048576: true; the input reads as it did. -/
def patCompilesUptoRow : OpenClaim := { program := "ytdgidcfmggmbiaa", sum := "7592c3c148978bd71cf8f9c6850e9785a440cc932a90f1847d4cd540141508f0", func := "colloquy/colloquylaw06.PatCompiles", spec := "patCompiles", inPlace := ["internal/bytealg.IndexByte", "internal/bytealg.Index"], unfollowed := true, recurses := true, named := ["internal/bytealg.MaxLen"], apart := false, narrowed := true }
def PatCompilesUptoSaid : Prop := patCompilesUptoRow.holds Try.pinned (OpenSpec.upto patCompilesSpec)

/-- 'colloquylaw06.PatGrows', WHERE WHAT IT READS IS OF BULK AT MOST 1048576: true; the input reads as it did. -/
def patGrowsUptoRow : OpenClaim := { program := "ytdgidcfmggmbiaa", sum := "7592c3c148978bd71cf8f9c6850e9785a440cc932a90f1847d4cd540141508f0", func := "colloquy/colloquylaw06.PatGrows", spec := "patGrows", inPlace := ["internal/bytealg.IndexByte", "internal/bytealg.Index"], unfollowed := true, recurses := true, named := ["internal/bytealg.MaxLen"], apart := false, narrowed := true }
def PatGrowsUptoSaid : Prop := patGrowsUptoRow.holds Try.pinned (OpenSpec.upto patGrowsSpec)

/-- 'colloquylaw06.PatExact', WHERE WHAT IT READS IS OF BULK AT MOST 1048576: true; the input reads as it did. -/
def patExactUptoRow : OpenClaim := { program := "ytdgidcfmggmbiaa", sum := "7592c3c148978bd71cf8f9c6850e9785a440cc932a90f1847d4cd540141508f0", func := "colloquy/colloquylaw06.PatExact", spec := "patExact", inPlace := ["internal/bytealg.IndexByte", "internal/bytealg.Index"], unfollowed := true, recurses := true, named := ["internal/bytealg.MaxLen"], apart := false, narrowed := true }
def PatExactUptoSaid : Prop := patExactUptoRow.holds Try.pinned (OpenSpec.upto patExactSpec)

/-- 'colloquylaw06.PatKinds', WHERE WHAT IT READS IS OF BULK AT MOST 1048576: true; the input reads as it did. -/
def patKindsUptoRow : OpenClaim := { program := "ytdgidcfmggmbiaa", sum := "7592c3c148978bd71cf8f9c6850e9785a440cc932a90f1847d4cd540141508f0", func := "colloquy/colloquylaw06.PatKinds", spec := "patKinds", inPlace := ["internal/bytealg.IndexByte", "internal/bytealg.Index"], unfollowed := true, recurses := true, named := ["internal/bytealg.MaxLen"], apart := false, narrowed := true }
def PatKindsUptoSaid : Prop := patKindsUptoRow.holds Try.pinned (OpenSpec.upto patKindsSpec)

end Rows
end Go.Proofs.Ytdgidcfmggmbiaa
