/- How a slice of whole numbers that comes in reads. -/
import Derived.Test.YtjnfomgehfmllaaBy
import Derived.Test.YtjnfomgehfmllaaWWords
import Derived.Test.YtjnfomgehfmllaaWLast
import Derived.Test.YtjnfomgehfmllaaWMore
import Derived.ChangeSlices
import Derived.OpenShut
import Derived.WalkKit
import Derived.ProofKit
import Derived.ChangeOld
import Derived.SizedLaws
namespace Go.Proofs.Ytjnfomgehfmllaa.Rd0
set_option linter.unusedVariables false
set_option linter.unusedSimpArgs false
open Go.ChangeShapes Go.WideShapes Go.ChangeAt Go.RowKit Go.Proofs.Ytjnfomgehfmllaa.Mem Go.Proofs.YtjnfomgehfmllaaW.PrintWords Go.Proofs.YtjnfomgehfmllaaW.PrintLast Go.Proofs.YtjnfomgehfmllaaW.PrintMore

theorem ints_open {H : Type} {enc : TypeId × Value → H} {W : World} {t e : TypeId} {k : IntKind} {pa : Option Addr} {len cap : Nat} {d : DataW H} {p : List MemPlace} (ht : Try.prog.underlying t = some (.slice e)) (he : Try.prog.underlying e = some (.int k)) (hc : Try.prog.cellsOf e = 1)
    (h : DataW.Trod enc Try.prog W 0 (fun _ => true) true t (.slice pa len cap) d p) : ∃ zs : List Int, ReadsInt W k pa len zs ∧ ∀ z, z ∈ zs → (Lit.int k z).wf = true := by
  obtain ⟨fuel, hf⟩ := h
  rcases open_ints ht he hc hf with ⟨hcs, _⟩ | ⟨ad, len', cap', zs, hcs, _, hl, hm, hz, _, hcell, hwf⟩
  · simp [Value.cells] at hcs
    obtain ⟨rfl, rfl, rfl⟩ := hcs
    exact ⟨[], ⟨rfl, by decide, fun hn => absurd hn (by decide)⟩, fun z hz => by cases hz⟩
  · simp [Value.cells] at hcs
    obtain ⟨rfl, rfl, rfl⟩ := hcs
    have hlz : len ≤ zs.length := by rw [hz]; split <;> omega
    unfold maxLen at hm
    refine ⟨zs.take len, ⟨by rw [List.length_take]; omega, by omega, fun _ => ⟨ad, rfl, fun j hj => ?_⟩⟩, fun z hz => hwf z (List.mem_of_mem_take hz)⟩
    rw [hcell j (by omega)]
    simp [List.getD, hj]
end Go.Proofs.Ytjnfomgehfmllaa.Rd0
