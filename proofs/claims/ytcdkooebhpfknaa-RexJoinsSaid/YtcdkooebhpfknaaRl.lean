/- slices.SortFunc at ranges. -/
import Derived.Test.YtcdkooebhpfknaaRk
import Derived.Shelf.SlSortCmp.WholeK
import Derived.Shelf.Lay
import Derived.Ground.SlsfProg
import Derived.Lib.OwnBridge
namespace Go.Proofs
open Go.Shelf Go.RowKit Go.Lib Go.Sort
shelf_lay_g SlLaysF0.n6 Slsf 6 at Try 29 as Try.sortS
end Go.Proofs
namespace Go.Proofs.Ytcdkooebhpfknaa.Rx
open Go.RowKit Go.Proofs.YtcdkooebhpfknaaW.PrintWords Go.Proofs.YtcdkooebhpfknaaW.PrintLast Go.Proofs.YtcdkooebhpfknaaW.PrintMore Go.Proofs.Ytcdkooebhpfknaa.PRx
set_option linter.unusedVariables false
set_option linter.unusedSimpArgs false

theorem clo_any (x y : S37) (W : World) : Calls Try.prog 30 #[.agg #[.int .u8 x.f0, .int .u8 x.f1], .agg #[.int .u8 y.f0, .int .u8 y.f1]] W fun e w' => e = .returned (.int .i64 (cmpS x y)) ∧ ∃ q os', w' = Go.Sort.grow (W.drewN q) os' := by
  have hc := Lib.hid (fun w => cmp_any x.f0 y.f0 w)
  have e : cmpS x y = if x.f0 < y.f0 then -1 else if x.f0 > y.f0 then 1 else 0 := rfl
  rw [e]
  generalize (if x.f0 < y.f0 then (-1 : Int) else if x.f0 > y.f0 then 1 else 0) = res at hc ⊢
  go_enter Try.func30, Try.ntmps30
  go_wp2_with (go_at_call 31; refine (hc.out _).mono ?_; rintro e w' ⟨rfl, q, rfl⟩)
  go_ret
  exact ⟨rfl, q, _, by rw [Go.Sort.alloc_eq_grow, Go.Sort.alloc_eq_grow, Go.Sort.grow_grow]; rfl⟩
def encS (x : S37) : List Value := [.int .u8 x.f0, .int .u8 x.f1]
theorem ltS (x y : S37) : Go.Proofs.ltOf cmpS x y = decide (x.f0 < y.f0) := by
  unfold Go.Proofs.ltOf cmpS
  by_cases h1 : x.f0 < y.f0
  · simp [h1]
  · by_cases h2 : y.f0 < x.f0 <;> simp [h1, h2]
theorem swoS : Go.Sort.SWO (Go.Proofs.ltOf cmpS) where
  irrefl x := by rw [ltS]; simp
  trans x y z h1 h2 := by rw [ltS] at *; simp at *; omega
  ntrans x y z h1 h2 := by rw [ltS] at *; simp at *; omega
theorem agg37 : ∀ w : World, (isAgg 37).run Try.prog w = .ok true w := fun w => by kernel_rfl
theorem size37 : ∀ w : World, (Go.sizeOf 37).run Try.prog w = .ok 2 w := fun w => by kernel_rfl
/-- The ranges, sorted, in their place. -/
theorem sort_any {W : World} {b c : Nat} (d : Array S37) (hH : Go.Sort.HoldsK encS 2 W b 0 d) (hb : b < W.heap.size) (hs : d.size < 4611686018427387904) :
    Calls Try.prog 29 #[.slice (some ⟨b, 0, none⟩) d.size c, .func (.func 30) #[] #[]] W fun e w' => e = .returned (.tuple #[]) ∧ ∃ n os, w' = Go.Proofs.sortWorldK encS 2 W b 0 n (Go.Sort.pdq (Go.Proofs.ltOf cmpS) d 0 d.size (Go.Lib.bitLen d.size) true true) os := by
  have eg : ∀ args w, (callFunc 30 args).run Try.prog w = .ok (.enter 30 args) w := enters_of Try.func30 (by kernel_rfl) rfl
  exact Go.Proofs.AnyQ.slices_SortFunc_eq Go.Proofs.Try.sortS 2 agg37 size37 encS (fun _ => rfl) (fun x v hv => by simp [encS] at hv; rcases hv with rfl | rfl <;> rfl) cmpS swoS 30 #[] b 0 c d W eg (fun m os dk _ x y => clo_any x y _) hH hb hs
end Go.Proofs.Ytcdkooebhpfknaa.Rx
