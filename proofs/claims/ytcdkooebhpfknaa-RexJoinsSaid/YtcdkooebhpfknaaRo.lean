/- The law's parsing; Same; a whole law's small facts. -/
import Derived.Test.YtcdkooebhpfknaaRn
import Derived.Test.YtcdkooebhpfknaaPn
import Derived.Test.YtcdkooebhpfknaaPRxx3
namespace Go.Proofs.Ytcdkooebhpfknaa.Rx
open Go.RowKit Go.Proofs.YtcdkooebhpfknaaW.PrintWords Go.Proofs.YtcdkooebhpfknaaW.PrintLast Go.Proofs.YtcdkooebhpfknaaW.PrintMore Go.Proofs.Ytcdkooebhpfknaa.PRx
set_option linter.unusedVariables false
set_option linter.unusedSimpArgs false

theorem p_alive1 : parseP [97, 124, 98, 42] = (⟨3, [], [catN [setN false [⟨97, 97⟩]], catN [⟨4, [], [setN false [⟨98, 98⟩]]⟩]]⟩, 0, 0) := by
  with_unfolding_all rfl
theorem p_alive2 : parseP [97, 41] = (z26, 30, 1) := by
  with_unfolding_all rfl
def Told (w : World) (b : Bool) (e : Ending) (w' : World) : Prop := e = .returned (.bool b) ∧ Kpt w w'
set_option maxHeartbeats 1000000 in
theorem parsing_any (w : World) : Calls Try.prog 8 #[] w (Told w true) := by
  have HP1 : Hid (∀ w, Calls Try.prog 9 #[.string ⟨#[97, 124, 98, 42]⟩] w (PRes w (⟨3, [], [catN [setN false [⟨97, 97⟩]], catN [⟨4, [], [setN false [⟨98, 98⟩]]⟩]]⟩, 0, 0))) := Lib.hid fun w => by
    have := parse_any ⟨#[97, 124, 98, 42]⟩ w
    rwa [show bI ⟨#[97, 124, 98, 42]⟩ = [97, 124, 98, 42] from rfl, p_alive1] at this
  have HP2 : Hid (∀ w, Calls Try.prog 9 #[.string ⟨#[97, 41]⟩] w (PRes w (z26, 30, 1))) := Lib.hid fun w => by
    have := parse_any ⟨#[97, 41]⟩ w
    rwa [show bI ⟨#[97, 41]⟩ = [97, 41] from rfl, p_alive2] at this
  go_enter Try.func8, Try.ntmps8
  go_wp2_with (first
    | (go_at_call 9; (with_reducible refine (HP1.out _).mono ?_); rintro e w1 ⟨v, rfl, ⟨A1, n1, c1, A2, n2, c2, rfl, hr1, hr2⟩, hk⟩; (obtain rfl := (Kd.R_reads' hr2).1); have HK1 := Lib.hid hk; clear hr1 hr2 hk)
    | (go_at_call 9; (with_reducible refine (HP2.out _).mono ?_); rintro e w2 ⟨v, rfl, ⟨A3, n3, c3, A4, n4, c4, rfl, hr1, hr2⟩, hk⟩; have y1 := blk_alloc (hk.blk (blk_new _ _)) (.cells #[.int .i64 z26.f0, .slice A3 n3 c3, .slice A4 n4 c4] 26); have f0 := blk_cell y1 0; have f2 := blk_cell y1 2; (simp only [List.getElem?_toArray, List.getElem?_cons_zero, List.getElem?_cons_succ] at f0 f2); have HK2 := Lib.hid hk; clear hr1 hr2 hk y1))
  go_ret
  exact ⟨rfl, (((HK1.out.alloc _).trans HK2.out).alloc _)⟩
end Go.Proofs.Ytcdkooebhpfknaa.Rx
