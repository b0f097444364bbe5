/- rex.Parse: what a reader panics with is caught and told. -/
import Derived.Test.YtcdkooebhpfknaaRi
import Derived.Recover
import Derived.RegionTactic
import Derived.ChangeAlike
namespace Go.Proofs.Ytcdkooebhpfknaa.Rx
open Go.RowKit Go.Proofs.YtcdkooebhpfknaaW.PrintWords Go.Proofs.YtcdkooebhpfknaaW.PrintLast Go.Proofs.YtcdkooebhpfknaaW.PrintMore Go.Proofs.Ytcdkooebhpfknaa.PRx
set_option linter.unusedVariables false
set_option linter.unusedSimpArgs false

/-- The three results' blocks. -/
structure Outs (w : World) (a : Nat) (v0 v1 v2 v3 v4 : Value) : Prop where
  node : w.heap[a]? = some (.cells #[v0, v1, v2] 26 (0, 0))
  code : w.heap[a + 1]? = some (.cells #[v3] 27 (0, 0))
  at_ : w.heap[a + 2]? = some (.cells #[v4] 3 (0, 0))
theorem outs_set {W : World} {a : Nat} {v0 v1 v2 v3 v4 : Value} (h : Outs W a v0 v1 v2 v3 v4) (u0 u1 u2 u3 u4 : Value) : Outs (((((W.setCell ⟨a, 0, none⟩ u0).setCell ⟨a, 1, none⟩ u1).setCell ⟨a, 2, none⟩ u2).setCell ⟨a + 1, 0, none⟩ u3).setCell ⟨a + 2, 0, none⟩ u4) a u0 u1 u2 u3 u4 := by
  refine ⟨?_, ?_, ?_⟩
  · rw [Below.heap_setCell _ ⟨a + 2, 0, none⟩ _ a (by show a ≠ a + 2; omega), Below.heap_setCell _ ⟨a + 1, 0, none⟩ _ a (by show a ≠ a + 1; omega)]
    exact store3 h.node _ _ _
  · rw [Below.heap_setCell _ ⟨a + 2, 0, none⟩ _ (a + 1) (by show a + 1 ≠ a + 2; omega)]
    have h1 : (((W.setCell ⟨a, 0, none⟩ u0).setCell ⟨a, 1, none⟩ u1).setCell ⟨a, 2, none⟩ u2).heap[a + 1]? = some (.cells #[v3] 27 (0, 0)) := by
      rw [Below.heap_setCell _ ⟨a, 2, none⟩ _ (a + 1) (by show a + 1 ≠ a; omega), Below.heap_setCell _ ⟨a, 1, none⟩ _ (a + 1) (by show a + 1 ≠ a; omega), Below.heap_setCell _ ⟨a, 0, none⟩ _ (a + 1) (by show a + 1 ≠ a; omega)]
      exact h.code
    have := blk_set h1 0 u3
    simpa using this
  · have h1 : ((((W.setCell ⟨a, 0, none⟩ u0).setCell ⟨a, 1, none⟩ u1).setCell ⟨a, 2, none⟩ u2).setCell ⟨a + 1, 0, none⟩ u3).heap[a + 2]? = some (.cells #[v4] 3 (0, 0)) := by
      rw [Below.heap_setCell _ ⟨a + 1, 0, none⟩ _ (a + 2) (by show a + 2 ≠ a + 1; omega), Below.heap_setCell _ ⟨a, 2, none⟩ _ (a + 2) (by show a + 2 ≠ a; omega), Below.heap_setCell _ ⟨a, 1, none⟩ _ (a + 2) (by show a + 2 ≠ a; omega), Below.heap_setCell _ ⟨a, 0, none⟩ _ (a + 2) (by show a + 2 ≠ a; omega)]
      exact h.at_
    have := blk_set h1 0 u4
    simpa using this
theorem Outs.drew {W : World} {a : Nat} {v0 v1 v2 v3 v4 : Value} (h : Outs W a v0 v1 v2 v3 v4) : Outs W.drew a v0 v1 v2 v3 v4 := ⟨h.node, h.code, h.at_⟩
theorem outs_below {w0 W : World} {a : Nat} (h : Below a w0 W) (u0 u1 u2 u3 u4 : Value) : Below a w0 (((((W.setCell ⟨a, 0, none⟩ u0).setCell ⟨a, 1, none⟩ u1).setCell ⟨a, 2, none⟩ u2).setCell ⟨a + 1, 0, none⟩ u3).setCell ⟨a + 2, 0, none⟩ u4) :=
  ((((h.setCell (p := ⟨a, 0, none⟩) (Nat.le_refl _) u0).setCell (p := ⟨a, 1, none⟩) (Nat.le_refl _) u1).setCell (p := ⟨a, 2, none⟩) (Nat.le_refl _) u2).setCell (p := ⟨a + 1, 0, none⟩) (Nat.le_succ _) u3).setCell (p := ⟨a + 2, 0, none⟩) (Nat.le_add_right _ _) u4
def Idle (w : World) (e : Ending) (u : FrameMode) (w' : World) : Prop := e = .returned (.tuple #[]) ∧ u = .returning ∧ Below w.heap.size w w'
set_option maxHeartbeats 1000000 in
theorem caught_idle (p q r : Addr) (w : World) :
    CallsD Try.prog 13 #[.pointer (some p), .pointer (some q), .pointer (some r)] .returning w (Idle w) := by
  have hb := (Below.refl w.heap.size w).alloc (Nat.le_refl _) (.cells #[.int .i64 0, .int .i64 0] 42)
  have HB := Lib.hid hb
  clear hb
  have hta : ∀ w : World, Sem.run Try.prog (Instr.typeAssert .nilIface 20 42 true) w = .ok (.tuple #[.agg #[.int .i64 0, .int .i64 0], .bool false]) w := fun w => by kernel_rfl
  refine callsD_of_wpS Try.func13 rfl fun c₀ cs hu => ?_
  apply wpS_seq
  apply wpS_region
  simp [wpOpsS, go_sem, recoverD, hu, Try.ntmps13, Exit.thenS, hta]
  refine wpS_of_wp ?_
  simp only [Array.replicate, List.replicate]
  go_wp2
  cases c₀
  simp_all [bodyPostS, results, Try.results13]
  exact ⟨rfl, rfl, HB.out⟩
set_option maxHeartbeats 1000000 in
theorem caught_bad (a : Nat) (w : World) (c k : Int) (v0 v1 v2 v3 v4 : Value) (h : Outs w a v0 v1 v2 v3 v4) :
    CallsD Try.prog 13 #[.pointer (some ⟨a, 0, none⟩), .pointer (some ⟨a + 1, 0, none⟩), .pointer (some ⟨a + 2, 0, none⟩)] (.panicking (bad c k)) w fun e u' w' => e = .returned (.tuple #[]) ∧ u' = .panicking [{ v := .iface 42 (.agg #[.int .i64 c, .int .i64 k]), recovered := true }] ∧ Below a w w' ∧ Outs w' a (.int .i64 0) (.slice none 0 0) (.slice none 0 0) (.int .i64 c) (.int .i64 k) := by
  have hta : ∀ w : World, Sem.run Try.prog (Instr.typeAssert (.iface 42 (.agg #[.int .i64 c, .int .i64 k])) 20 42 true) w = .ok (.tuple #[.agg #[.int .i64 c, .int .i64 k], .bool true]) w := fun w => by kernel_rfl
  have y0 := blk_alloc h.node (.cells #[.int .i64 c, .int .i64 k] 42)
  have y1 := blk_alloc h.code (.cells #[.int .i64 c, .int .i64 k] 42)
  have y2 := blk_alloc h.at_ (.cells #[.int .i64 c, .int .i64 k] 42)
  have f0 := blk_cell y0 0; have f1 := blk_cell y0 1; have f2 := blk_cell y0 2; have f3 := blk_frozen y0 0; have f4 := blk_frozen y0 1; have f5 := blk_frozen y0 2
  have f6 := blk_cell y1 0; have f7 := blk_frozen y1 0; have f8 := blk_cell y2 0; have f9 := blk_frozen y2 0
  simp only [List.getElem?_toArray, List.getElem?_cons_zero, List.getElem?_cons_succ] at f0 f1 f2 f6 f8
  have HA : Hid (a + 2 < w.heap.size) := Lib.hid (blk_lt h.at_)
  have n0 : a ≠ w.heap.size := by have := HA.out; omega
  have n1 : w.heap.size ≠ a := by have := HA.out; omega
  have n2 : a + 1 ≠ w.heap.size := by have := HA.out; omega
  have n3 : w.heap.size ≠ a + 1 := by have := HA.out; omega
  have n4 : a + 2 ≠ w.heap.size := by have := HA.out; omega
  have n5 : w.heap.size ≠ a + 2 := by have := HA.out; omega
  have HO := Lib.hid (outs_set ⟨y0, y1, y2⟩ (.int .i64 0) (.slice none 0 0) (.slice none 0 0) (.int .i64 c) (.int .i64 k)).drew
  have HB := Lib.hid (below_drew (outs_below (((Below.refl a w)).alloc (by have := HA.out; omega) (.cells #[.int .i64 c, .int .i64 k] 42)) (.int .i64 0) (.slice none 0 0) (.slice none 0 0) (.int .i64 c) (.int .i64 k)))
  clear y0 y1 y2 h
  refine callsD_of_wpS Try.func13 rfl fun c₀ cs hu => ?_
  apply wpS_seq
  apply wpS_region
  simp [wpOpsS, go_sem, recoverD, hu, bad, Try.ntmps13, Exit.thenS, hta]
  refine wpS_of_wp ?_
  simp only [Array.replicate, List.replicate]
  go_wp2
  go_region
  exact ⟨rfl, _, rfl, .tuple #[], by simp [results, Try.results13], rfl, rfl, HB.out, HO.out⟩
end Go.Proofs.Ytcdkooebhpfknaa.Rx
