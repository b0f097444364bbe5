/- rex.Parse: what a reader panics with is caught and told. rex.Parse. The law's parsing; Same; a whole law's small facts. -/
import Derived.Test.YtcdkooebhpfknaaMe
import Derived.Recover
import Derived.RegionTactic
import Derived.ChangeAlike
import Derived.Test.YtcdkooebhpfknaaMa
import Derived.Test.YtcdkooebhpfknaaPRxx3
namespace Go.Proofs.Ytcdkooebhpfknaa.Rx
open Go.RowKit Go.Proofs.YtcdkooebhpfknaaW.PrintWords Go.Proofs.YtcdkooebhpfknaaW.PrintLast Go.Proofs.YtcdkooebhpfknaaW.PrintMore Go.Proofs.Ytcdkooebhpfknaa.PRx
set_option linter.unusedVariables false
set_option linter.unusedSimpArgs false

/-- The three results' blocks. -/
structure Outs (w : World) (a : Nat) (v0 v1 v2 v3 v4 : Value) : Prop where
  node : w.heap[a]? = some (.cells #[v0, v1, v2] 26 (0, 0))
  code : w.heap[a + 1]? = some (.cells #[v3] 27 (0, 0))
  at_ : w.heap[a + 2]? = some (.cells #[v4] 3 (0, 0))
theorem outs_set {W : World} {a : Nat} {v0 v1 v2 v3 v4 : Value} (h : Outs W a v0 v1 v2 v3 v4) (u0 u1 u2 u3 u4 : Value) : Outs (((((W.setCell ⟨a, 0, none⟩ u0).setCell ⟨a, 1, none⟩ u1).setCell ⟨a, 2, none⟩ u2).setCell ⟨a + 1, 0, none⟩ u3).setCell ⟨a + 2, 0, none⟩ u4) a u0 u1 u2 u3 u4 := by
  refine ⟨?_, ?_, ?_⟩
  · rw [Below.heap_setCell _ ⟨a + 2, 0, none⟩ _ a (by show a ≠ a + 2; omega), Below.heap_setCell _ ⟨a + 1, 0, none⟩ _ a (by show a ≠ a + 1; omega)]
    exact store3 h.node _ _ _
  · rw [Below.heap_setCell _ ⟨a + 2, 0, none⟩ _ (a + 1) (by show a + 1 ≠ a + 2; omega)]
    have h1 : (((W.setCell ⟨a, 0, none⟩ u0).setCell ⟨a, 1, none⟩ u1).setCell ⟨a, 2, none⟩ u2).heap[a + 1]? = some (.cells #[v3] 27 (0, 0)) := by
      rw [Below.heap_setCell _ ⟨a, 2, none⟩ _ (a + 1) (by show a + 1 ≠ a; omega), Below.heap_setCell _ ⟨a, 1, none⟩ _ (a + 1) (by show a + 1 ≠ a; omega), Below.heap_setCell _ ⟨a, 0, none⟩ _ (a + 1) (by show a + 1 ≠ a; omega)]
      exact h.code
    have := blk_set h1 0 u3
    simpa using this
  · have h1 : ((((W.setCell ⟨a, 0, none⟩ u0).setCell ⟨a, 1, none⟩ u1).setCell ⟨a, 2, none⟩ u2).setCell ⟨a + 1, 0, none⟩ u3).heap[a + 2]? = some (.cells #[v4] 3 (0, 0)) := by
      rw [Below.heap_setCell _ ⟨a + 1, 0, none⟩ _ (a + 2) (by show a + 2 ≠ a + 1; omega), Below.heap_setCell _ ⟨a, 2, none⟩ _ (a + 2) (by show a + 2 ≠ a; omega), Below.heap_setCell _ ⟨a, 1, none⟩ _ (a + 2) (by show a + 2 ≠ a; omega), Below.heap_setCell _ ⟨a, 0, none⟩ _ (a + 2) (by show a + 2 ≠ a; omega)]
      exact h.at_
    have := blk_set h1 0 u4
    simpa using this
theorem Outs.drew {W : World} {a : Nat} {v0 v1 v2 v3 v4 : Value} (h : Outs W a v0 v1 v2 v3 v4) : Outs W.drew a v0 v1 v2 v3 v4 := ⟨h.node, h.code, h.at_⟩
theorem outs_below {w0 W : World} {a : Nat} (h : Below a w0 W) (u0 u1 u2 u3 u4 : Value) : Below a w0 (((((W.setCell ⟨a, 0, none⟩ u0).setCell ⟨a, 1, none⟩ u1).setCell ⟨a, 2, none⟩ u2).setCell ⟨a + 1, 0, none⟩ u3).setCell ⟨a + 2, 0, none⟩ u4) :=
  ((((h.setCell (p := ⟨a, 0, none⟩) (Nat.le_refl _) u0).setCell (p := ⟨a, 1, none⟩) (Nat.le_refl _) u1).setCell (p := ⟨a, 2, none⟩) (Nat.le_refl _) u2).setCell (p := ⟨a + 1, 0, none⟩) (Nat.le_succ _) u3).setCell (p := ⟨a + 2, 0, none⟩) (Nat.le_add_right _ _) u4
def Idle (w : World) (e : Ending) (u : FrameMode) (w' : World) : Prop := e = .returned (.tuple #[]) ∧ u = .returning ∧ Below w.heap.size w w'
set_option maxHeartbeats 1000000 in
theorem caught_idle (p q r : Addr) (w : World) :
    CallsD Try.prog 13 #[.pointer (some p), .pointer (some q), .pointer (some r)] .returning w (Idle w) := by
  have hb := (Below.refl w.heap.size w).alloc (Nat.le_refl _) (.cells #[.int .i64 0, .int .i64 0] 42)
  have HB := Lib.hid hb
  clear hb
  have hta : ∀ w : World, Sem.run Try.prog (Instr.typeAssert .nilIface 20 42 true) w = .ok (.tuple #[.agg #[.int .i64 0, .int .i64 0], .bool false]) w := fun w => by kernel_rfl
  refine callsD_of_wpS Try.func13 rfl fun c₀ cs hu => ?_
  apply wpS_seq
  apply wpS_region
  simp [wpOpsS, go_sem, recoverD, hu, Try.ntmps13, Exit.thenS, hta]
  refine wpS_of_wp ?_
  simp only [Array.replicate, List.replicate]
  go_wp2
  cases c₀
  simp_all [bodyPostS, results, Try.results13]
  exact ⟨rfl, rfl, HB.out⟩
set_option maxHeartbeats 1000000 in
theorem caught_bad (a : Nat) (w : World) (c k : Int) (v0 v1 v2 v3 v4 : Value) (h : Outs w a v0 v1 v2 v3 v4) :
    CallsD Try.prog 13 #[.pointer (some ⟨a, 0, none⟩), .pointer (some ⟨a + 1, 0, none⟩), .pointer (some ⟨a + 2, 0, none⟩)] (.panicking (bad c k)) w fun e u' w' => e = .returned (.tuple #[]) ∧ u' = .panicking [{ v := .iface 42 (.agg #[.int .i64 c, .int .i64 k]), recovered := true }] ∧ Below a w w' ∧ Outs w' a (.int .i64 0) (.slice none 0 0) (.slice none 0 0) (.int .i64 c) (.int .i64 k) := by
  have hta : ∀ w : World, Sem.run Try.prog (Instr.typeAssert (.iface 42 (.agg #[.int .i64 c, .int .i64 k])) 20 42 true) w = .ok (.tuple #[.agg #[.int .i64 c, .int .i64 k], .bool true]) w := fun w => by kernel_rfl
  have y0 := blk_alloc h.node (.cells #[.int .i64 c, .int .i64 k] 42)
  have y1 := blk_alloc h.code (.cells #[.int .i64 c, .int .i64 k] 42)
  have y2 := blk_alloc h.at_ (.cells #[.int .i64 c, .int .i64 k] 42)
  have f0 := blk_cell y0 0; have f1 := blk_cell y0 1; have f2 := blk_cell y0 2; have f3 := blk_frozen y0 0; have f4 := blk_frozen y0 1; have f5 := blk_frozen y0 2
  have f6 := blk_cell y1 0; have f7 := blk_frozen y1 0; have f8 := blk_cell y2 0; have f9 := blk_frozen y2 0
  simp only [List.getElem?_toArray, List.getElem?_cons_zero, List.getElem?_cons_succ] at f0 f1 f2 f6 f8
  have HA : Hid (a + 2 < w.heap.size) := Lib.hid (blk_lt h.at_)
  have n0 : a ≠ w.heap.size := by have := HA.out; omega
  have n1 : w.heap.size ≠ a := by have := HA.out; omega
  have n2 : a + 1 ≠ w.heap.size := by have := HA.out; omega
  have n3 : w.heap.size ≠ a + 1 := by have := HA.out; omega
  have n4 : a + 2 ≠ w.heap.size := by have := HA.out; omega
  have n5 : w.heap.size ≠ a + 2 := by have := HA.out; omega
  have HO := Lib.hid (outs_set ⟨y0, y1, y2⟩ (.int .i64 0) (.slice none 0 0) (.slice none 0 0) (.int .i64 c) (.int .i64 k)).drew
  have HB := Lib.hid (below_drew (outs_below (((Below.refl a w)).alloc (by have := HA.out; omega) (.cells #[.int .i64 c, .int .i64 k] 42)) (.int .i64 0) (.slice none 0 0) (.slice none 0 0) (.int .i64 c) (.int .i64 k)))
  clear y0 y1 y2 h
  refine callsD_of_wpS Try.func13 rfl fun c₀ cs hu => ?_
  apply wpS_seq
  apply wpS_region
  simp [wpOpsS, go_sem, recoverD, hu, bad, Try.ntmps13, Exit.thenS, hta]
  refine wpS_of_wp ?_
  simp only [Array.replicate, List.replicate]
  go_wp2
  go_region
  exact ⟨rfl, _, rfl, .tuple #[], by simp [results, Try.results13], rfl, rfl, HB.out, HO.out⟩
end Go.Proofs.Ytcdkooebhpfknaa.Rx
namespace Go.Proofs.Ytcdkooebhpfknaa.Rx
open Go.RowKit Go.Proofs.YtcdkooebhpfknaaW.PrintWords Go.Proofs.YtcdkooebhpfknaaW.PrintLast Go.Proofs.YtcdkooebhpfknaaW.PrintMore Go.Proofs.Ytcdkooebhpfknaa.PRx
set_option linter.unusedVariables false
set_option linter.unusedSimpArgs false

/-- A pattern's tree, the error, its place. -/
def parseP (xs : List Int) : S26 × Int × Int :=
  if 256 < xs.length then (z26, 2, 0) else
  match altR xs with
  | .ok t [] => (t, 0, 0)
  | .ok t (c :: r) => (z26, 30, (xs.length : Int) - ((r.length + 1 : Nat) : Int))
  | .err c k => (z26, c, (xs.length : Int) - (k : Int))
/-- All old blocks are as they were. -/
abbrev Kpt (w w' : World) : Prop := Below w.heap.size w w'
theorem Kpt.refl (w : World) : Kpt w w := Below.refl _ w
theorem Kpt.trans {w w1 w2 : World} (h : Kpt w w1) (h2 : Kpt w1 w2) : Kpt w w2 := Below.trans h (Below.mono h2 (Below.size h))
theorem Kpt.of_below {w w' : World} (h : Below w.heap.size w w') : Kpt w w' := h
theorem Kpt.setCell {w w1 : World} (h : Kpt w w1) {p : Addr} (hp : w.heap.size ≤ p.block) (u : Value) : Kpt w (w1.setCell p u) := Below.setCell h hp u
theorem Kpt.drewN {w w1 : World} (h : Kpt w w1) (n : Nat) : Kpt w (w1.drewN n) := below_drewN h n
theorem Kpt.alloc {w w1 : World} (h : Kpt w w1) (o : Obj) : Kpt w (w1.alloc o) := Below.alloc h (Below.size h) o
theorem Kpt.blk {w w1 : World} (h : Kpt w w1) {g : Nat} {o : Obj} (hg : w.heap[g]? = some o) : w1.heap[g]? = some o := (Below.block h g (blk_lt hg)).trans hg
def PRes (w : World) (q : S26 × Int × Int) (e : Ending) (w' : World) : Prop :=
  ∃ v, e = .returned (.tuple #[v, .int .i64 q.2.1, .int .i64 q.2.2]) ∧ Tree w' w.heap.size v q.1 ∧ Kpt w w'
/-- The world in which the reading begins. -/
def w3_ (w : World) : World := ((w.alloc (.cells #[.int .i64 0, .slice none 0 0, .slice none 0 0] 26)).alloc (.cells #[.int .i64 0] 27)).alloc (.cells #[.int .i64 0] 3)
def w4_ (w : World) (s : ByteArray) : World := (w3_ w).alloc (.cells #[.string s, .int .i64 0] 46)
theorem w3_size (w : World) : (w3_ w).heap.size = w.heap.size + 3 := by simp only [w3_, al_size]
theorem w4_size (w : World) (s : ByteArray) : (w4_ w s).heap.size = w.heap.size + 4 := by simp only [w4_, al_size, w3_size]
theorem w3_below (w : World) : Below w.heap.size w (w3_ w) := (((Below.refl w.heap.size w).alloc (Nat.le_refl _) _).alloc (by rw [al_size]; omega) _).alloc (by rw [al_size, al_size]; omega) _
theorem w4_below (w : World) (s : ByteArray) : Below w.heap.size w (w4_ w s) := (w3_below w).alloc (by rw [w3_size]; omega) _
theorem w3_outs (w : World) : Outs (w3_ w) w.heap.size (.int .i64 0) (.slice none 0 0) (.slice none 0 0) (.int .i64 0) (.int .i64 0) := by
  have a := blk_new w (.cells #[.int .i64 0, .slice none 0 0, .slice none 0 0] 26)
  have b := blk_new (w.alloc (.cells #[.int .i64 0, .slice none 0 0, .slice none 0 0] 26)) (.cells #[.int .i64 0] 27)
  have c := blk_new ((w.alloc (.cells #[.int .i64 0, .slice none 0 0, .slice none 0 0] 26)).alloc (.cells #[.int .i64 0] 27)) (.cells #[.int .i64 0] 3)
  rw [al_size] at b
  rw [al_size, al_size] at c
  exact ⟨blk_alloc (blk_alloc a _) _, blk_alloc b _, c⟩
theorem Outs.alloc {w : World} {a : Nat} {v0 v1 v2 v3 v4 : Value} (h : Outs w a v0 v1 v2 v3 v4) (o : Obj) : Outs (w.alloc o) a v0 v1 v2 v3 v4 := ⟨blk_alloc h.node o, blk_alloc h.code o, blk_alloc h.at_ o⟩
theorem Outs.kept {w w' : World} {a g : Nat} {v0 v1 v2 v3 v4 : Value} (h : Outs w a v0 v1 v2 v3 v4) (hk : KeepBut w w' g none) (hg : a + 2 < g) : Outs w' a v0 v1 v2 v3 v4 :=
  ⟨blk_kept_ h.node hk (by omega), blk_kept_ h.code hk (by omega), blk_kept_ h.at_ hk (by omega)⟩
theorem Outs.below {w w' : World} {a : Nat} {v0 v1 v2 v3 v4 : Value} (h : Outs w a v0 v1 v2 v3 v4) (hb : Below w.heap.size w w') : Outs w' a v0 v1 v2 v3 v4 :=
  ⟨blk_below h.node hb, blk_below h.code hb, blk_below h.at_ hb⟩
theorem Outs.node_set {w : World} {a : Nat} {v0 v1 v2 v3 v4 : Value} (h : Outs w a v0 v1 v2 v3 v4) (u0 u1 u2 : Value) : Outs (((w.setCell ⟨a, 0, none⟩ u0).setCell ⟨a, 1, none⟩ u1).setCell ⟨a, 2, none⟩ u2) a u0 u1 u2 v3 v4 := by
  refine ⟨store3 h.node _ _ _, ?_, ?_⟩
  · rw [Below.heap_setCell _ ⟨a, 2, none⟩ _ (a + 1) (by show a + 1 ≠ a; omega), Below.heap_setCell _ ⟨a, 1, none⟩ _ (a + 1) (by show a + 1 ≠ a; omega), Below.heap_setCell _ ⟨a, 0, none⟩ _ (a + 1) (by show a + 1 ≠ a; omega)]
    exact h.code
  · rw [Below.heap_setCell _ ⟨a, 2, none⟩ _ (a + 2) (by show a + 2 ≠ a; omega), Below.heap_setCell _ ⟨a, 1, none⟩ _ (a + 2) (by show a + 2 ≠ a; omega), Below.heap_setCell _ ⟨a, 0, none⟩ _ (a + 2) (by show a + 2 ≠ a; omega)]
    exact h.at_
theorem w4_at (w : World) (s : ByteArray) (hs : s.size ≤ 256) : At (w4_ w s) (w.heap.size + 3) s (bI s) := by
  refine ⟨⟨0, ?_, by omega, by rw [bI_len]; omega, rfl⟩, hs⟩
  have := blk_new (w3_ w) (.cells #[.string s, .int .i64 0] 46)
  rw [w3_size] at this
  exact this
theorem Outs.drewN {W : World} {a : Nat} {v0 v1 v2 v3 v4 : Value} (h : Outs W a v0 v1 v2 v3 v4) (n : Nat) : Outs (W.drewN n) a v0 v1 v2 v3 v4 := ⟨h.node, h.code, h.at_⟩
/-- The results' blocks are written: trees behind them stay. -/
theorem tree_set {W : World} {a B : Nat} {v : Value} {t : S26} (h : Tree W B v t) (hB : a + 2 < B) (u0 u1 u2 u3 u4 : Value) : Tree (((((W.setCell ⟨a, 0, none⟩ u0).setCell ⟨a, 1, none⟩ u1).setCell ⟨a, 2, none⟩ u2).setCell ⟨a + 1, 0, none⟩ u3).setCell ⟨a + 2, 0, none⟩ u4) B v t :=
  ((((h.far (p := ⟨a, 0, none⟩) (by show a < B; omega) u0).far (p := ⟨a, 1, none⟩) (by show a < B; omega) u1).far (p := ⟨a, 2, none⟩) (by show a < B; omega) u2).far (p := ⟨a + 1, 0, none⟩) (by show a + 1 < B; omega) u3).far (p := ⟨a + 2, 0, none⟩) (by show a + 2 < B; omega) u4
/-- How the reading stands behind its alternation. -/
structure Mid (w wq : World) (s : ByteArray) (v : Value) (t : S26) (r : List Int) (v0 v1 v2 : Value) : Prop where
  outs : Outs wq w.heap.size v0 v1 v2 (.int .i64 0) (.int .i64 0)
  tree : Tree wq (w.heap.size + 4) v t
  below : Kpt w wq
  at_ : At wq (w.heap.size + 3) s r
theorem mid_of {w w5 : World} {s : ByteArray} {v : Value} {t : S26} {r : List Int} (ht : Tree w5 (w4_ w s).heap.size v t) (hk : KeepBut (w4_ w s) w5 (w.heap.size + 3) none) (ha : At w5 (w.heap.size + 3) s r) : Mid w w5 s v t r (.int .i64 0) (.slice none 0 0) (.slice none 0 0) := by
  refine ⟨((w3_outs w).alloc (.cells #[.string s, .int .i64 0] 46)).kept hk (Nat.lt_succ_self _), by rw [w4_size] at ht; exact ht, ?_, ha⟩
  have hs := hk.1
  rw [w4_size] at hs
  exact ⟨hk.os, hk.tape, hk.output, by omega, fun k hk' => (hk.2 k (by rw [w4_size]; omega) (by omega) (by simp)).trans ((w4_below w s).block k hk')⟩
theorem Mid.node {w wq : World} {s : ByteArray} {v : Value} {t : S26} {r : List Int} {v0 v1 v2 : Value} (h : Mid w wq s v t r v0 v1 v2) (u0 u1 u2 : Value) : Mid w (((wq.setCell ⟨w.heap.size, 0, none⟩ u0).setCell ⟨w.heap.size, 1, none⟩ u1).setCell ⟨w.heap.size, 2, none⟩ u2) s v t r u0 u1 u2 :=
  ⟨h.outs.node_set _ _ _, ((h.tree.far (p := ⟨w.heap.size, 0, none⟩) (by show w.heap.size < _; omega) u0).far (p := ⟨w.heap.size, 1, none⟩) (by show w.heap.size < _; omega) u1).far (p := ⟨w.heap.size, 2, none⟩) (by show w.heap.size < _; omega) u2,
   ((h.below.setCell (p := ⟨w.heap.size, 0, none⟩) (Nat.le_refl _) u0).setCell (p := ⟨w.heap.size, 1, none⟩) (Nat.le_refl _) u1).setCell (p := ⟨w.heap.size, 2, none⟩) (Nat.le_refl _) u2,
   h.at_.far3 (by omega)⟩
theorem Mid.drewN {w wq : World} {s : ByteArray} {v : Value} {t : S26} {r : List Int} {v0 v1 v2 : Value} (h : Mid w wq s v t r v0 v1 v2) (n : Nat) : Mid w (wq.drewN n) s v t r v0 v1 v2 :=
  ⟨h.outs.drewN n, h.tree.old (fun _ _ _ => rfl), h.below.drewN n, h.at_.drewN n⟩
theorem Mid.fin {w wq w2 : World} {s : ByteArray} {v : Value} {t : S26} {r : List Int} {v0 v1 v2 : Value} (h : Mid w wq s v t r v0 v1 v2) (u0 u1 u2 u3 u4 : Value)
    (hb : Below (((((wq.setCell ⟨w.heap.size, 0, none⟩ u0).setCell ⟨w.heap.size, 1, none⟩ u1).setCell ⟨w.heap.size, 2, none⟩ u2).setCell ⟨w.heap.size + 1, 0, none⟩ u3).setCell ⟨w.heap.size + 2, 0, none⟩ u4).heap.size (((((wq.setCell ⟨w.heap.size, 0, none⟩ u0).setCell ⟨w.heap.size, 1, none⟩ u1).setCell ⟨w.heap.size, 2, none⟩ u2).setCell ⟨w.heap.size + 1, 0, none⟩ u3).setCell ⟨w.heap.size + 2, 0, none⟩ u4) w2) :
    Outs w2 w.heap.size u0 u1 u2 u3 u4 ∧ Tree w2 w.heap.size v t ∧ Kpt w w2 := by
  refine ⟨(outs_set h.outs _ _ _ _ _).below hb, ?_, ?_⟩
  · exact ((tree_set h.tree (by omega) u0 u1 u2 u3 u4).old (fun k _ hk => hb.block k hk)).lower (by omega)
  · exact (((((h.below.setCell (p := ⟨w.heap.size, 0, none⟩) (Nat.le_refl _) u0).setCell (p := ⟨w.heap.size, 1, none⟩) (Nat.le_refl _) u1).setCell (p := ⟨w.heap.size, 2, none⟩) (Nat.le_refl _) u2).setCell (p := ⟨w.heap.size + 1, 0, none⟩) (Nat.le_succ _) u3).setCell (p := ⟨w.heap.size + 2, 0, none⟩) (Nat.le_add_right _ _) u4).trans (Kpt.of_below hb)
set_option maxHeartbeats 4000000 in
set_option maxRecDepth 100000 in
theorem parse_ok {w : World} {s : ByteArray} {t : S26} (hs : s.size ≤ 256) (h : altR (bI s) = .ok t []) : Calls Try.prog 9 #[.string s] w (PRes w (t, 0, 0)) := by
  have hA := alt_any (w4_at w s hs)
  rw [h] at hA
  have HA := Lib.hid hA
  have hs' : (s.size : Int) ≤ 256 := by omega
  have hmf : ∀ (fn : Fn) (first cap : Array Value) (w : World), (Instr.makeFunc fn first cap).run Try.prog w = .ok (.func fn first cap) w := fun _ _ _ _ => rfl
  clear hA h hs
  go_enter_defers Try.func9, Try.ntmps9
  go_wp2_with (first
    | (go_at_call 14; refine HA.out.mono ?_; rintro e w5 ⟨v, rfl, ht, hk, ha⟩; (have hm := mid_of ht hk ha); (obtain ⟨A1, n1, c1, A2, n2, c2, rfl, hr1, hr2⟩ := ht); have ho := hm.outs; have f0 := blk_cell ho.node 0; have f1 := blk_cell ho.node 1; have f2 := blk_cell ho.node 2; have f3 := blk_frozen ho.node 0; have f4 := blk_frozen ho.node 1; have f5 := blk_frozen ho.node 2; (simp only [List.getElem?_toArray, List.getElem?_cons_zero, List.getElem?_cons_succ] at f0 f1 f2); have HM := Lib.hid (hm.node (.int .i64 t.f0) (.slice A1 n1 c1) (.slice A2 n2 c2)); clear ho hm ha hk hr1 hr2)
    | (go_at_call 15; refine (over_nil HM.out.at_).mono ?_; rintro e wq ⟨rfl, q, hq⟩; (obtain HM7 : Hid (Mid w wq s _ t [] _ _ _) := Lib.hid (by rw [hq]; exact HM.out.drewN q)); clear hq; have ho := HM7.out.outs; have k0 := blk_cell ho.node 0; have k1 := blk_cell ho.node 1; have k2 := blk_cell ho.node 2; have k3 := blk_frozen ho.node 0; have k4 := blk_frozen ho.node 1; have k5 := blk_frozen ho.node 2; have k6 := blk_cell ho.code 0; have k7 := blk_frozen ho.code 0; have k8 := blk_cell ho.at_ 0; have k9 := blk_frozen ho.at_ 0; (simp only [List.getElem?_toArray, List.getElem?_cons_zero, List.getElem?_cons_succ] at k0 k1 k2 k6 k8); clear ho))
  refine leaves_cons (f := 13) (args := #[.pointer (some ⟨w.heap.size, 0, none⟩), .pointer (some ⟨w.heap.size + 1, 0, none⟩), .pointer (some ⟨w.heap.size + 2, 0, none⟩)]) (by simp) (by simp [go_sem]) ?_
  refine (caught_idle ⟨w.heap.size, 0, none⟩ ⟨w.heap.size + 1, 0, none⟩ ⟨w.heap.size + 2, 0, none⟩ _).mono ?_
  rintro e u' w'' ⟨rfl, rfl, hb⟩
  have HF := HM7.out.fin _ _ _ _ _ hb
  have ho := HF.1
  have h0 := blk_cell ho.node 0
  have h1 := blk_cell ho.node 1
  have h2 := blk_cell ho.node 2
  have h6 := blk_cell ho.code 0
  have h8 := blk_cell ho.at_ 0
  simp only [List.getElem?_toArray, List.getElem?_cons_zero, List.getElem?_cons_succ] at h0 h1 h2 h6 h8
  simp [Leaves, settle, results, Try.results9, go_sem, h0, h1, h2, h6, h8]
  exact ⟨_, rfl, HF.2.1, HF.2.2⟩
theorem tree_zero (w : World) (B : Nat) : Tree w B (.agg #[.int .i64 0, .slice none 0 0, .slice none 0 0]) z26 := ⟨none, 0, 0, none, 0, 0, rfl, Kd.R_nil _ _ _ _ _, Kd.R_nil _ _ _ _ _⟩
set_option maxHeartbeats 4000000 in
set_option maxRecDepth 100000 in
theorem parse_err {w : World} {s : ByteArray} {c : Int} {k : Nat} (hs : s.size ≤ 256) (h : altR (bI s) = .err c k) : Calls Try.prog 9 #[.string s] w (PRes w (z26, c, (s.size : Int) - (k : Int))) := by
  have hA := alt_any (w4_at w s hs)
  rw [h] at hA
  have HA := Lib.hid hA
  have hs' : (s.size : Int) ≤ 256 := by omega
  have hmf : ∀ (fn : Fn) (first cap : Array Value) (w : World), (Instr.makeFunc fn first cap).run Try.prog w = .ok (.func fn first cap) w := fun _ _ _ _ => rfl
  have HO := Lib.hid ((w3_outs w).alloc (.cells #[.string s, .int .i64 0] 46))
  clear hA h hs
  go_enter_defers Try.func9, Try.ntmps9
  go_wp2_with (first
    | (go_at_call 14; refine HA.out.mono ?_; rintro e w5 ⟨rfl, hk⟩; have HK := Lib.hid hk; clear hk))
  refine leaves_cons (f := 13) (args := #[.pointer (some ⟨w.heap.size, 0, none⟩), .pointer (some ⟨w.heap.size + 1, 0, none⟩), .pointer (some ⟨w.heap.size + 2, 0, none⟩)]) (by simp) (by simp [go_sem]) ?_
  refine (caught_bad w.heap.size _ c ((s.size : Int) - (k : Int)) _ _ _ _ _ (HO.out.kept HK.out (Nat.lt_succ_self _))).mono ?_
  rintro e u' w'' ⟨rfl, rfl, hb, ho⟩
  have h0 := blk_cell ho.node 0
  have h1 := blk_cell ho.node 1
  have h2 := blk_cell ho.node 2
  have h6 := blk_cell ho.code 0
  have h8 := blk_cell ho.at_ 0
  simp only [List.getElem?_toArray, List.getElem?_cons_zero, List.getElem?_cons_succ] at h0 h1 h2 h6 h8
  simp [Leaves, settle, results, Try.results9, go_sem, h0, h1, h2, h6, h8]
  have hk1 : Kpt w w5 := ⟨HK.out.os, HK.out.tape, HK.out.output, by have := HK.out.1; have := w4_size w s; omega, fun j hj => (HK.out.2 j (by rw [w4_size]; omega) (by omega) (by simp)).trans ((w4_below w s).block j hj)⟩
  exact ⟨_, rfl, tree_zero _ _, Below.trans hk1 hb⟩
set_option maxHeartbeats 4000000 in
set_option maxRecDepth 100000 in
theorem parse_more {w : World} {s : ByteArray} {t : S26} {d : Int} {r : List Int} (hs : s.size ≤ 256) (h : altR (bI s) = .ok t (d :: r)) : Calls Try.prog 9 #[.string s] w (PRes w (z26, 30, (s.size : Int) - ((r.length + 1 : Nat) : Int))) := by
  have hA := alt_any (w4_at w s hs)
  rw [h] at hA
  have HA := Lib.hid hA
  have hs' : (s.size : Int) ≤ 256 := by omega
  have hmf : ∀ (fn : Fn) (first cap : Array Value) (w : World), (Instr.makeFunc fn first cap).run Try.prog w = .ok (.func fn first cap) w := fun _ _ _ _ => rfl
  clear hA h hs
  go_enter_defers Try.func9, Try.ntmps9
  go_wp2_with (first
    | (go_at_call 14; refine HA.out.mono ?_; rintro e w5 ⟨v, rfl, ht, hk, ha⟩; (have hm := mid_of ht hk ha); (obtain ⟨A1, n1, c1, A2, n2, c2, rfl, hr1, hr2⟩ := ht); have ho := hm.outs; have f0 := blk_cell ho.node 0; have f1 := blk_cell ho.node 1; have f2 := blk_cell ho.node 2; have f3 := blk_frozen ho.node 0; have f4 := blk_frozen ho.node 1; have f5 := blk_frozen ho.node 2; (simp only [List.getElem?_toArray, List.getElem?_cons_zero, List.getElem?_cons_succ] at f0 f1 f2); have HM := Lib.hid (hm.node (.int .i64 t.f0) (.slice A1 n1 c1) (.slice A2 n2 c2)); clear ho hm ha hk hr1 hr2)
    | (go_at_call 15; refine (over_cons HM.out.at_).mono ?_; rintro e wq ⟨rfl, q, hq⟩; (obtain HM7 : Hid (Mid w wq s _ t (d :: r) _ _ _) := Lib.hid (by rw [hq]; exact HM.out.drewN q)); clear hq; (obtain ⟨i, q0, q1, q2, q3, q4, q5⟩ := HM7.out.at_.facts); have Q4 := Lib.hid q4; clear q4)
    | (go_at_call 16; refine (fail_any _ _ _ _).mono ?_; rintro e wq2 ⟨rfl, rfl⟩))
  refine leaves_cons (f := 13) (args := #[.pointer (some ⟨w.heap.size, 0, none⟩), .pointer (some ⟨w.heap.size + 1, 0, none⟩), .pointer (some ⟨w.heap.size + 2, 0, none⟩)]) (by simp) (by simp [go_sem]) ?_
  refine (caught_bad w.heap.size _ 30 i _ _ _ _ _ HM7.out.outs).mono ?_
  rintro e u' w'' ⟨rfl, rfl, hb, ho⟩
  have h0 := blk_cell ho.node 0
  have h1 := blk_cell ho.node 1
  have h2 := blk_cell ho.node 2
  have h6 := blk_cell ho.code 0
  have h8 := blk_cell ho.at_ 0
  simp only [List.getElem?_toArray, List.getElem?_cons_zero, List.getElem?_cons_succ] at h0 h1 h2 h6 h8
  simp [Leaves, settle, results, Try.results9, go_sem, h0, h1, h2, h6, h8]
  have ei : i = (s.size : Int) - ((r.length + 1 : Nat) : Int) := by have := Q4.out; simp only [List.length_cons] at this; omega
  subst ei
  exact ⟨_, rfl, tree_zero _ _, Below.trans HM7.out.below hb⟩
set_option maxHeartbeats 4000000 in
set_option maxRecDepth 100000 in
theorem parse_long {w : World} {s : ByteArray} (hs : 256 < s.size) : Calls Try.prog 9 #[.string s] w (PRes w (z26, 2, 0)) := by
  have hs' : decide ((s.size : Int) > 256) = true := by simpa using (by omega : (256 : Int) < (s.size : Int))
  have hs2 : decide ((256 : Int) < (s.size : Int)) = true := by simpa using (by omega : (256 : Int) < (s.size : Int))
  clear hs
  go_enter_defers Try.func9, Try.ntmps9
  go_wp2
  have ho : Outs (((w.alloc (.cells #[.int .i64 0, .slice none 0 0, .slice none 0 0] 26)).alloc (.cells #[.int .i64 2] 27)).alloc (.cells #[.int .i64 0] 3)) w.heap.size (.int .i64 0) (.slice none 0 0) (.slice none 0 0) (.int .i64 2) (.int .i64 0) := by
    have a := blk_new w (.cells #[.int .i64 0, .slice none 0 0, .slice none 0 0] 26)
    have b := blk_new (w.alloc (.cells #[.int .i64 0, .slice none 0 0, .slice none 0 0] 26)) (.cells #[.int .i64 2] 27)
    have c := blk_new ((w.alloc (.cells #[.int .i64 0, .slice none 0 0, .slice none 0 0] 26)).alloc (.cells #[.int .i64 2] 27)) (.cells #[.int .i64 0] 3)
    rw [al_size] at b
    rw [al_size, al_size] at c
    exact ⟨blk_alloc (blk_alloc a _) _, blk_alloc b _, c⟩
  have hk : Kpt w (((w.alloc (.cells #[.int .i64 0, .slice none 0 0, .slice none 0 0] 26)).alloc (.cells #[.int .i64 2] 27)).alloc (.cells #[.int .i64 0] 3)) := (((Kpt.refl w).alloc _).alloc _).alloc _
  have h0 := blk_cell ho.node 0
  have h1 := blk_cell ho.node 1
  have h2 := blk_cell ho.node 2
  have h6 := blk_cell ho.code 0
  have h8 := blk_cell ho.at_ 0
  simp only [List.getElem?_toArray, List.getElem?_cons_zero, List.getElem?_cons_succ] at h0 h1 h2 h6 h8
  simp [bodyPostD, Leaves, settle, results, Try.results9, go_sem, h0, h1, h2, h6, h8]
  exact ⟨_, rfl, tree_zero _ _, hk⟩
theorem parse_any (s : ByteArray) (w : World) : Calls Try.prog 9 #[.string s] w (PRes w (parseP (bI s))) := by
  unfold parseP
  rw [bI_len]
  by_cases hs : 256 < s.size
  · rw [if_pos hs]; exact parse_long hs
  · rw [if_neg hs]
    cases h : altR (bI s) with
    | err c k => exact parse_err (by omega) h
    | ok t r =>
      cases r with
      | nil => exact parse_ok (by omega) h
      | cons d r => exact parse_more (by omega) h
end Go.Proofs.Ytcdkooebhpfknaa.Rx
namespace Go.Proofs.Ytcdkooebhpfknaa.Rx
open Go.RowKit Go.Proofs.YtcdkooebhpfknaaW.PrintWords Go.Proofs.YtcdkooebhpfknaaW.PrintLast Go.Proofs.YtcdkooebhpfknaaW.PrintMore Go.Proofs.Ytcdkooebhpfknaa.PRx
set_option linter.unusedVariables false
set_option linter.unusedSimpArgs false

theorem p_alive1 : parseP [97, 124, 98, 42] = (⟨3, [], [catN [setN false [⟨97, 97⟩]], catN [⟨4, [], [setN false [⟨98, 98⟩]]⟩]]⟩, 0, 0) := by
  with_unfolding_all rfl
theorem p_alive2 : parseP [97, 41] = (z26, 30, 1) := by
  with_unfolding_all rfl
def Told (w : World) (b : Bool) (e : Ending) (w' : World) : Prop := e = .returned (.bool b) ∧ Kpt w w'
set_option maxHeartbeats 1000000 in
theorem parsing_any (w : World) : Calls Try.prog 8 #[] w (Told w true) := by
  have HP1 : Hid (∀ w, Calls Try.prog 9 #[.string ⟨#[97, 124, 98, 42]⟩] w (PRes w (⟨3, [], [catN [setN false [⟨97, 97⟩]], catN [⟨4, [], [setN false [⟨98, 98⟩]]⟩]]⟩, 0, 0))) := Lib.hid fun w => by
    have := parse_any ⟨#[97, 124, 98, 42]⟩ w
    rwa [show bI ⟨#[97, 124, 98, 42]⟩ = [97, 124, 98, 42] from rfl, p_alive1] at this
  have HP2 : Hid (∀ w, Calls Try.prog 9 #[.string ⟨#[97, 41]⟩] w (PRes w (z26, 30, 1))) := Lib.hid fun w => by
    have := parse_any ⟨#[97, 41]⟩ w
    rwa [show bI ⟨#[97, 41]⟩ = [97, 41] from rfl, p_alive2] at this
  go_enter Try.func8, Try.ntmps8
  go_wp2_with (first
    | (go_at_call 9; (with_reducible refine (HP1.out _).mono ?_); rintro e w1 ⟨v, rfl, ⟨A1, n1, c1, A2, n2, c2, rfl, hr1, hr2⟩, hk⟩; (obtain rfl := (Kd.R_reads' hr2).1); have HK1 := Lib.hid hk; clear hr1 hr2 hk)
    | (go_at_call 9; (with_reducible refine (HP2.out _).mono ?_); rintro e w2 ⟨v, rfl, ⟨A3, n3, c3, A4, n4, c4, rfl, hr1, hr2⟩, hk⟩; have y1 := blk_alloc (hk.blk (blk_new _ _)) (.cells #[.int .i64 z26.f0, .slice A3 n3 c3, .slice A4 n4 c4] 26); have f0 := blk_cell y1 0; have f2 := blk_cell y1 2; (simp only [List.getElem?_toArray, List.getElem?_cons_zero, List.getElem?_cons_succ] at f0 f2); have HK2 := Lib.hid hk; clear hr1 hr2 hk y1))
  go_ret
  exact ⟨rfl, (((HK1.out.alloc _).trans HK2.out).alloc _)⟩
end Go.Proofs.Ytcdkooebhpfknaa.Rx
