/- rex: a set's node. -/
import Derived.Test.YtcdkooebhpfknaaRr
namespace Go.Proofs.Ytcdkooebhpfknaa.Rx
open Go.RowKit Go.Proofs.YtcdkooebhpfknaaW.PrintWords Go.Proofs.YtcdkooebhpfknaaW.PrintLast Go.Proofs.YtcdkooebhpfknaaW.PrintMore Go.Proofs.Ytcdkooebhpfknaa.PRx
set_option linter.unusedVariables false
set_option linter.unusedSimpArgs false

/-- A tree's value; all its rows are newer than B. -/
def Tree (w : World) (B : Nat) (v : Value) (t : S26) : Prop := ∃ A1 n1 c1 A2 n2 c2, v = .agg #[.int .i64 t.f0, .slice A1 n1 c1, .slice A2 n2 c2] ∧ Kd.R k37 37 w B (fun _ => True) (.slice A1 n1 c1) t.f1 ∧ Kd.R k26 26 w B (fun _ => True) (.slice A2 n2 c2) t.f2
theorem Tree.lower {w : World} {B B' : Nat} {v : Value} {t : S26} (h : Tree w B v t) (hb : B' ≤ B) : Tree w B' v t := by
  obtain ⟨A1, n1, c1, A2, n2, c2, h1, h2, h3⟩ := h
  exact ⟨A1, n1, c1, A2, n2, c2, h1, Kd.R_lower h2 hb, Kd.R_lower h3 hb⟩
/-- Old blocks are written: the rows stay. -/
theorem R_old {α : Type} {d : Kd α} {e : Nat} {w w' : World} {B : Nat} {v : Value} {xs : List α} (h : Kd.R d e w B (fun _ => True) v xs) (hk : ∀ k, B ≤ k → k < w.heap.size → w'.heap[k]? = w.heap[k]?) : Kd.R d e w' B (fun _ => True) v xs :=
  Kd.R_mono (Kd.R_move (Kd.R_bound h) (fun k hk1 => hk k hk1.2.1 hk1.2.2.1)) (fun _ _ => trivial)
theorem Tree.old {w w' : World} {B : Nat} {v : Value} {t : S26} (h : Tree w B v t) (hk : ∀ k, B ≤ k → k < w.heap.size → w'.heap[k]? = w.heap[k]?) : Tree w' B v t := by
  obtain ⟨A1, n1, c1, A2, n2, c2, h1, h2, h3⟩ := h
  exact ⟨A1, n1, c1, A2, n2, c2, h1, R_old h2 hk, R_old h3 hk⟩
theorem Tree.far {w : World} {B : Nat} {v : Value} {t : S26} {p : Addr} (h : Tree w B v t) (hp : p.block < B) (u : Value) : Tree (w.setCell p u) B v t := h.old (fun k h1 _ => Below.heap_setCell w p u k (by omega))
theorem al_size (w : World) (o : Obj) : (w.alloc o).heap.size = w.heap.size + 1 := World.size_alloc ..
theorem store3 {w : World} {g : Nat} {t : TypeId} {c0 c1 c2 : Value} (h : w.heap[g]? = some (.cells #[c0, c1, c2] t (0, 0))) (u0 u1 u2 : Value) : (((w.setCell ⟨g, 0, none⟩ u0).setCell ⟨g, 1, none⟩ u1).setCell ⟨g, 2, none⟩ u2).heap[g]? = some (.cells #[u0, u1, u2] t (0, 0)) := by
  have a := blk_set h 0 u0
  have b := blk_set a 1 u1
  have c := blk_set b 2 u2
  simpa using c
theorem size26 : (Try.prog.info? 26).map (·.size) = some 3 := by kernel_rfl
/-- A struct below the rows is written. -/
theorem far3 {α : Type} {d : Kd α} {e : Nat} {w : World} {B B' g : Nat} {v : Value} {xs : List α} {u0 u1 u2 : Value} (h : Kd.R d e w B' (fun _ => True) v xs) (hg : g < B') (hb : B ≤ B' := by simp) : Kd.R d e (((w.setCell ⟨g, 0, none⟩ u0).setCell ⟨g, 1, none⟩ u1).setCell ⟨g, 2, none⟩ u2) B (fun _ => True) v xs := by
  refine Kd.R_lower (R_old h fun k h1 _ => ?_) hb
  rw [Below.heap_setCell _ ⟨g, 2, none⟩ u2 k (by show k ≠ g; omega), Below.heap_setCell _ ⟨g, 1, none⟩ u1 k (by show k ≠ g; omega), Below.heap_setCell _ ⟨g, 0, none⟩ u0 k (by show k ≠ g; omega)]
theorem below3 {w0 w : World} {B g : Nat} {u0 u1 u2 : Value} (h : Below B w0 w) (hg : B ≤ g := by simp) : Below B w0 (((w.setCell ⟨g, 0, none⟩ u0).setCell ⟨g, 1, none⟩ u1).setCell ⟨g, 2, none⟩ u2) := ((h.setCell (p := ⟨g, 0, none⟩) hg u0).setCell (p := ⟨g, 1, none⟩) hg u1).setCell (p := ⟨g, 2, none⟩) hg u2

set_option maxHeartbeats 1000000 in
theorem set_any {w : World} {A : Option Addr} {c : Nat} {rs : List S37} (neg : Bool) (hl : rs.length ≤ c) (hC : Kd.C k37 w A rs.length rs) (hf : Fit rs) :
    Calls Try.prog 36 #[.bool neg, .slice A rs.length c] w fun e w' => ∃ v, e = .returned v ∧ Tree w' w.heap.size v (setN neg rs) ∧ Below w.heap.size w w' := by
  have hb0 : Below w.heap.size w (w.alloc (.cells #[.int .i64 0, .slice none 0 0, .slice none 0 0] 26)) := (Below.refl w.heap.size w).alloc (Nat.le_refl _) _
  have HR := Lib.hid (ranges_any neg hl (Kd.C_below hC hb0) hf)
  have HB0 := Lib.hid hb0
  have hg0 := blk_new w (.cells #[.int .i64 0, .slice none 0 0, .slice none 0 0] 26)
  have HG0 := Lib.hid hg0
  clear hC hf hb0 hg0
  go_enter Try.func36, Try.ntmps36
  go_wp2_with (first | (go_at_call 22; refine HR.out.mono ?_; rintro e w1 ⟨v, rfl, hr, hb⟩; (obtain ⟨A1, n1, c1, rfl⟩ : ∃ A n c, v = .slice A n c := by obtain ⟨A, c, e⟩ := Kd.R_slice hr; exact ⟨A, _, c, e⟩); have h1 := blk_below HG0.out hb; have f0 := blk_cell h1 0; have f1 := blk_cell h1 1; have f2 := blk_cell h1 2; have f3 := blk_frozen h1 0; have f4 := blk_frozen h1 1; have f5 := blk_frozen h1 2; (simp only [List.getElem?_toArray, List.getElem?_cons_zero, List.getElem?_cons_succ] at f0 f1 f2); have H1 := Lib.hid h1; have HR1 := Lib.hid hr; have HB1 := Lib.hid hb; clear h1 hr hb))
  have hg := store3 H1.out (.int .i64 1) (.slice A1 n1 c1) (.slice none 0 0)
  refine bodyPost_ret (results_cell_row (p := 4) rfl _ _ w.heap.size 26 _ (0, 0) _ rfl hg Try.underlying26 rfl size26) rfl ?_
  exact ⟨_, rfl, ⟨A1, n1, c1, none, 0, 0, rfl, far3 HR1.out (by rw [al_size]; exact Nat.lt_succ_self _), Kd.R_nil _ _ _ _ _⟩, below3 (HB0.out.trans (HB1.out.mono (by rw [al_size]; exact Nat.le_succ _)))⟩
end Go.Proofs.Ytcdkooebhpfknaa.Rx
