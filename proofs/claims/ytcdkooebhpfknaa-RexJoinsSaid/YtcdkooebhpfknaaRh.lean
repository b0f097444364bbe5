/- rex's reader: what an alternation's walk leans on. -/
import Derived.Test.YtcdkooebhpfknaaRg
import Derived.Deep.RegionHeld3
namespace Go.Proofs.Ytcdkooebhpfknaa.Rx
open Go.RowKit Go.Proofs.YtcdkooebhpfknaaW.PrintWords Go.Proofs.YtcdkooebhpfknaaW.PrintLast Go.Proofs.YtcdkooebhpfknaaW.PrintMore Go.Proofs.Ytcdkooebhpfknaa.PRx
set_option linter.unusedVariables false
set_option linter.unusedSimpArgs false

theorem own_small {α : Type} {d : Kd α} {e : Nat} {w : World} {B : Nat} {v : Value} {l : List α} (h : Kd.R d e w B (fun _ => True) v l) : ∀ k, w.heap.size ≤ k → True ∧ some k ≠ v.ownBlock := by
  intro k hk
  refine ⟨trivial, fun he => ?_⟩
  have := (Kd.R_bound h).1 k he.symm
  have := this.2.2.1
  omega
/-- Between two parts. -/
structure OInv (w : World) (g : Nat) (s : ByteArray) (P : List S26) (r : List Int) (A3 : Option Addr) (n3 c3 : Nat) (W : World) : Prop where
  rp : Kd.R k26 26 W (w.heap.size + 1) (fun _ => True) (.slice A3 n3 c3) P
  at_ : At W g s r
  keep : KeepBut (w.alloc (.cells #[.int .i64 0, .slice none 0 0, .slice none 0 0] 26)) W g none
  gl : g < w.heap.size
/-- Within a part: it lies in block q. -/
structure AInv (w : World) (g : Nat) (s : ByteArray) (q : Nat) (P K : List S26) (r : List Int) (A3 : Option Addr) (n3 c3 : Nat) (AK : Option Addr) (nK cK : Nat) (W : World) : Prop where
  cell : W.heap[q]? = some (.cells #[.int .i64 2, .slice none 0 0, .slice AK nK cK] 26 (0, 0))
  rp : Kd.R k26 26 W (w.heap.size + 1) (fun k => k < q) (.slice A3 n3 c3) P
  rk : Kd.R k26 26 W (q + 1) (fun _ => True) (.slice AK nK cK) K
  at_ : At W g s r
  keep : KeepBut (w.alloc (.cells #[.int .i64 0, .slice none 0 0, .slice none 0 0] 26)) W g none
  lt : w.heap.size < q
  gl : g < w.heap.size
section
variable {w W W' : World} {g q : Nat} {s : ByteArray} {P K : List S26} {r r' : List Int} {A3 AK : Option Addr} {n3 c3 nK cK : Nat}
theorem OInv.start (h : OInv w g s P r A3 n3 c3 W) : AInv w g s W.heap.size P [] r A3 n3 c3 none 0 0 (W.alloc (.cells #[.int .i64 2, .slice none 0 0, .slice none 0 0] 26)) := by
  have hs := h.keep.1
  rw [al_size] at hs
  exact ⟨blk_new W _, Kd.R_alloc (Kd.R_mono (Kd.R_bound h.rp) (fun k hk => hk.2.2.1)) _, Kd.R_nil _ _ _ _ _, h.at_.moved, keep_alloc h.keep _, by omega, h.gl⟩
theorem AInv.on (h : AInv w g s q P K r A3 n3 c3 AK nK cK W) (hk : KeepBut W W' g none) (ha : At W' g s r') : AInv w g s q P K r' A3 n3 c3 AK nK cK W' := by
  have := h.gl
  have := h.lt
  exact ⟨blk_kept_ h.cell hk (by omega), R_oldO h.rp (fun k _ h1 h2 => hk.2 k h2 (by omega) (by simp)), R_old h.rk (fun k h1 h2 => hk.2 k h2 (by omega) (by simp)), ha, h.keep.trans hk (.inl rfl), h.lt, h.gl⟩
theorem AInv.box (h : AInv w g s q P K r A3 n3 c3 AK nK cK W) : W.heap[w.heap.size]? = some (.cells #[.int .i64 0, .slice none 0 0, .slice none 0 0] 26 (0, 0)) := zS_at h.keep h.gl
theorem OInv.box (h : OInv w g s P r A3 n3 c3 W) : W.heap[w.heap.size]? = some (.cells #[.int .i64 0, .slice none 0 0, .slice none 0 0] 26 (0, 0)) := zS_at h.keep h.gl
/-- A kid is appended, and stored. -/
theorem AInv.kid {t : S26} {A7 : Option Addr} {n7 c7 : Nat} {W7 : World} (h : AInv w g s q P K r A3 n3 c3 AK nK cK W) (hb : Below (q + 1) W W7) (hr : Kd.R k26 26 W7 (q + 1) (fun _ => True) (.slice A7 n7 c7) (K ++ [t])) :
    AInv w g s q P (K ++ [t]) r A3 n3 c3 A7 n7 c7 (W7.setCell ⟨q, 2, none⟩ (.slice A7 n7 c7)) := by
  have h1 := h.gl
  have h2 := h.lt
  have hf : ∀ k, k ≠ q → (W7.setCell ⟨q, 2, none⟩ (.slice A7 n7 c7)).heap[k]? = W7.heap[k]? := fun k hk => Below.heap_setCell _ ⟨q, 2, none⟩ _ k hk
  refine ⟨?_, R_oldO h.rp (fun k h3 h4 h5 => (hf k (by omega)).trans (hb.block k (by omega))), R_old hr (fun k h3 h4 => hf k (by omega)), ?_, ?_, h.lt, h.gl⟩
  · have := blk_set ((hb.block q (by omega)).trans h.cell) 2 (.slice A7 n7 c7)
    simpa using this
  · exact (h.at_.belowB hb (by omega)).far (p := ⟨q, 2, none⟩) (by show g ≠ q; omega) _
  · refine keep_far (keep_belowB h.keep (hb.mono ?_) hb.size) (p := ⟨q, 2, none⟩) ?_ _
    · rw [al_size]; omega
    · rw [al_size]; show w.heap.size + 1 ≤ q; omega
/-- A part is appended. -/
theorem AInv.part {A7 : Option Addr} {n7 c7 : Nat} {W7 : World} (h : AInv w g s q P K r A3 n3 c3 AK nK cK W) (hb : Below (w.heap.size + 1) W W7) (hr : Kd.R k26 26 W7 (w.heap.size + 1) (fun _ => True) (.slice A7 n7 c7) (P ++ [catN K])) :
    OInv w g s (P ++ [catN K]) r A7 n7 c7 W7 := by
  have h1 := h.gl
  exact ⟨hr, h.at_.belowB hb (by omega), keep_belowB h.keep (by rw [al_size]; exact hb) hb.size, h.gl⟩
theorem OInv.on (h : OInv w g s P r A3 n3 c3 W) (hk : KeepBut W W' g none) (ha : At W' g s r') : OInv w g s P r' A3 n3 c3 W' := by
  have := h.gl
  exact ⟨R_old h.rp (fun k h1 h2 => hk.2 k h2 (by omega) (by simp)), ha, h.keep.trans hk (.inl rfl), h.gl⟩
end
/-- Is a piece here? -/
def more : List Int → Bool
  | [] => false
  | c :: _ => !(c == 124) && !(c == 41)
/-- A kid's cells, behind a row. -/
theorem kid_M {W5 : World} {B B' : Nat} {t : S26} {A1 : Option Addr} {n1 c1 : Nat} {A2 : Option Addr} {n2 c2 : Nat} (h1 : Kd.R k37 37 W5 B (fun _ => True) (.slice A1 n1 c1) t.f1) (h2 : Kd.R k26 26 W5 B (fun _ => True) (.slice A2 n2 c2) t.f2) (hb : B' ≤ B) : k26.M W5 B' (fun k => B ≤ k) t [.int .i64 t.f0, .slice A1 n1 c1, .slice A2 n2 c2] :=
  k26_mkM _ _ _ t (Kd.R_lower (Kd.R_mono (Kd.R_bound h1) (fun k hk => hk.2.1)) hb) (Kd.R_lower (Kd.R_mono (Kd.R_bound h2) (fun k hk => hk.2.1)) hb)
/-- A row of one node: what the node's cells are. -/
theorem first_of {W : World} {B : Nat} {x : S26} {A : Option Addr} {n c : Nat} (h : Kd.R k26 26 W B (fun _ => True) (.slice A n c) [x]) : ∃ (b : Nat) (A1 : Option Addr) (n1 c1 : Nat) (A2 : Option Addr) (n2 c2 : Nat), A = some ⟨b, 0, none⟩ ∧ n = 1 ∧
    W.cell? ⟨b, 0, none⟩ = some (.int .i64 x.f0) ∧ W.cell? ⟨b, 1, none⟩ = some (.slice A1 n1 c1) ∧ W.cell? ⟨b, 2, none⟩ = some (.slice A2 n2 c2) ∧
    Kd.R k37 37 W B (fun _ => True) (.slice A1 n1 c1) x.f1 ∧ Kd.R k26 26 W B (fun _ => True) (.slice A2 n2 c2) x.f2 := by
  have hn := (Kd.R_reads' h).1
  obtain ⟨ad, c', e⟩ := Kd.R_slice1 h (by simp)
  injection e with e1 e2 e3
  subst e1
  obtain ⟨b, rfl⟩ := Kd.R_head h
  obtain ⟨cs, hcl, hM, hcc⟩ := Kd.R_getA h z26 0 (by omega) (by simp only [List.length_singleton] at hn; omega)
  obtain ⟨v1, v2, rfl, g1, g2⟩ := k26_openM hM
  obtain ⟨A1, d1, rfl⟩ := Kd.R_slice g1
  obtain ⟨A2, d2, rfl⟩ := Kd.R_slice g2
  refine ⟨b, A1, _, d1, A2, _, d2, rfl, hn, ?_, ?_, ?_, Kd.R_mono g1 (fun _ _ => trivial), Kd.R_mono g2 (fun _ _ => trivial)⟩
  · have := hcc 0 _ rfl; simpa [Addr.add] using this
  · have := hcc 1 _ rfl; simpa [Addr.add] using this
  · have := hcc 2 _ rfl; simpa [Addr.add] using this
theorem mkAlt_one (x : S26) : mkAlt [x] = x := rfl
theorem mkAlt_more (x : S26) (P : List S26) (y : S26) : mkAlt (x :: P ++ [y]) = ⟨3, [], x :: P ++ [y]⟩ := by
  unfold mkAlt
  rw [if_neg (by simp)]
end Go.Proofs.Ytcdkooebhpfknaa.Rx
