/- A Node that comes in as an argument: what is read of it. -/
import Derived.Test.YtmhodkkfbbpgaaaNode
import Derived.ChangeArms
import Derived.Deep.Slices
namespace Go.Proofs.Ytmhodkkfbbpgaaa.Nm
set_option linter.unusedVariables false
set_option linter.unusedSimpArgs false
open Go.RowKit Mem Re Tree Fac Go.Proofs.Ytmhodkkfbbpgaaa.PNfa Go.Proofs.YtmhodkkfbbpgaaaW.PrintWords Go.Proofs.YtmhodkkfbbpgaaaW.PrintLast Go.Proofs.YtmhodkkfbbpgaaaW.PrintMore

theorem rows_of {α : Type} (d : Kd α) {w : World} {base : Nat} {a : Addr} {len : Nat} {Q : α → Prop} (hlen : len ≤ 9223372036854775807)
    (h : ∀ i, i < len → ∃ cs' x, w.cells? base (a.add (i * d.sz)) d.sz = some cs' ∧ d.K w x cs' ∧ Q x) : ∃ xs : List α, xs.length = len ∧ Kd.C d w (some a) len xs ∧ ∀ x, x ∈ xs → Q x := by
  classical
  by_cases h0 : len = 0
  · subst h0
    exact ⟨[], rfl, ⟨rfl, by omega, fun c => absurd c (Nat.lt_irrefl 0)⟩, fun x hx => by simp at hx⟩
  obtain ⟨_, z, _⟩ := h 0 (by omega)
  have hch : ∀ i, ∃ x, i < len → ∃ cs', w.cells? base (a.add (i * d.sz)) d.sz = some cs' ∧ d.K w x cs' ∧ Q x := by
    intro i
    by_cases hi : i < len
    · obtain ⟨cs', x, h1, h2, h3⟩ := h i hi
      exact ⟨x, fun _ => ⟨cs', h1, h2, h3⟩⟩
    · exact ⟨z, fun c => (hi c).elim⟩
  let f : Nat → α := fun i => Classical.choose (hch i)
  have hf : ∀ i, i < len → ∃ cs', w.cells? base (a.add (i * d.sz)) d.sz = some cs' ∧ d.K w (f i) cs' ∧ Q (f i) := fun i => Classical.choose_spec (hch i)
  refine ⟨(List.range len).map f, by simp, ⟨by simp, hlen, fun _ => ⟨a, rfl, fun j p hp => ?_⟩⟩, fun x hx => ?_⟩
  · rw [List.getElem?_map, Option.map_eq_some_iff] at hp
    obtain ⟨i, hi, rfl⟩ := hp
    have hj := (List.getElem?_eq_some_iff.1 hi)
    obtain ⟨hjl, hji⟩ := hj
    simp at hjl hji
    subst hji
    obtain ⟨cs', h1, h2, _⟩ := hf j hjl
    obtain ⟨_, hl, hc⟩ := World.cells?_some h1
    refine ⟨cs', hl, h2, fun i u hu => ?_⟩
    have hi' := (List.getElem?_eq_some_iff.1 hu).1
    have := hc i (by omega)
    rw [Deep.add_add] at this
    rw [this, hu]
  · obtain ⟨i, hi, rfl⟩ := List.mem_map.1 hx
    simp at hi
    obtain ⟨_, _, _, h3⟩ := hf i hi
    exact h3

section
variable {H : Type} {enc : TypeId × Value → H} {w : World} {base : Nat} {spare : Nat → Bool} {held : Bool}

theorem wf64 {k : Int} (h : (Lit.int .i64 k).wf = true) : -9223372036854775808 ≤ k ∧ k ≤ 9223372036854775807 := by
  simp only [Lit.wf, Bool.and_eq_true, decide_eq_true_eq] at h
  simpa [IntKind.min, IntKind.max, IntKind.signed, IntKind.bits] using h

theorem wf8 {k : Int} (h : (Lit.int .u8 k).wf = true) : 0 ≤ k ∧ k ≤ 255 := by
  simp only [Lit.wf, Bool.and_eq_true, decide_eq_true_eq] at h
  simpa [IntKind.min, IntKind.max, IntKind.signed, IntKind.bits] using h

theorem c3 : Try.prog.cellsOf 3 = 1 := by kernel_rfl
theorem c5 : Try.prog.cellsOf 5 = 1 := by kernel_rfl
theorem cR : Try.prog.cellsOf 22 = 1 := by kernel_rfl
theorem cN : Try.prog.cellsOf 23 = 1 := by kernel_rfl
theorem c64 : Try.prog.cellsOf 64 = 2 := by kernel_rfl
theorem c25 : Try.prog.cellsOf 25 = 3 := by kernel_rfl

theorem range_read {fuel : Nat} {cs : List Value} {x : DataW H × List MemPlace} (h : DataW.trod enc Try.prog w base spare held fuel 64 cs = some x) : ∃ r : Rg, k64.K w r cs ∧ okR r ∧ True := by
  obtain ⟨xs, n, _, _, hl, hlen, hf⟩ := DataW.trod_struct Try.underlying64 h
  rw [c64] at hl
  match cs, hl with
  | [a, b], _ =>
    match xs, hlen with
    | [y0, y1], _ =>
      have h0 : DataW.trod enc Try.prog w base spare held n 5 (([a, b].drop 0).take (Try.prog.cellsOf 5)) = some y0 := hf 0 _ rfl
      have h1 : DataW.trod enc Try.prog w base spare held n 5 (([a, b].drop 1).take (Try.prog.cellsOf 5)) = some y1 := hf 1 _ rfl
      rw [c5] at h0 h1
      obtain ⟨lo, e0, _, w0⟩ := DataW.trod_int Try.underlying5 h0
      obtain ⟨hi, e1, _, w1⟩ := DataW.trod_int Try.underlying5 h1
      simp at e0 e1
      subst e0 e1
      exact ⟨⟨lo, hi⟩, k64_mk w _, ⟨wf8 w0, wf8 w1⟩, trivial⟩

theorem node_read (N : Nat) : ∀ (fuel : Nat) (cs : List Value) (x : DataW H × List MemPlace), fuel ≤ N → DataW.trod enc Try.prog w base spare held fuel 25 cs = some x → ∃ nd : Nd, k25.K w nd cs ∧ okT nd ∧ lenT nd := by
  induction N with
  | zero =>
    intro fuel cs x hN h
    obtain ⟨_, n, e, _⟩ := DataW.trod_struct Try.underlying25 h
    omega
  | succ N ih =>
    intro fuel cs x hN h
    obtain ⟨xs, n, e, _, hl, hlen, hf⟩ := DataW.trod_struct Try.underlying25 h
    rw [c25] at hl
    match cs, hl with
    | [a, b, c], _ =>
      match xs, hlen with
      | [y0, y1, y2], _ =>
        have h0 : DataW.trod enc Try.prog w base spare held n 3 (([a, b, c].drop 0).take (Try.prog.cellsOf 3)) = some y0 := hf 0 _ rfl
        have h1 : DataW.trod enc Try.prog w base spare held n 22 (([a, b, c].drop 1).take (Try.prog.cellsOf 22)) = some y1 := hf 1 _ rfl
        have h2 : DataW.trod enc Try.prog w base spare held n 23 (([a, b, c].drop 2).take (Try.prog.cellsOf 23)) = some y2 := hf 2 _ rfl
        rw [c3] at h0
        rw [cR] at h1
        rw [cN] at h2
        obtain ⟨k, e0, _, w0⟩ := DataW.trod_int Try.underlying3 h0
        simp at e0
        subst e0
        have hrs : ∃ (A1 : Option Addr) (c1 : Nat) (rs : List Rg), b = .slice A1 rs.length c1 ∧ rs.length ≤ c1 ∧ rs.length ≤ lenMax ∧ Kd.C k64 w A1 rs.length rs ∧ ∀ r, r ∈ rs → okR r ∧ True := by
          rcases DataW.trod_slice Try.underlying22 h1 with ⟨e1, _⟩ | ⟨ad, len, cap, elems, rest, n1, en1, e1, _, hb, hlc, hcm, hel, hcell, _⟩
          · simp at e1
            subst e1
            exact ⟨none, 0, [], rfl, Nat.le_refl 0, Nat.zero_le _, Kd.C_nil _ w, fun r hr => by simp at hr⟩
          · simp at e1
            subst e1
            obtain ⟨rs, q1, q2, q3⟩ := rows_of (w := w) (base := base) (a := ad) (len := len) k64 (Q := fun r => okR r ∧ True) (by unfold maxLen at hcm; omega) (fun i hi => by
              have hx := hcell i hi
              rw [List.getElem?_eq_getElem (by omega), c64] at hx
              obtain ⟨cs', t1, t2⟩ := Option.bind_eq_some_iff.1 hx
              obtain ⟨r, g1, g2⟩ := range_read t2
              exact ⟨cs', r, t1, g1, g2⟩)
            subst q1
            exact ⟨some ad, cap, rs, rfl, hlc, by unfold lenMax; unfold maxLen at hcm; omega, q2, q3⟩
        have hks : ∃ (A2 : Option Addr) (c2 : Nat) (ks : List Nd), c = .slice A2 ks.length c2 ∧ ks.length ≤ c2 ∧ ks.length ≤ lenMax ∧ Kd.C k25 w A2 ks.length ks ∧ ∀ r, r ∈ ks → okT r ∧ lenT r := by
          rcases DataW.trod_slice Try.underlying23 h2 with ⟨e1, _⟩ | ⟨ad, len, cap, elems, rest, n1, en1, e1, _, hb, hlc, hcm, hel, hcell, _⟩
          · simp at e1
            subst e1
            exact ⟨none, 0, [], rfl, Nat.le_refl 0, Nat.zero_le _, Kd.C_nil _ w, fun r hr => by simp at hr⟩
          · simp at e1
            subst e1
            obtain ⟨rs, q1, q2, q3⟩ := rows_of (w := w) (base := base) (a := ad) (len := len) k25 (Q := fun r => okT r ∧ lenT r) (by unfold maxLen at hcm; omega) (fun i hi => by
              have hx := hcell i hi
              rw [List.getElem?_eq_getElem (by omega), c25] at hx
              obtain ⟨cs', t1, t2⟩ := Option.bind_eq_some_iff.1 hx
              obtain ⟨r, g1, g2⟩ := ih n1 cs' _ (by omega) t2
              exact ⟨cs', r, t1, g1, g2⟩)
            subst q1
            exact ⟨some ad, cap, rs, rfl, hlc, by unfold lenMax; unfold maxLen at hcm; omega, q2, q3⟩
        obtain ⟨A1, c1, rs, rfl, l1, m1, g1, o1⟩ := hrs
        obtain ⟨A2, c2, ks, rfl, l2, m2, g2, o2⟩ := hks
        have okl : ∀ l : List Nd, (∀ r, r ∈ l → okT r ∧ lenT r) → okL l ∧ lenL l := by
          intro l
          induction l with
          | nil => intro _; simp [okL, lenL]
          | cons y l ih =>
            intro hy
            have := ih (fun r hr => hy r (List.mem_cons_of_mem _ hr))
            simp only [okL, lenL]
            exact ⟨⟨(hy y List.mem_cons_self).1, this.1⟩, (hy y List.mem_cons_self).2, this.2⟩
        refine ⟨⟨k, rs, ks⟩, k25_mk w ⟨k, rs, ks⟩ l1 g1 l2 g2, ?_, ?_⟩
        · simp only [okT]
          exact ⟨wf64 w0, fun r hr => (o1 r hr).1, (okl ks o2).1⟩
        · simp only [lenT]
          exact ⟨m1, m2, (okl ks o2).2⟩
end

end Go.Proofs.Ytmhodkkfbbpgaaa.Nm
