/- A Cond that comes in as an argument: what is read of it, and how large it is. -/
import Derived.Test.YtonbnfaleboobaaCt
import Derived.Test.YtonbnfaleboobaaRows
import Derived.ChangeArms
import Derived.Deep.Slices
namespace Go.Proofs.Ytonbnfaleboobaa.Pr
set_option linter.unusedVariables false
set_option linter.unusedSimpArgs false
open Go.RowKit Go.Proofs.Ytonbnfaleboobaa.PPrintConds Go.Proofs.YtonbnfaleboobaaW.PrintWords Go.Proofs.YtonbnfaleboobaaW.PrintLast Go.Proofs.YtonbnfaleboobaaW.PrintMore

theorem bulkAll_append {H : Type} (l r : List (DataW H)) : Rows.uptoBulkAll (l ++ r) = Rows.uptoBulkAll l + Rows.uptoBulkAll r := by
  induction l with
  | nil => simp [Rows.uptoBulkAll]
  | cons x l ih => simp only [List.cons_append, Rows.uptoBulkAll, ih]; omega
theorem bulkL_le {H : Type} : ∀ (xs : List Cd) (ds : List (DataW H)), xs.length = ds.length → (∀ i (h : i < xs.length) (h2 : i < ds.length), blk xs[i] ≤ Rows.uptoBulk ds[i]) → blkL xs ≤ Rows.uptoBulkAll ds := by
  intro xs
  induction xs with
  | nil => intro ds _ _; simp [blkL]
  | cons x xs ih =>
    intro ds hl h
    cases ds with
    | nil => simp at hl
    | cons d ds =>
      have h0 := h 0 (by simp) (by simp)
      have h1 := ih ds (by simpa using hl) (fun i h1 h2 => h (i + 1) (by simpa using h1) (by simpa using h2))
      simp only [blkL, Rows.uptoBulkAll]
      simp at h0
      omega

theorem rows_of {α : Type} (d : Kd α) {w : World} {base : Nat} {a : Addr} {len : Nat} {Q : Nat → α → Prop} (hlen : len ≤ 9223372036854775807)
    (h : ∀ i, i < len → ∃ cs' x, w.cells? base (a.add (i * d.sz)) d.sz = some cs' ∧ d.K w x cs' ∧ Q i x) : ∃ xs : List α, xs.length = len ∧ Kd.C d w (some a) len xs ∧ ∀ i (h : i < xs.length), Q i xs[i] := by
  classical
  by_cases h0 : len = 0
  · subst h0
    exact ⟨[], rfl, ⟨rfl, by omega, fun c => absurd c (Nat.lt_irrefl 0)⟩, fun i hx => by simp at hx⟩
  obtain ⟨_, z, _⟩ := h 0 (by omega)
  have hch : ∀ i, ∃ x, i < len → ∃ cs', w.cells? base (a.add (i * d.sz)) d.sz = some cs' ∧ d.K w x cs' ∧ Q i x := by
    intro i
    by_cases hi : i < len
    · obtain ⟨cs', x, h1, h2, h3⟩ := h i hi
      exact ⟨x, fun _ => ⟨cs', h1, h2, h3⟩⟩
    · exact ⟨z, fun c => (hi c).elim⟩
  let f : Nat → α := fun i => Classical.choose (hch i)
  have hf : ∀ i, i < len → ∃ cs', w.cells? base (a.add (i * d.sz)) d.sz = some cs' ∧ d.K w (f i) cs' ∧ Q i (f i) := fun i => Classical.choose_spec (hch i)
  refine ⟨(List.range len).map f, by simp, ⟨by simp, hlen, fun _ => ⟨a, rfl, fun j p hp => ?_⟩⟩, fun i hx => ?_⟩
  · rw [List.getElem?_map, Option.map_eq_some_iff] at hp
    obtain ⟨i, hi, rfl⟩ := hp
    have hj := (List.getElem?_eq_some_iff.1 hi)
    obtain ⟨hjl, hji⟩ := hj
    simp at hjl hji
    subst hji
    obtain ⟨cs', h1, h2, _⟩ := hf j hjl
    obtain ⟨_, hl, hc⟩ := World.cells?_some h1
    refine ⟨cs', hl, h2, fun i u hu => ?_⟩
    have hi' := (List.getElem?_eq_some_iff.1 hu).1
    have := hc i (by omega)
    rw [Deep.add_add] at this
    rw [this, hu]
  · simp at hx
    obtain ⟨_, _, _, h3⟩ := hf i hx
    simpa using h3

section
variable {H : Type} {enc : TypeId × Value → H} {w : World} {base : Nat} {spare : Nat → Bool} {held : Bool}

theorem cInt : Try.prog.cellsOf 3 = 1 := by kernel_rfl
theorem cStr : Try.prog.cellsOf 9 = 1 := by kernel_rfl
theorem cSl : Try.prog.cellsOf 22 = 1 := by kernel_rfl
theorem cC : Try.prog.cellsOf 24 = 4 := by kernel_rfl

theorem cond_read (N : Nat) : ∀ (fuel : Nat) (cs : List Value) (x : DataW H × List MemPlace), fuel ≤ N → DataW.trod enc Try.prog w base spare held fuel 24 cs = some x → ∃ c : Cd, k24.K w c cs ∧ blk c ≤ Rows.uptoBulk x.1 := by
  induction N with
  | zero =>
    intro fuel cs x hN h
    obtain ⟨_, n, e, _⟩ := DataW.trod_struct Try.underlying24 h
    omega
  | succ N ih =>
    intro fuel cs x hN h
    obtain ⟨xs, n, e, ex, hl, hlen, hf⟩ := DataW.trod_struct Try.underlying24 h
    rw [cC] at hl
    match cs, hl with
    | [a, b, c, d], _ =>
      match xs, hlen with
      | [y0, y1, y2, y3], _ =>
        have h0 : DataW.trod enc Try.prog w base spare held n 3 (([a, b, c, d].drop 0).take (Try.prog.cellsOf 3)) = some y0 := hf 0 _ rfl
        have h1 : DataW.trod enc Try.prog w base spare held n 9 (([a, b, c, d].drop 1).take (Try.prog.cellsOf 9)) = some y1 := hf 1 _ rfl
        have h2 : DataW.trod enc Try.prog w base spare held n 9 (([a, b, c, d].drop 2).take (Try.prog.cellsOf 9)) = some y2 := hf 2 _ rfl
        have h3 : DataW.trod enc Try.prog w base spare held n 22 (([a, b, c, d].drop 3).take (Try.prog.cellsOf 22)) = some y3 := hf 3 _ rfl
        rw [cInt] at h0
        rw [cStr] at h1 h2
        rw [cSl] at h3
        obtain ⟨k, e0, _, w0⟩ := DataW.trod_int Try.underlying3 h0
        obtain ⟨s1, e1, x1, _⟩ := DataW.trod_string Try.underlying9 h1
        obtain ⟨s2, e2, x2, _⟩ := DataW.trod_string Try.underlying9 h2
        simp at e0 e1 e2
        subst e0 e1 e2
        have hks : ∃ (A3 : Option Addr) (c3 : Nat) (ks : List Cd), d = .slice A3 ks.length c3 ∧ ks.length ≤ c3 ∧ Kd.C k24 w A3 ks.length ks ∧ blkL ks ≤ Rows.uptoBulk y3.1 := by
          rcases DataW.trod_slice Try.underlying22 h3 with ⟨e1, _⟩ | ⟨ad, len, cap, elems, rest, n1, en1, e1, ey, hb, hlc, hcm, hel, hcell, _⟩
          · simp at e1
            subst e1
            exact ⟨none, 0, [], rfl, Nat.le_refl 0, Kd.C_nil _ w, Nat.zero_le _⟩
          · simp at e1
            subst e1
            obtain ⟨rs, q1, q2, q3⟩ := rows_of (w := w) (base := base) (a := ad) (len := len) k24 (Q := fun i c => ∀ (h : i < elems.length), blk c ≤ Rows.uptoBulk elems[i].1) (by unfold maxLen at hcm; omega) (fun i hi => by
              have hx := hcell i hi
              rw [List.getElem?_eq_getElem (by omega), cC] at hx
              obtain ⟨cs', t1, t2⟩ := Option.bind_eq_some_iff.1 hx
              obtain ⟨r, g1, g2⟩ := ih n1 cs' _ (by omega) t2
              exact ⟨cs', r, t1, g1, fun _ => g2⟩)
            subst q1
            refine ⟨some ad, cap, rs, rfl, hlc, q2, ?_⟩
            rw [ey]
            simp only [Rows.uptoBulk]
            have := bulkL_le rs (elems.map (·.1)) (by rw [List.length_map, hel]) (fun i h h2 => by rw [List.getElem_map]; exact q3 i h (by simpa using h2))
            omega
        obtain ⟨A3, c3, ks, rfl, l3, g3, b3⟩ := hks
        refine ⟨⟨k, s1, s2, ks⟩, k24_mk w ⟨k, s1, s2, ks⟩ l3 g3, ?_⟩
        rw [ex]
        simp only [blk, Rows.uptoBulk, List.map_cons, List.map_nil, Rows.uptoBulkAll]
        rw [x1, x2]
        simp only [Rows.uptoBulk]
        have z1 : s1.data.toList.length = s1.size := by rw [Array.length_toList]; rfl
        have z2 : s2.data.toList.length = s2.size := by rw [Array.length_toList]; rfl
        omega
end

end Go.Proofs.Ytonbnfaleboobaa.Pr
