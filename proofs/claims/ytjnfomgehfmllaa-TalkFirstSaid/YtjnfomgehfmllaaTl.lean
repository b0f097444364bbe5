/- Chunks as they come, and copied. -/
import Derived.Test.YtjnfomgehfmllaaTk
import Derived.Deep.RegionLaw
namespace Go.Proofs.Ytjnfomgehfmllaa.Tk
set_option linter.unusedVariables false
set_option linter.unusedSimpArgs false
open Go.RowKit Go.Proofs.Ytjnfomgehfmllaa.Mem Go.Proofs.Ytjnfomgehfmllaa.By Go.Proofs.YtjnfomgehfmllaaW.PrintWords Go.Proofs.YtjnfomgehfmllaaW.PrintLast Go.Proofs.YtjnfomgehfmllaaW.PrintMore

/-- Chunks as they come. -/
def ChIn (w : World) (v : Value) (l : List (Int × List Int)) : Prop :=
  ∃ A c, v = .slice A l.length c ∧ l.length ≤ c ∧ l.length ≤ 1000 ∧ (l ≠ [] → ∃ g o, A = some ⟨g, o, none⟩ ∧ g < w.heap.size) ∧
    ∀ g o, A = some ⟨g, o, none⟩ → ∀ k (h : k < l.length), ∃ bv, w.cell? ⟨g, o + k * 2, none⟩ = some (.int .i64 (l[k]).1) ∧ w.cell? ⟨g, o + k * 2 + 1, none⟩ = some bv ∧ Rd w bv (l[k]).2 ∧ Rng (l[k]).2 ∧ (l[k]).2.length ≤ 140737488355328
theorem ChIn.below {w w' : World} {v : Value} {l : List (Int × List Int)} (h : ChIn w v l) (hb : Below w.heap.size w w') : ChIn w' v l := by
  obtain ⟨A, c, rfl, hc, h1000, hA, hcell⟩ := h
  refine ⟨A, c, rfl, hc, h1000, fun hn => ?_, fun g o hg k hkl => ?_⟩
  · obtain ⟨g, o, h1, h3⟩ := hA hn
    exact ⟨g, o, h1, Nat.lt_of_lt_of_le h3 hb.size⟩
  · have hn : l ≠ [] := fun e => by subst e; simp at hkl
    obtain ⟨g', o', h1, h3⟩ := hA hn
    rw [hg] at h1
    injection h1 with h1
    injection h1 with h1 h2
    subst h1; subst h2
    obtain ⟨bv, c1, c2, c3, c4, c5⟩ := hcell g o hg k hkl
    exact ⟨bv, cell_same c1 (hb.block g h3), cell_same c2 (hb.block g h3), c3.below hb, c4, c5⟩
theorem ChIn.rng {w : World} {v : Value} {l : List (Int × List Int)} (h : ChIn w v l) : ∀ c ∈ l, Rng c.2 ∧ c.2.length ≤ 140737488355328 := by
  intro c hc
  obtain ⟨A, cc, _, _, _, hA, hcell⟩ := h
  obtain ⟨g, o, rfl, _⟩ := hA (fun e => by rw [e] at hc; cases hc)
  obtain ⟨k, hk, rfl⟩ := List.getElem_of_mem hc
  obtain ⟨bv, _, _, _, h4, h5⟩ := hcell g o rfl k hk
  exact ⟨h4, h5⟩
/-- Chunks of one's own. -/
def RowK (w : World) (B : Nat) (v : Value) (l : List (Int × List Int)) : Prop :=
  ∃ ps : List (Int × Value), ps.length = l.length ∧ w.ownsRow B 46 2 v l.length (clCells ps) ∧ ∀ k (h1 : k < ps.length) (h2 : k < l.length), (ps[k]).1 = (l[k]).1 ∧ Own w B (ps[k]).2 (l[k]).2 ∧ Rng (l[k]).2 ∧ (l[k]).2.length ≤ 140737488355328
theorem RowK.nil (w : World) (B : Nat) : RowK w B (.slice none 0 0) [] := ⟨[], rfl, ⟨rfl, .inl ⟨rfl, rfl⟩⟩, fun k h1 => by simp at h1⟩
theorem own_up {w w' : World} {B : Nat} {e : TypeId} {sz n : Nat} {v : Value} {xs : List Value} (h : w.ownsRow B e sz v n xs) (hk : ∀ k cells, k < w.heap.size → w.heap[k]? = some (.cells cells e (0, 0)) → w'.heap[k]? = w.heap[k]?) : w'.ownsRow B e sz v n xs := by
  obtain ⟨h1, h2⟩ := h
  refine ⟨h1, h2.elim .inl (fun ⟨g, cap, cur, e1, e2, e3, e4⟩ => .inr ⟨g, cap, cur, e1, e2, (hk g cur (Array.getElem?_eq_some_iff.1 e3).1 e3).trans e3, e4⟩)⟩
theorem RowK.up {w w' : World} {B : Nat} {v : Value} {l : List (Int × List Int)} (h : RowK w B v l) (hk : ∀ k cells t, (t = 46 ∨ t = 5) → k < w.heap.size → w.heap[k]? = some (.cells cells t (0, 0)) → w'.heap[k]? = w.heap[k]?) : RowK w' B v l := by
  obtain ⟨ps, h1, h2, h3⟩ := h
  exact ⟨ps, h1, own_up h2 (fun k cells => hk k cells _ (.inl rfl)), fun k a b => ⟨(h3 k a b).1, own_up (h3 k a b).2.1 (fun k cells => hk k cells _ (.inr rfl)), (h3 k a b).2.2⟩⟩
theorem RowK.below {w w' : World} {B : Nat} {v : Value} {l : List (Int × List Int)} (h : RowK w B v l) (hb : Below w.heap.size w w') : RowK w' B v l := h.up (fun k cells t _ hk _ => hb.block k hk)
theorem infoCk : (Try.prog.info? 46).map (fun i => (i.zero, i.size, i.bytes)) = some (some (.agg #[.int .i64 0, .slice none 0 0]), 2, 32) := by kernel_rfl
theorem RowK.push {w : World} {B : Nat} {v : Value} {l : List (Int × List Int)} (h : RowK w B v l) (hB : B ≤ w.heap.size) (hl : l.length ≤ 1000) {k : Int} {bv : Value} {x : List Int} (hp : Own w B bv x) (hr : Rng x) (hx : x.length ≤ 140737488355328) {g1 : Nat} (c : Nat) (h0 : w.cell? ⟨g1, 0, none⟩ = some (.int .i64 k)) (h1 : w.cell? ⟨g1, 1, none⟩ = some bv) (ty : TypeId) :
    ∃ v1 w1, (Builtin.append_ #[34, 34] ty #[v, .slice (some ⟨g1, 0, none⟩) 1 c]).run Try.prog w = .ok v1 w1 ∧ RowK w1 B v1 (l ++ [(k, x)]) ∧ Below B w w1 ∧ (∀ k cells t, t ≠ 46 → k < w.heap.size → w.heap[k]? = some (.cells cells t (0, 0)) → w1.heap[k]? = w.heap[k]?) := by
  obtain ⟨ps, e1, e2, e3⟩ := h
  obtain ⟨i0, hi, hzz⟩ := Option.map_eq_some_iff.1 infoCk
  simp only [Prod.mk.injEq] at hzz
  obtain ⟨hz0, hz1, hz2⟩ := hzz
  obtain ⟨v1, w1, r1, r2, r3, _⟩ := run_append_own (P := Try.prog) w B 34 ty 46 i0 (.agg #[.int .i64 0, .slice none 0 0]) 2 32 Try.underlying34 hi hz0 hz1 hz2 rfl (by decide) v l.length (clCells ps) e2 ⟨g1, 0, none⟩ 1 c [.int .i64 k, bv] rfl (fun j u hu => by
    rw [By.add_plain, Nat.zero_add]
    rcases j with _ | _ | j
    · simp only [List.getElem?_cons_zero, Option.some.injEq] at hu; rw [← hu]; exact h0
    · simp only [Nat.zero_add, List.getElem?_cons_succ, List.getElem?_cons_zero, Option.some.injEq] at hu; rw [← hu]; exact h1
    · simp at hu) (fun u hu => by
      simp only [List.mem_cons, List.mem_nil_iff, or_false] at hu
      rcases hu with rfl | rfl
      · rfl
      · obtain ⟨A, c, rfl, _⟩ := q_slice hp.qb; rfl) (by unfold maxLen; omega) (by omega) hB
  have hup : ∀ k cells t, t ≠ 46 → k < w.heap.size → w.heap[k]? = some (.cells cells t (0, 0)) → w1.heap[k]? = w.heap[k]? := fun k cells t hne hk hc => r3.block k hk (fun e => by
    obtain ⟨_, cells2, hc2⟩ := q_typed (q_of_own e2) k e.symm
    rw [hc] at hc2
    injection hc2 with hc2
    injection hc2 with _ hc2
    exact hne hc2)
  refine ⟨v1, w1, r1, ⟨ps ++ [(k, bv)], by simp [e1], ?_, fun j a b => ?_⟩, ⟨r3.os, r3.tape, r3.output, r3.size, fun k hk => r3.block k (by omega) (fun e => by have := (q_typed (q_of_own e2) k e.symm).1; omega)⟩, hup⟩
  · rw [List.length_append, List.length_singleton]
    have : clCells (ps ++ [(k, bv)]) = clCells ps ++ [.int .i64 k, bv] := by simp [clCells]
    rw [this]
    exact r2
  · rcases Nat.lt_or_ge j ps.length with hj | hj
    · rw [List.getElem_append_left hj, List.getElem_append_left (by omega)]
      exact ⟨(e3 j hj (by omega)).1, own_up (e3 j hj (by omega)).2.1 (fun k cells => hup k cells _ (by decide)), (e3 j hj (by omega)).2.2⟩
    · have hje : j = ps.length := by simp at a; omega
      subst hje
      rw [List.getElem_append_right (Nat.le_refl _), List.getElem_append_right (by omega)]
      simp only [e1, Nat.sub_self, List.getElem_cons_zero]
      exact ⟨trivial, own_up hp (fun k cells => hup k cells _ (by decide)), hr, hx⟩
theorem RowK.chs {w : World} {B : Nat} {v : Value} {l : List (Int × List Int)} (h : RowK w B v l) : Chs w w.heap.size v l := by
  obtain ⟨ps, e1, e2, e3⟩ := h
  rcases e2.2 with ⟨rfl, h0⟩ | ⟨g, cap, cur, rfl, hb, hh, hc, hm, hs, ht⟩
  · have : l = [] := List.eq_nil_of_length_eq_zero h0
    subst this
    exact ⟨none, 0, rfl, Nat.le_refl _, fun h => absurd rfl h, fun g hg => by cases hg⟩
  · have hgl : g < w.heap.size := (Array.getElem?_eq_some_iff.1 hh).1
    refine ⟨_, cap, rfl, hc, fun _ => ⟨g, rfl, hgl, hgl⟩, fun g' hg' k hk => ?_⟩
    injection hg' with hg'
    injection hg' with hg'
    subst hg'
    have hk' : k < ps.length := by omega
    obtain ⟨c1, c2⟩ := clCells_get ps k hk'
    have hcell : ∀ j u, (clCells ps)[j]? = some u → w.cell? ⟨g, j, none⟩ = some u := fun j u hu => by
      rw [cell_of_row w g _ cur _ (0, 0) hh, ← Array.getElem?_toList]
      rw [← ht, List.getElem?_take] at hu
      split at hu
      · exact hu
      · cases hu
    obtain ⟨f1, f2, f3, f4⟩ := e3 k hk' hk
    exact ⟨(ps[k]).2, by rw [← f1]; exact hcell _ _ c1, hcell _ _ c2, f2.rd, fun b e => q_lt f2.qb b e, f3, f4⟩
theorem RowK.form {w : World} {B : Nat} {v : Value} {l : List (Int × List Int)} (h : RowK w B v l) : ∃ A n c, v = .slice A n c := by
  obtain ⟨ps, _, h2, _⟩ := h
  obtain ⟨A, c, e, _⟩ := q_slice (q_of_own h2)
  exact ⟨A, _, c, e⟩
theorem step_run {w : World} {ops : Array Oper} {o : Oper} {a : Act} {K : Act → World → Prop} {Q : Exit → Act → World → Prop} {E : Prop} (hgd : o.guard = none) (s x : Operand) (t : TypeId)
    (ho : o.op = .call { callee := .builtin .append, args := #[s, x], argTypes := #[t, t] }) (v u : Value) (hs : a.eval s = v) (hx : a.eval x = u) {v' : Value} {w' : World}
    (hr : (Builtin.append_ #[t, t] o.type #[v, u]).run Try.prog w = .ok v' w') (h : K (a.put o.dst v') w') : if Region.wanted o (yielded ops a.tmps) = true then Oper.wp Try.prog o a w K Q else E := by
  have hw : Region.wanted o (yielded ops a.tmps) = true := by simp [Region.wanted, hgd]
  rw [if_pos hw]
  exact Lib.wp_append_run_sl w s x t ho v u hs hx hr h
/-- The copies' append, in a region that draws. -/
theorem step_push {w5 w : World} {ops : Array Oper} {o : Oper} {a : Act} {K : Act → World → Prop} {Q : Exit → Act → World → Prop} {E : Prop} (hgd : o.guard = none) (s x : Operand)
    (ho : o.op = .call { callee := .builtin .append, args := #[s, x], argTypes := #[34, 34] }) {v : Value} {B g1 c : Nat} {l : List (Int × List Int)} {k : Int} {bv : Value} {y : List Int} (hs : a.eval s = v) (hx : a.eval x = .slice (some ⟨g1, 0, none⟩) 1 c)
    (HR : RowK w5 B v l) (HO : Own w5 B bv y) (hr : Rng y) (hy : y.length ≤ 140737488355328) (hl : l.length ≤ 1000) (hB : B ≤ w5.heap.size) (hb : Below w5.heap.size w5 w) (hblk : Blk w g1 46 #[.int .i64 k, bv])
    (h : ∀ v1 w1, RowK w1 B v1 (l ++ [(k, y)]) → Below B w w1 → (∀ k cells t, t ≠ 46 → k < w.heap.size → w.heap[k]? = some (.cells cells t (0, 0)) → w1.heap[k]? = w.heap[k]?) → K (a.put o.dst v1) w1) : if Region.wanted o (yielded ops a.tmps) = true then Oper.wp Try.prog o a w K Q else E := by
  have h0 := hblk.cell 0; have h1 := hblk.cell 1
  simp only [List.getElem?_toArray, List.getElem?_cons_zero, List.getElem?_cons_succ] at h0 h1
  obtain ⟨v1, w1, e1, e2, e3, e4⟩ := (HR.below hb).push (Nat.le_trans hB hb.size) hl (own_up HO (fun k cells hk _ => hb.block k hk)) hr hy c h0 h1 o.type
  exact step_run hgd s x _ ho v _ hs hx e1 (h v1 w1 e2 e3 e4)
end Go.Proofs.Ytjnfomgehfmllaa.Tk
