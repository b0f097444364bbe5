/- A stream that comes in: its chunks. -/
import Derived.Test.YtjnfomgehfmllaaTq
import Derived.Test.YtjnfomgehfmllaaTl
import Derived.ChangeArms
import Derived.Deep.Slices
namespace Go.Proofs.Ytjnfomgehfmllaa.Rd0
set_option linter.unusedVariables false
set_option linter.unusedSimpArgs false
open Go.ChangeShapes Go.WideShapes Go.ChangeAt Go.RowKit Go.Proofs.Ytjnfomgehfmllaa.Mem Go.Proofs.Ytjnfomgehfmllaa.By Go.Proofs.Ytjnfomgehfmllaa.Tk Go.Proofs.YtjnfomgehfmllaaW.PrintWords Go.Proofs.YtjnfomgehfmllaaW.PrintLast Go.Proofs.YtjnfomgehfmllaaW.PrintMore

theorem rows_read {α : Type} {w : World} {base : Nat} {a : Addr} {len sz : Nat} {K : α → List Value → Prop}
    (h : ∀ i, i < len → ∃ cs' x, w.cells? base (a.add (i * sz)) sz = some cs' ∧ K x cs') : ∃ xs : List α, xs.length = len ∧ ∀ i (hi : i < xs.length), ∃ cs', w.cells? base (a.add (i * sz)) sz = some cs' ∧ K (xs[i]) cs' := by
  classical
  by_cases h0 : len = 0
  · subst h0
    exact ⟨[], rfl, fun i hi => by simp at hi⟩
  obtain ⟨_, z, _⟩ := h 0 (by omega)
  have hch : ∀ i, ∃ x, i < len → ∃ cs', w.cells? base (a.add (i * sz)) sz = some cs' ∧ K x cs' := by
    intro i
    by_cases hi : i < len
    · obtain ⟨cs', x, h1, h2⟩ := h i hi
      exact ⟨x, fun _ => ⟨cs', h1, h2⟩⟩
    · exact ⟨z, fun c => (hi c).elim⟩
  let f : Nat → α := fun i => Classical.choose (hch i)
  have hf : ∀ i, i < len → ∃ cs', w.cells? base (a.add (i * sz)) sz = some cs' ∧ K (f i) cs' := fun i => Classical.choose_spec (hch i)
  refine ⟨(List.range len).map f, by simp, fun i hi => ?_⟩
  simp only [List.length_map, List.length_range] at hi
  obtain ⟨cs', h1, h2⟩ := hf i hi
  exact ⟨cs', h1, by simpa using h2⟩
theorem wf8 {k : Int} (h : (Lit.int .u8 k).wf = true) : 0 ≤ k ∧ k < 256 := by
  simp only [Lit.wf, Bool.and_eq_true, decide_eq_true_eq] at h
  have h1 : IntKind.u8.min = 0 := rfl
  have h2 : IntKind.u8.max = 255 := rfl
  omega
theorem lim {n : Nat} (h : n ≤ reachBytes) : n ≤ 140737488351232 := by
  have : reachBytes = 140737488351232 := by decide
  omega
section
variable {H : Type} {enc : TypeId × Value → H} {w : World}
theorem c5 : Try.prog.cellsOf 5 = 1 := by kernel_rfl
theorem c3 : Try.prog.cellsOf 3 = 1 := by kernel_rfl
theorem c39 : Try.prog.cellsOf 39 = 1 := by kernel_rfl
theorem c34 : Try.prog.cellsOf 34 = 1 := by kernel_rfl
theorem c46 : Try.prog.cellsOf 46 = 2 := by kernel_rfl
theorem c36 : Try.prog.cellsOf 36 = 3 := by kernel_rfl
theorem b5 : Try.prog.bytesOf 5 = 1 := by kernel_rfl
theorem rd_open {fuel : Nat} {cs : List Value} {x : DataW H × List MemPlace} (hf : DataW.trod enc Try.prog w 0 (fun _ => true) true fuel 39 cs = some x) (hs : ∀ n, n ∈ x.1.weights Try.prog 39 → n ≤ reachBytes) :
    ∃ (l : List Int) (v : Value), cs = [v] ∧ Rd w v l ∧ Rng l ∧ l.length ≤ 140737488355328 := by
  rcases open_ints Try.underlying39 Try.underlying5 c5 hf with ⟨hcs, hx⟩ | ⟨a, len', cap', zs, hcs, _, hl, hmx, hz, hx, hcell, hwz⟩
  · exact ⟨[], _, hcs, ⟨none, 0, rfl, Nat.le_refl _, fun _ => rfl, rfl, by decide, fun hn => absurd hn (by decide)⟩, (fun x hx => by cases hx), by decide⟩
  · subst hx
    simp only [if_true] at hz
    have hlen : (zs.take len').length = len' := by simp; omega
    have hu := Try.underlying39
    have h1 := lim (hs ((lits (H := H) .u8 (zs.take len')).length + (lits (H := H) .u8 (zs.drop len')).length) (by simp [DataW.weights, hu, b5]))
    have h2 : len' ≤ 140737488351232 := by simp [lits] at h1; omega
    refine ⟨zs.take len', _, hcs, ⟨some a, cap', by rw [hlen], by rw [hlen]; exact hl, (fun e => (by cases e)), rfl, (by rw [hlen]; omega), fun hn => ⟨a, rfl, fun j hj => ?_⟩⟩, fun x hx' => wf8 (hwz x (List.mem_of_mem_take hx')), by rw [hlen]; omega⟩
    rw [hlen] at hj
    rw [hcell j (by omega)]
    simp [List.getD, hj]
/-- A chunk that lies in memory. -/
def CkK (w : World) (c : Int × List Int) (cs : List Value) : Prop := ∃ bv, cs = [.int .i64 c.1, bv] ∧ Rd w bv c.2 ∧ Rng c.2 ∧ c.2.length ≤ 140737488355328
set_option maxRecDepth 100000 in
theorem ck_open {fuel : Nat} {cs : List Value} {x : DataW H × List MemPlace} (h : DataW.trod enc Try.prog w 0 (fun _ => true) true fuel 46 cs = some x) (hs : ∀ n, n ∈ x.1.weights Try.prog 46 → n ≤ reachBytes) : ∃ c, CkK w c cs := by
  obtain ⟨xs, n, _, hx, hl, hlen, hf⟩ := DataW.trod_struct Try.underlying46 h
  rw [c46] at hl
  match cs, hl with
  | [a, b], _ =>
    match xs, hlen with
    | [y0, y1], _ =>
      have h0 : DataW.trod enc Try.prog w 0 (fun _ => true) true n 3 (([a, b].drop 0).take (Try.prog.cellsOf 3)) = some y0 := hf 0 _ rfl
      have h1 : DataW.trod enc Try.prog w 0 (fun _ => true) true n 39 (([a, b].drop 1).take (Try.prog.cellsOf 39)) = some y1 := hf 1 _ rfl
      rw [c3] at h0
      rw [c39] at h1
      have hw' : ∀ n, n ∈ (DataW.agg [y0.1, y1.1] : DataW H).weights Try.prog 46 → n ≤ reachBytes := by rw [hx] at hs; exact hs
      have hw1 : ∀ n, n ∈ y1.1.weights Try.prog 39 → n ≤ reachBytes := fun n hn => hw' n (by
        simp only [DataW.weights, Try.underlying46]
        exact DataW.weights_mem_each (j := 1) (t := 39) (d := y1.1) rfl rfl n hn)
      obtain ⟨v0, e0, _, _⟩ := DataW.trod_int Try.underlying3 h0
      obtain ⟨l, bv, e1, r1, r2, r3⟩ := rd_open h1 hw1
      simp at e0 e1
      subst e0 e1
      exact ⟨(v0, l), b, rfl, r1, r2, r3⟩
theorem chs_open {fuel : Nat} {v : Value} {x : DataW H × List MemPlace} (h : DataW.trod enc Try.prog w 0 (fun _ => true) true fuel 34 [v] = some x) (hs : ∀ n, n ∈ x.1.weights Try.prog 34 → n ≤ reachBytes) :
    ∃ (l : List (Int × List Int)) (A : Option Addr) (c : Nat), v = .slice A l.length c ∧ l.length ≤ c ∧ l.length ≤ 9223372036854775807 ∧ (l.length ≤ 1000 → ChIn w v l) := by
  rcases DataW.trod_slice Try.underlying34 h with ⟨e1, _⟩ | ⟨ad, len, cap, elems, rest, n1, en1, e1, hx, hb, hlc, hcm, hlen, hcell, _⟩
  · simp at e1
    subst e1
    exact ⟨[], none, 0, rfl, Nat.le_refl _, by simp, fun _ => ⟨none, 0, rfl, Nat.le_refl _, by simp, fun h => absurd rfl h, fun g o hg => by cases hg⟩⟩
  · simp at e1
    subst e1
    have hwx : ∀ n, n ∈ (DataW.slice (elems.map (·.1)) (rest.map (·.1)) : DataW H).weights Try.prog 34 → n ≤ reachBytes := by rw [hx] at hs; exact hs
    have hall : ∀ (l : List (DataW H)) (y : DataW H), y ∈ l → ∀ k, k ∈ y.weights Try.prog 46 → k ∈ DataW.weightsAll Try.prog 46 l := by
      intro l
      induction l with
      | nil => intro y hy; simp at hy
      | cons z l ih =>
        intro y hy k hk
        simp only [DataW.weightsAll, List.mem_append]
        rcases List.mem_cons.mp hy with rfl | hy
        · exact .inl hk
        · exact .inr (ih y hy k hk)
    obtain ⟨l, q1, q2⟩ := rows_read (w := w) (base := 0) (a := ad) (len := len) (sz := 2) (K := CkK w) (fun i hi => by
      have hx := hcell i hi
      rw [List.getElem?_eq_getElem (by omega), c46] at hx
      obtain ⟨cs', t1, t2⟩ := Option.bind_eq_some_iff.1 hx
      obtain ⟨r, g1⟩ := ck_open t2 (fun k hk => hwx k (by
        simp only [DataW.weights, Try.underlying34, List.mem_cons, List.mem_append]
        exact .inr (.inl (hall _ _ (List.mem_map_of_mem (List.getElem_mem _)) k hk))))
      exact ⟨cs', r, t1, g1⟩)
    unfold maxLen at hcm
    refine ⟨l, some ad, cap, by rw [q1], by omega, by omega, fun h1000 => ⟨some ad, cap, by rw [q1], by omega, h1000, fun hne => ?_, fun g o hg k hk => ?_⟩⟩
    · have hl0 : 0 < l.length := by cases l with | nil => exact absurd rfl hne | cons a b => simp
      obtain ⟨cs', t1, bv, t2, _⟩ := q2 0 hl0
      obtain ⟨_, hl, hc⟩ := World.cells?_some t1
      have h0 := hc 0 (by omega)
      rw [t2] at h0
      have hsp : ad.spot = none := by
        obtain ⟨b, o, sp⟩ := ad
        cases sp with
        | none => rfl
        | some y => simp [World.cell?, Addr.add] at h0; split at h0 <;> simp_all
      obtain ⟨b, o, sp⟩ := ad
      obtain rfl : sp = none := hsp
      refine ⟨b, o, rfl, ?_⟩
      have := World.block_lt_of_cell? w _ h0
      rw [By.add_plain, By.add_plain] at this
      exact this
    · injection hg with hg
      subst hg
      obtain ⟨cs', t1, bv, t2, t3, t4, t5⟩ := q2 k hk
      obtain ⟨_, hl, hc⟩ := World.cells?_some t1
      have h0 := hc 0 (by omega)
      have h1 := hc 1 (by omega)
      rw [t2, By.add_plain, By.add_plain] at h0 h1
      exact ⟨bv, h0, h1, t3, t4, t5⟩
set_option maxRecDepth 100000 in
theorem stream_open {v : Value} {d : DataW H} {p : List MemPlace} {cs : Array Value} (hv : v = .agg cs) (h : DataW.Trod enc Try.prog w 0 (fun _ => true) true 36 v d p) (hs : ∀ n, n ∈ d.weights Try.prog 36 → n ≤ reachBytes) :
    ∃ (l : List (Int × List Int)) (A : Option Addr) (c : Nat) (fin wt : Int), v = .agg #[.slice A l.length c, .int .i64 fin, .int .i64 wt] ∧ l.length ≤ c ∧ l.length ≤ 9223372036854775807 ∧ (l.length ≤ 1000 → ChIn w (.slice A l.length c) l) := by
  obtain ⟨fuel, hf0⟩ := h
  subst hv
  have hf0 : DataW.trod enc Try.prog w 0 (fun _ => true) true fuel 36 cs.toList = some (d, p) := hf0
  obtain ⟨xs, n, _, hx, hl, hlen, hf⟩ := DataW.trod_struct Try.underlying36 hf0
  rw [c36] at hl
  obtain ⟨L⟩ := cs
  match L, hl with
  | [a, b, c], _ =>
    match xs, hlen with
    | [y0, y1, y2], _ =>
      have h0 : DataW.trod enc Try.prog w 0 (fun _ => true) true n 34 (([a, b, c].drop 0).take (Try.prog.cellsOf 34)) = some y0 := hf 0 _ rfl
      have h1 : DataW.trod enc Try.prog w 0 (fun _ => true) true n 3 (([a, b, c].drop 1).take (Try.prog.cellsOf 3)) = some y1 := hf 1 _ rfl
      have h2 : DataW.trod enc Try.prog w 0 (fun _ => true) true n 3 (([a, b, c].drop 2).take (Try.prog.cellsOf 3)) = some y2 := hf 2 _ rfl
      rw [c3] at h1 h2
      rw [c34] at h0
      have hw' : ∀ n, n ∈ (DataW.agg [y0.1, y1.1, y2.1] : DataW H).weights Try.prog 36 → n ≤ reachBytes := by
        have : d = DataW.agg [y0.1, y1.1, y2.1] := congrArg Prod.fst hx
        rw [this] at hs; exact hs
      have hw0 : ∀ n, n ∈ y0.1.weights Try.prog 34 → n ≤ reachBytes := fun n hn => hw' n (by
        simp only [DataW.weights, Try.underlying36]
        exact DataW.weights_mem_each (j := 0) (t := 34) (d := y0.1) rfl rfl n hn)
      obtain ⟨v1, e1, _, _⟩ := DataW.trod_int Try.underlying3 h1
      obtain ⟨v2, e2, _, _⟩ := DataW.trod_int Try.underlying3 h2
      simp at e1 e2
      subst e1 e2
      obtain ⟨l, A, c, e, r1, r2, r3⟩ := chs_open (v := a) h0 hw0
      subst e
      exact ⟨l, A, c, v1, v2, rfl, r1, r2, r3⟩
end
end Go.Proofs.Ytjnfomgehfmllaa.Rd0
