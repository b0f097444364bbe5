/- buf.New, pat.Compile of an exact text, talk.Compile of clauses that are exact or of no text. -/
import Derived.Test.YtjnfomgehfmllaaTi
namespace Go.Proofs.Ytjnfomgehfmllaa.Tk
set_option linter.unusedVariables false
set_option linter.unusedSimpArgs false
open Go.RowKit Go.Proofs.Ytjnfomgehfmllaa.Mem Go.Proofs.Ytjnfomgehfmllaa.By Go.Proofs.YtjnfomgehfmllaaW.PrintWords Go.Proofs.YtjnfomgehfmllaaW.PrintLast Go.Proofs.YtjnfomgehfmllaaW.PrintMore

set_option maxHeartbeats 1000000 in
theorem new_any (w : World) (n : Int) : Calls Try.prog 9 #[.int .i64 n] w fun e w' => e = .returned (.pointer (some ⟨w.heap.size, 0, none⟩)) ∧ Below w.heap.size w w' ∧ (∀ N, N ≤ w.heap.size → Bu w' w.heap.size N (min (max n 1) 2000).toNat (.slice none 0 0) []) := by
  obtain ⟨m, hm⟩ : ∃ m, m = min (max n 1) 2000 := ⟨_, rfl⟩
  have hr : 1 ≤ m ∧ m ≤ 2000 := by omega
  have HR := Lib.hid hr
  have hmm : min (max n 1) 2000 = m := hm.symm
  clear hm hr
  have HF : Hid (∀ N, N ≤ w.heap.size → Bu (w.alloc (.cells #[.int .i64 m, .slice none 0 0, .int .i64 0] 62)) w.heap.size N m.toNat (.slice none 0 0) []) := Lib.hid fun N hN => by
    refine ⟨⟨0, ?_⟩, ⟨rfl, .inl ⟨rfl, none, rfl, fun a ha => (by cases ha)⟩⟩, (fun x hx => (by cases hx)), Nat.zero_le _, (by have := HR.out; omega), hN⟩
    have e : ((m.toNat : Nat) : Int) = m := by have := HR.out; omega
    rw [e]
    exact Blk.new _ _ _
  rw [hmm]
  go_enter Try.func9, Try.ntmps9
  go_wp2
  go_ret
  exact ⟨rfl, (Below.refl _ _).alloc (Nat.le_refl _) _, HF.out⟩
set_option maxHeartbeats 1000000 in
theorem pcomp_any (w : World) (x : ByteArray) (hx : x.size ≤ 256) : Calls Try.prog 15 #[.int .i64 1, .string x] w fun e w' => e = .returned (.tuple #[.pointer (some ⟨w.heap.size, 0, none⟩), .int .i64 0, .int .i64 0]) ∧ Below w.heap.size w w' ∧ Blk w' w.heap.size 77 #[.int .i64 1, .string x, .pointer none] ∧ w.heap.size < w'.heap.size := by
  have h1 : (x.size : Int) ≤ 256 := by omega
  have hb := Lib.hid (Blk.new w 77 #[.int .i64 1, .string x, .pointer none])
  clear hx
  go_enter Try.func15, Try.ntmps15
  go_wp2
  go_ret3
  exact ⟨rfl, (Below.refl _ _).alloc (Nat.le_refl _) _, hb.out, hb.out.lt⟩
/-- Clauses as they come. -/
def CIn (w : World) (v : Value) (cs : List (Int × ByteArray)) : Prop :=
  ∃ A c, v = .slice A cs.length c ∧ cs.length ≤ c ∧ cs.length ≤ 1000 ∧ (cs ≠ [] → ∃ g, A = some ⟨g, 0, none⟩ ∧ g < w.heap.size) ∧
    ∀ g, A = some ⟨g, 0, none⟩ → ∀ k (h : k < cs.length), w.cell? ⟨g, k * 4, none⟩ = some (.int .i64 (cs[k]).1) ∧ w.cell? ⟨g, k * 4 + 1, none⟩ = some (.string (cs[k]).2) ∧ w.cell? ⟨g, k * 4 + 2, none⟩ = some (.bool false) ∧ w.cell? ⟨g, k * 4 + 3, none⟩ = some (.slice none 0 0)
theorem CIn.below {w w' : World} {v : Value} {cs : List (Int × ByteArray)} (h : CIn w v cs) (hb : Below w.heap.size w w') : CIn w' v cs := by
  obtain ⟨A, c, rfl, hc, h1000, hA, hcell⟩ := h
  refine ⟨A, c, rfl, hc, h1000, fun hn => ?_, fun g hg k hkl => ?_⟩
  · obtain ⟨g, h1, h3⟩ := hA hn
    exact ⟨g, h1, Nat.lt_of_lt_of_le h3 hb.size⟩
  · have hn : cs ≠ [] := fun e => by subst e; simp at hkl
    obtain ⟨g', h1, h3⟩ := hA hn
    rw [hg] at h1
    injection h1 with h1
    injection h1 with h1
    subst h1
    obtain ⟨c1, c2, c3, c4⟩ := hcell g hg k hkl
    exact ⟨cell_same c1 (hb.block g h3), cell_same c2 (hb.block g h3), cell_same c3 (hb.block g h3), cell_same c4 (hb.block g h3)⟩
/-- A clause made ready. -/
def toCl (c : Int × ByteArray) : Cl := (c.1, if c.1 ≤ 3 then some c.2 else none)
def clCells (ps : List (Int × Value)) : List Value := ps.flatMap fun p => [.int .i64 p.1, p.2]
theorem clCells_len (ps : List (Int × Value)) : (clCells ps).length = ps.length * 2 := by
  unfold clCells
  induction ps with
  | nil => rfl
  | cons p ps ih => rw [List.flatMap_cons, List.length_append, ih]; simp; omega
theorem clCells_get : ∀ (ps : List (Int × Value)) (k : Nat) (h : k < ps.length), (clCells ps)[k * 2]? = some (.int .i64 (ps[k]).1) ∧ (clCells ps)[k * 2 + 1]? = some (ps[k]).2
  | [], k, h => by simp at h
  | p :: ps, 0, h => ⟨rfl, rfl⟩
  | p :: ps, k + 1, h => by
    have := clCells_get ps k (by simpa using h)
    unfold clCells at this ⊢
    rw [List.flatMap_cons]
    have e1 : (k + 1) * 2 = k * 2 + 2 := by omega
    rw [e1]
    simpa using this
/-- Clauses that have been made ready. -/
def RowC (w : World) (B : Nat) (v : Value) (l : List Cl) : Prop :=
  ∃ ps : List (Int × Value), ps.length = l.length ∧ w.ownsRow B 55 2 v l.length (clCells ps) ∧ ∀ k (h1 : k < ps.length) (h2 : k < l.length), (ps[k]).1 = (l[k]).1 ∧ PatV w w.heap.size (ps[k]).2 (l[k]).2
theorem PatV.up {w w' : World} {N : Nat} {v : Value} {o : Option ByteArray} (h : PatV w w.heap.size v o) (hs : w.heap.size ≤ N) (hk : ∀ k cells, k < w.heap.size → w.heap[k]? = some (.cells cells 77 (0, 0)) → w'.heap[k]? = w.heap[k]?) : PatV w' N v o := by
  cases o with
  | none => exact h
  | some x =>
    obtain ⟨b, kd, h1, h2, h3, h4⟩ := h
    exact ⟨b, kd, h1, by omega, h3, (hk b _ h4.lt h4).trans h4⟩
theorem RowC.nil (w : World) (B : Nat) : RowC w B (.slice none 0 0) [] := ⟨[], rfl, ⟨rfl, .inl ⟨rfl, rfl⟩⟩, fun k h1 => by simp at h1⟩
theorem RowC.below {w w' : World} {B : Nat} {v : Value} {l : List Cl} (h : RowC w B v l) (hb : Below w.heap.size w w') : RowC w' B v l := by
  obtain ⟨ps, h1, h2, h3⟩ := h
  refine ⟨ps, h1, own_kp h2 (Kp.of_below (ex := fun _ => False) hb (fun k a c => by omega)) (fun k e c => c), fun k a b => ⟨(h3 k a b).1, (h3 k a b).2.up hb.size (fun k cells hk _ => hb.block k hk)⟩⟩
theorem infoCl : (Try.prog.info? 55).map (fun i => (i.zero, i.size, i.bytes)) = some (some (.agg #[.int .i64 0, .pointer none]), 2, 16) := by kernel_rfl
theorem pat_one {w : World} {N : Nat} {v : Value} {o : Option ByteArray} (h : PatV w N v o) : v.oneCell' = true := by
  cases o with
  | none => have : v = .pointer none := h; subst this; rfl
  | some x => obtain ⟨b, kd, rfl, _⟩ := h; rfl
theorem RowC.push {w : World} {B : Nat} {v : Value} {l : List Cl} (h : RowC w B v l) (hB : B ≤ w.heap.size) (hl : l.length ≤ 1000) {k : Int} {pv : Value} {o : Option ByteArray} (hp : PatV w w.heap.size pv o) {g1 : Nat} (c : Nat) (h0 : w.cell? ⟨g1, 0, none⟩ = some (.int .i64 k)) (h1 : w.cell? ⟨g1, 1, none⟩ = some pv) (ty : TypeId) :
    ∃ v1 w1, (Builtin.append_ #[24, 24] ty #[v, .slice (some ⟨g1, 0, none⟩) 1 c]).run Try.prog w = .ok v1 w1 ∧ RowC w1 B v1 (l ++ [(k, o)]) ∧ Below B w w1 := by
  obtain ⟨ps, e1, e2, e3⟩ := h
  obtain ⟨i0, hi, hzz⟩ := Option.map_eq_some_iff.1 infoCl
  simp only [Prod.mk.injEq] at hzz
  obtain ⟨hz0, hz1, hz2⟩ := hzz
  obtain ⟨v1, w1, r1, r2, r3, _⟩ := run_append_own (P := Try.prog) w B 24 ty 55 i0 (.agg #[.int .i64 0, .pointer none]) 2 16 Try.underlying24 hi hz0 hz1 hz2 rfl (by decide) v l.length (clCells ps) e2 ⟨g1, 0, none⟩ 1 c [.int .i64 k, pv] rfl (fun j u hu => by
    rw [By.add_plain, Nat.zero_add]
    rcases j with _ | _ | j
    · simp only [List.getElem?_cons_zero, Option.some.injEq] at hu; rw [← hu]; exact h0
    · simp only [Nat.zero_add, List.getElem?_cons_succ, List.getElem?_cons_zero, Option.some.injEq] at hu; rw [← hu]; exact h1
    · simp at hu) (fun u hu => by
      simp only [List.mem_cons, List.mem_nil_iff, or_false] at hu
      rcases hu with rfl | rfl
      · rfl
      · exact pat_one hp) (by unfold maxLen; omega) (by omega) hB
  have hup : ∀ k cells, k < w.heap.size → w.heap[k]? = some (.cells cells 77 (0, 0)) → w1.heap[k]? = w.heap[k]? := fun k cells hk hc => r3.block k hk (fun e => by
    obtain ⟨_, cells2, hc2⟩ := q_typed (q_of_own e2) k e.symm
    rw [hc] at hc2
    injection hc2 with hc2
    injection hc2 with _ hc2
    exact absurd hc2 (by decide))
  refine ⟨v1, w1, r1, ⟨ps ++ [(k, pv)], by simp [e1], ?_, fun j a b => ?_⟩, ⟨r3.os, r3.tape, r3.output, r3.size, fun k hk => r3.block k (by omega) (fun e => by have := (q_typed (q_of_own e2) k e.symm).1; omega)⟩⟩
  · rw [List.length_append, List.length_singleton]
    have : clCells (ps ++ [(k, pv)]) = clCells ps ++ [.int .i64 k, pv] := by simp [clCells]
    rw [this]
    exact r2
  · rcases Nat.lt_or_ge j ps.length with hj | hj
    · rw [List.getElem_append_left hj, List.getElem_append_left (by omega)]
      exact ⟨(e3 j hj (by omega)).1, (e3 j hj (by omega)).2.up r3.size hup⟩
    · have hje : j = ps.length := by simp at a; omega
      subst hje
      rw [List.getElem_append_right (Nat.le_refl _), List.getElem_append_right (by omega)]
      simp only [e1, Nat.sub_self, List.getElem_cons_zero]
      exact ⟨trivial, hp.up r3.size hup⟩
theorem RowC.cls {w : World} {B : Nat} {v : Value} {l : List Cl} (h : RowC w B v l) (hl : l.length ≤ 1000) : Cls w w.heap.size v l := by
  obtain ⟨ps, e1, e2, e3⟩ := h
  rcases e2.2 with ⟨rfl, h0⟩ | ⟨g, cap, cur, rfl, hb, hh, hc, hm, hs, ht⟩
  · have : l = [] := List.eq_nil_of_length_eq_zero h0
    subst this
    exact ⟨none, 0, rfl, Nat.le_refl _, by simp, fun h => absurd rfl h, fun g hg => by cases hg⟩
  · have hgl : g < w.heap.size := (Array.getElem?_eq_some_iff.1 hh).1
    refine ⟨_, cap, rfl, hc, hl, fun _ => ⟨g, rfl, hgl, hgl⟩, fun g' hg' k hk => ?_⟩
    injection hg' with hg'
    injection hg' with hg'
    subst hg'
    have hk' : k < ps.length := by omega
    obtain ⟨c1, c2⟩ := clCells_get ps k hk'
    have hcell : ∀ j u, (clCells ps)[j]? = some u → w.cell? ⟨g, j, none⟩ = some u := fun j u hu => by
      rw [cell_of_row w g _ cur _ (0, 0) hh, ← Array.getElem?_toList]
      rw [← ht, List.getElem?_take] at hu
      split at hu
      · exact hu
      · cases hu
    exact ⟨(ps[k]).2, by rw [← (e3 k hk' hk).1]; exact hcell _ _ c1, hcell _ _ c2, (e3 k hk' hk).2⟩
end Go.Proofs.Ytjnfomgehfmllaa.Tk
