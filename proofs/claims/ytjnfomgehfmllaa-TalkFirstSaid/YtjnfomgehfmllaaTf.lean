/- Clauses in memory: Find of an exact text, the first of a kind. -/
import Derived.Test.YtjnfomgehfmllaaTe
namespace Go.Proofs.Ytjnfomgehfmllaa.Tk
set_option linter.unusedVariables false
set_option linter.unusedSimpArgs false
open Go.RowKit Go.Proofs.Ytjnfomgehfmllaa.Mem Go.Proofs.Ytjnfomgehfmllaa.By Go.Proofs.YtjnfomgehfmllaaW.PrintWords Go.Proofs.YtjnfomgehfmllaaW.PrintLast Go.Proofs.YtjnfomgehfmllaaW.PrintMore

/-- A pattern, or none. -/
def PatV (w : World) (N : Nat) (v : Value) : Option ByteArray → Prop
  | none => v = .pointer none
  | some x => ∃ b kd, v = .pointer (some ⟨b, 0, none⟩) ∧ b < N ∧ x.size ≤ 256 ∧ Blk w b 77 #[.int .i64 kd, .string x, .pointer none]
theorem PatV.same {w w' : World} {N : Nat} {v : Value} {o : Option ByteArray} (h : PatV w N v o) (hk : ∀ k, k < N → k < w.heap.size → w'.heap[k]? = w.heap[k]?) : PatV w' N v o := by
  cases o with
  | none => exact h
  | some x =>
    obtain ⟨b, kd, h1, h2, h3, h4⟩ := h
    exact ⟨b, kd, h1, h2, h3, (hk b h2 h4.lt).trans h4⟩
/-- A row of clauses that stays: its blocks are below N. -/
def Cls (w : World) (N : Nat) (v : Value) (l : List Cl) : Prop :=
  ∃ A c, v = .slice A l.length c ∧ l.length ≤ c ∧ l.length ≤ 1000 ∧ (l ≠ [] → ∃ g, A = some ⟨g, 0, none⟩ ∧ g < N ∧ g < w.heap.size) ∧
    ∀ g, A = some ⟨g, 0, none⟩ → ∀ k (h : k < l.length), ∃ pv, w.cell? ⟨g, k * 2, none⟩ = some (.int .i64 (l[k]).1) ∧ w.cell? ⟨g, k * 2 + 1, none⟩ = some pv ∧ PatV w N pv (l[k]).2
theorem Cls.same {w w' : World} {N : Nat} {v : Value} {l : List Cl} (h : Cls w N v l) (hs : w.heap.size ≤ w'.heap.size) (hk : ∀ k, k < N → k < w.heap.size → w'.heap[k]? = w.heap[k]?) : Cls w' N v l := by
  obtain ⟨A, c, rfl, hc, h1000, hA, hcell⟩ := h
  refine ⟨A, c, rfl, hc, h1000, fun hn => ?_, fun g hg k hkl => ?_⟩
  · obtain ⟨g, h1, h2, h3⟩ := hA hn
    exact ⟨g, h1, h2, by omega⟩
  · have hn : l ≠ [] := fun e => by subst e; simp at hkl
    obtain ⟨g', h1, h2, h3⟩ := hA hn
    rw [hg] at h1
    injection h1 with h1
    injection h1 with h1
    subst h1
    obtain ⟨pv, c1, c2, c3⟩ := hcell g hg k hkl
    exact ⟨pv, cell_same c1 (hk g h2 h3), cell_same c2 (hk g h2 h3), c3.same hk⟩
theorem Cls.below {w w' : World} {N B : Nat} {v : Value} {l : List Cl} (h : Cls w N v l) (hb : Below B w w') (hN : N ≤ B) : Cls w' N v l := h.same hb.size (fun k h1 h2 => hb.block k (by omega))
theorem Cls.kp {w w' : World} {N : Nat} {ex : Nat → Prop} {v : Value} {l : List Cl} (h : Cls w N v l) (hb : Kp w w' ex) (hN : ∀ k, ex k → N ≤ k) : Cls w' N v l := h.same hb.size (fun k h1 h2 => hb.block k h2 (fun e => by have := hN k e; omega))
theorem ix_str (b : List Int) (x : ByteArray) : Lib.index (strOfNums b).data.toList x.data.toList = ix b x := by
  unfold ix
  have e : (strOfNums b).data.toList = Lib.bytesOf b := by simp [strOfNums, Lib.bytesOf]
  rw [e]
/-- The end of a Find. -/
def FindV (b : List Int) (x : ByteArray) : Value := if ix b x < 0 then .tuple #[.int .i64 0, .int .i64 0, .bool false] else .tuple #[.int .i64 (ix b x), .int .i64 (ix b x + (x.size : Int)), .bool true]
set_option maxHeartbeats 4000000 in
set_option maxRecDepth 100000 in
theorem find_ix {w : World} {g : Nat} {kd : Int} {x : ByteArray} {l : List Int} {v : Value} {m : Int} (hb : Blk w g 77 #[.int .i64 kd, .string x, .pointer none]) (hx : x.size ≤ 256) (h : Rd w v l) (hr : Rng l) (hs : l.length ≤ 1000000000) (hm : w.cell? ⟨0, 0, none⟩ = some (.int .i64 m)) :
    Calls Try.prog 29 #[.pointer (some ⟨g, 0, none⟩), v] w fun e w' => e = .returned (FindV l x) ∧ Below w.heap.size w w' := by
  have k1 := hb.cell 1
  have k2 := hb.cell 2
  simp only [List.getElem?_toArray, List.getElem?_cons_zero, List.getElem?_cons_succ] at k1 k2
  have hcv := Lib.run_convert_string_bytes (P := Try.prog) w 9 39 5 x Try.underlying9 Try.underlying39 Try.underlying5
  have hbw : Below w.heap.size w (Lib.bytesWorld w 5 x) := ⟨rfl, rfl, rfl, by rw [Lib.bytesWorld_size]; omega, fun j hj => Lib.bytesWorld_at_old w 5 x j hj⟩
  have hI := index_any (x := x) (w := Lib.bytesWorld w 5 x) (g := w.heap.size) (c2 := grownCap w x.size 0 5) ((h.below hbw).buf hr) (by rw [strOfNums_size]; exact hs) (by omega) (fun i hi => by
    rw [Lib.bytesWorld_cell w 5 x i hi]
    simp [bI, List.getD, hi]) (by rw [Lib.bytesWorld_old w 5 x _ (World.block_lt_of_cell? w _ hm)]; exact hm)
  rw [ix_str] at hI
  have p1 := (hb.below hbw hb.lt).cell 1
  simp only [List.getElem?_toArray, List.getElem?_cons_zero, List.getElem?_cons_succ] at p1
  have hrg := ix_rng l x
  obtain ⟨i, hi⟩ : ∃ i, i = ix l x := ⟨_, rfl⟩
  have hf : FindV l x = if i < 0 then .tuple #[.int .i64 0, .int .i64 0, .bool false] else .tuple #[.int .i64 i, .int .i64 (i + (x.size : Int)), .bool true] := by rw [hi]; rfl
  rw [hf]
  rw [← hi] at hI hrg
  have HI := Lib.hid hI
  have HB := Lib.hid hbw
  obtain ⟨W, hW⟩ : ∃ W, W = Lib.bytesWorld w 5 x := ⟨_, rfl⟩
  rw [← hW] at HI HB hcv p1
  clear hb hx h hm hI hf hbw hi hW
  by_cases hn : i < 0
  · have g0 : decide (i < 0) = true := by simpa using hn
    rw [if_pos hn]
    clear hrg
    go_enter Try.func29, Try.ntmps29
    go_wp2_with (first | (go_at_call 45; refine HI.out.mono ?_; rintro e w2 ⟨rfl, q, rfl⟩))
    go_ret3
    exact ⟨rfl, below_drewN HB.out _⟩
  · have g0 : decide (i < 0) = false := by simpa using hn
    have g2 : 0 ≤ i := by omega
    have g3 : IntKind.i64.wrap (i + (x.size : Int)) = i + (x.size : Int) := IntWalk.i64_in _ (by have := hrg.2 g2; omega)
    rw [if_neg hn]
    clear hn hrg
    go_enter Try.func29, Try.ntmps29
    go_wp2_with (first | (go_at_call 45; refine HI.out.mono ?_; rintro e w2 ⟨rfl, q, rfl⟩))
    go_region
    all_goals
      go_wp2
      go_ret3
      exact ⟨rfl, below_drewN HB.out _⟩
set_option maxHeartbeats 1000000 in
theorem kind_any {w : World} {q : Nat} {k n : Int} {pv : Value} (hq : w.cell? ⟨q, 0, none⟩ = some (.int .i64 k)) : Calls Try.prog 28 #[.agg #[.int .i64 n, pv], .pointer (some ⟨q, 0, none⟩)] w fun e w' => e = .returned (.bool (decide (n = k))) ∧ Below w.heap.size w w' := by
  have HV : Hid ((n == k) = decide (n = k)) := Lib.hid (by rw [Bool.eq_iff_iff, beq_iff_eq, decide_eq_true_eq])
  have hlt := World.block_lt_of_cell? w _ hq
  have p0 : (w.alloc (.cells #[.int .i64 n, pv] 55)).cell? ⟨q, 0, none⟩ = some (.int .i64 k) := cell_same hq (Below.heap_alloc w _ q hlt)
  have HW : Hid (Below w.heap.size w (w.alloc (.cells #[.int .i64 n, pv] 55))) := Lib.hid ((Below.refl _ _).alloc (Nat.le_refl _) _)
  clear hlt
  go_enter Try.func28, Try.ntmps28
  go_wp2
  go_ret
  exact ⟨by first | rfl | (rw [HV.out]; done) | (rw [← HV.out]; rfl), HW.out⟩
end Go.Proofs.Ytjnfomgehfmllaa.Tk
