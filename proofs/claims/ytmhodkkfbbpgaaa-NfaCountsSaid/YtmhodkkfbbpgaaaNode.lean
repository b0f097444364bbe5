/- Nodes that the laws make themselves: tree, of; a node's value that is read. -/
import Derived.Test.YtmhodkkfbbpgaaaOps
import Derived.Test.YtmhodkkfbbpgaaaFac
namespace Go.Proofs.Ytmhodkkfbbpgaaa.Nm
set_option linter.unusedVariables false
set_option linter.unusedSimpArgs false
open Go.RowKit Mem Re Tree Fac Go.Proofs.Ytmhodkkfbbpgaaa.PNfa Go.Proofs.YtmhodkkfbbpgaaaW.PrintWords Go.Proofs.YtmhodkkfbbpgaaaW.PrintLast Go.Proofs.YtmhodkkfbbpgaaaW.PrintMore

/-- A node's value: what is read of it. -/
def NV (w : World) (v : Value) (x : Nd) : Prop := ∃ cs, v = .agg cs.toArray ∧ k25.K w x cs
theorem NV.below {w w' : World} {v : Value} {x : Nd} (h : NV w v x) (hb : Below w.heap.size w w') : NV w' v x := by
  obtain ⟨cs, e, h⟩ := h
  exact ⟨cs, e, Kd.K_below _ hb h⟩
theorem NV.open_ {w : World} {v : Value} {x : Nd} (h : NV w v x) : ∃ A1 c1 A2 c2, v = .agg #[.int .i64 x.f0, .slice A1 x.f1.length c1, .slice A2 x.f2.length c2] ∧ x.f1.length ≤ c1 ∧ Kd.C k64 w A1 x.f1.length x.f1 ∧ x.f2.length ≤ c2 ∧ Kd.C k25 w A2 x.f2.length x.f2 := by
  obtain ⟨cs, e, h⟩ := h
  obtain ⟨A1, c1, A2, c2, rfl, l1, g1, l2, g2⟩ := k25_open h
  exact ⟨A1, c1, A2, c2, e, l1, g1, l2, g2⟩
theorem NV.mk {w : World} {x : Nd} {A1 A2 : Option Addr} {c1 c2 : Nat} (l1 : x.f1.length ≤ c1) (g1 : Kd.C k64 w A1 x.f1.length x.f1) (l2 : x.f2.length ≤ c2) (g2 : Kd.C k25 w A2 x.f2.length x.f2) : NV w (.agg #[.int .i64 x.f0, .slice A1 x.f1.length c1, .slice A2 x.f2.length c2]) x :=
  ⟨_, rfl, k25_mk w x l1 g1 l2 g2⟩

set_option maxHeartbeats 1000000 in
theorem of_c (lo hi : Int) (w : World) :
    Calls Try.prog 20 #[.int .u8 lo, .int .u8 hi] w fun e w' => ∃ v, e = .returned v ∧ NV w' v ⟨1, [⟨lo, hi⟩], []⟩ ∧ Below w.heap.size w w' := by
  refine (colloquylaw05_of.calls lo hi 1 [⟨lo, hi⟩] [] w rfl).mono ?_
  rintro e w' ⟨v1, v2, rfl, h1, h2, hb⟩
  obtain ⟨A1, c1, rfl, l1, g1⟩ := Kd.R_reads h1
  obtain ⟨A2, c2, rfl, l2, g2⟩ := Kd.R_reads h2
  exact ⟨_, rfl, NV.mk (x := ⟨1, [⟨lo, hi⟩], []⟩) l1 g1 l2 g2, hb⟩

set_option maxHeartbeats 1000000 in
theorem tree_c (k : Int) (A : Option Addr) (n c : Nat) (w : World) :
    Calls Try.prog 19 #[.int .i64 k, .slice A n c] w fun e w' => e = .returned (.agg #[.int .i64 k, .slice none 0 0, .slice A n c]) ∧ Below w.heap.size w w' := by
  go_enter Try.func19, Try.ntmps19
  go_wp2
  refine bodyPost_ret (results_cell_row rfl _ _ w.heap.size 25 #[.int .i64 k, .slice none 0 0, .slice A n c] (0, 0) _ rfl (Blk.new _ _ _) Try.underlying25 rfl (by kernel_rfl)) rfl ?_
  exact ⟨rfl, (Below.refl _ _).alloc (Nat.le_refl _) _⟩

set_option maxHeartbeats 1000000 in
theorem of_b (lo hi : Int) (w : World) :
    Calls Try.prog 20 #[.int .u8 lo, .int .u8 hi] w fun e w' => ∃ q, e = .returned (.agg #[.int .i64 1, .slice (some ⟨q, 0, none⟩) 1 1, .slice none 0 0]) ∧ Blk w' q 64 #[.int .u8 lo, .int .u8 hi] ∧ Below w.heap.size w w' := by
  go_enter Try.func20, Try.ntmps20
  go_wp2
  refine bodyPost_ret (results_cell_row rfl _ _ w.heap.size 25 #[.int .i64 1, .slice (some ⟨w.heap.size + 1, 0, none⟩) 1 1, .slice none 0 0] (0, 0) _ rfl (by first | exact Blk.new _ _ _ | exact (Blk.new _ _ _).alloc _) Try.underlying25 rfl (by kernel_rfl)) rfl ?_
  refine ⟨w.heap.size + 1, rfl, ?_, ?_⟩
  · exact Blk.last _ _ _ (by simp)
  · exact ((Below.refl _ _).alloc (Nat.le_refl _) _).trans (((Below.refl _ _).alloc (Nat.le_refl _) _).mono (by simp))

theorem seg3 {a b : List Value} (k i : Nat) (h : i < b.length) : (a ++ b)[a.length + i]? = b[i]? := by
  rw [List.getElem?_append_right (by omega)]
  congr 1
  omega

/-- One node in a row of its own; two. -/
theorem row1 {w : World} {g : Nat} {cs : List Value} {x : Nd} (h : Blk w g 25 cs.toArray) (hx : k25.K w x cs) : Kd.C k25 w (some ⟨g, 0, none⟩) 1 [x] := by
  refine ⟨rfl, by omega, fun _ => ⟨_, rfl, fun j p hp => ?_⟩⟩
  have hl := Kd.K_len _ hx
  cases j with
  | succ j => simp at hp
  | zero =>
    simp at hp
    subst hp
    refine ⟨cs, hl, hx, fun i u hu => ?_⟩
    have hadd : (⟨g, 0, none⟩ : Addr).add (0 * k25.sz + i) = ⟨g, i, none⟩ := by unfold Addr.add; split <;> simp_all
    rw [hadd, h.cell]
    simpa using hu
theorem row2 {w : World} {g : Nat} {cs ds : List Value} {x y : Nd} (h : Blk w g 25 (cs ++ ds).toArray) (hx : k25.K w x cs) (hy : k25.K w y ds) : Kd.C k25 w (some ⟨g, 0, none⟩) 2 [x, y] := by
  refine ⟨rfl, by omega, fun _ => ⟨_, rfl, fun j p hp => ?_⟩⟩
  have hl := Kd.K_len _ hx
  have hl2 := Kd.K_len _ hy
  have hsz : k25.sz = 3 := rfl
  rw [hsz] at hl hl2
  rcases j with _ | _ | j
  · simp at hp
    subst hp
    refine ⟨cs, hl, hx, fun i u hu => ?_⟩
    have hadd : (⟨g, 0, none⟩ : Addr).add (0 * k25.sz + i) = ⟨g, i, none⟩ := by unfold Addr.add; split <;> simp_all
    rw [hadd, h.cell]
    have := (List.getElem?_eq_some_iff.1 hu).1
    rw [← hu]
    simp [List.getElem?_append_left this]
  · simp at hp
    subst hp
    refine ⟨ds, hl2, hy, fun i u hu => ?_⟩
    have hadd : (⟨g, 0, none⟩ : Addr).add ((0 + 1) * k25.sz + i) = ⟨g, 3 + i, none⟩ := by rw [hsz]; unfold Addr.add; split <;> simp_all
    rw [hadd, h.cell]
    have := (List.getElem?_eq_some_iff.1 hu).1
    rw [← hu, show 3 + i = cs.length + i by omega]
    simp
    exact seg3 3 i (by omega)
  · simp at hp

theorem rowR {w : World} {g : Nat} {lo hi : Int} (h : Blk w g 64 #[.int .u8 lo, .int .u8 hi]) : Kd.C k64 w (some ⟨g, 0, none⟩) 1 [⟨lo, hi⟩] := by
  refine ⟨rfl, by omega, fun _ => ⟨_, rfl, fun j p hp => ?_⟩⟩
  cases j with
  | succ j => simp at hp
  | zero =>
    simp at hp
    subst hp
    refine ⟨[.int .u8 lo, .int .u8 hi], rfl, k64_mk _ _, fun i u hu => ?_⟩
    have hadd : (⟨g, 0, none⟩ : Addr).add (0 * k64.sz + i) = ⟨g, i, none⟩ := by unfold Addr.add; split <;> simp_all
    rw [hadd, h.cell]
    simpa using hu

/-- The node of one range. -/
def ofN (lo hi : Int) : Nd := ⟨1, [⟨lo, hi⟩], []⟩
theorem K_of {w : World} {g : Nat} {lo hi : Int} (h : Blk w g 64 #[.int .u8 lo, .int .u8 hi]) : k25.K w (ofN lo hi) [.int .i64 1, .slice (some ⟨g, 0, none⟩) 1 1, .slice none 0 0] :=
  k25_mk w (ofN lo hi) (Nat.le_refl 1) (rowR h) (Nat.le_refl 0) (Kd.C_nil _ w)
theorem K_tree1 {w : World} {g : Nat} {k : Int} {cs : List Value} {x : Nd} (h : Blk w g 25 cs.toArray) (hx : k25.K w x cs) : k25.K w ⟨k, [], [x]⟩ [.int .i64 k, .slice none 0 0, .slice (some ⟨g, 0, none⟩) 1 1] :=
  k25_mk w ⟨k, [], [x]⟩ (Nat.le_refl 0) (Kd.C_nil _ w) (Nat.le_refl 1) (row1 h hx)
theorem K_tree2 {w : World} {g : Nat} {k : Int} {cs ds : List Value} {x y : Nd} (h : Blk w g 25 (cs ++ ds).toArray) (hx : k25.K w x cs) (hy : k25.K w y ds) : k25.K w ⟨k, [], [x, y]⟩ [.int .i64 k, .slice none 0 0, .slice (some ⟨g, 0, none⟩) 2 2] :=
  k25_mk w ⟨k, [], [x, y]⟩ (Nat.le_refl 0) (Kd.C_nil _ w) (Nat.le_refl 2) (row2 h hx hy)

/-- Compile, of a node that is read. -/
theorem compile_nv (w : World) (x : Nd) (cs : List Value) (h : k25.K w x cs) (hl : lenT x) (hok : okT x) (hs : sz x ≤ 1000) (hd : dp x ≤ 300) :
    Calls Try.prog 12 #[.agg cs.toArray] w fun e w' => Below w.heap.size w w' ∧
      ((rightT x ∧ ∃ b, e = .returned (.tuple #[.pointer (some ⟨b, 0, none⟩), .int .i64 0]) ∧ Mach w' w.heap.size b (re x) 0 ∧ w.heap.size ≤ b) ∨ (¬ rightT x ∧ e = .returned (.tuple #[.pointer none, .int .i64 1]))) := by
  obtain ⟨A1, c1, A2, c2, rfl, l1, g1, l2, g2⟩ := k25_open h
  obtain ⟨k1, hc⟩ := (ncount_ev (sz x) x 1 (Nat.le_refl _) hl hs (by omega)).get
  obtain ⟨k2, hr⟩ := (right_ev (sz x) x (Nat.le_refl _) hl).get
  cases hb : rightB x with
  | true =>
    rw [hb] at hr
    have hrt := (rightB_iff x).1 hb
    refine (compile_ok w x A1 A2 c1 c2 g1 l1 g2 l2 k1 k2 _ hc (by omega) hr hrt hok hs).mono ?_
    rintro e w' ⟨b, h1, h2, h3, h4⟩
    exact ⟨h4, .inl ⟨hrt, b, h1, h2, h3⟩⟩
  | false =>
    rw [hb] at hr
    have hrt : ¬ rightT x := fun c => by rw [(rightB_iff x).2 c] at hb; cases hb
    refine (compile_bad w x A1 A2 c1 c2 g1 l1 g2 l2 k1 k2 _ hc (by omega) hr).mono ?_
    rintro e w' ⟨h1, h2⟩
    exact ⟨h2, .inr ⟨hrt, h1⟩⟩

end Go.Proofs.Ytmhodkkfbbpgaaa.Nm
