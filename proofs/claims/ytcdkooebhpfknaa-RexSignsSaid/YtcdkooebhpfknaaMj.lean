/- Plain: a printed function with rounds answers from some number of rounds on. Same: a tree is the same as itself. -/
import Derived.Test.YtcdkooebhpfknaaMf
namespace Go.Proofs.Ytcdkooebhpfknaa.Fac

/-- From some number of rounds on the answer is r. -/
def Ev {α : Type} (f : Nat → Option α) (r : α) : Prop := ∃ k0, ∀ k, k0 ≤ k → f k = some r

theorem Ev.ret {α : Type} (r : α) : Ev (fun _ => some r) r := ⟨0, fun _ _ => rfl⟩
theorem Ev.succ {α : Type} {f : Nat → Option α} {r : α} (h : Ev (fun k => f (k + 1)) r) : Ev f r := by
  obtain ⟨k0, h⟩ := h
  refine ⟨k0 + 1, fun k hk => ?_⟩
  obtain ⟨m, rfl⟩ : ∃ m, k = m + 1 := ⟨k - 1, by omega⟩
  exact h m (by omega)
theorem Ev.bind {α β : Type} {f : Nat → Option α} {g : Nat → α → Option β} {a : α} {r : β} (h : Ev f a) (h2 : Ev (fun k => g k a) r) : Ev (fun k => (f k).bind (g k)) r := by
  obtain ⟨k1, h1⟩ := h
  obtain ⟨k2, h2⟩ := h2
  refine ⟨k1 + k2, fun k hk => ?_⟩
  show (f k).bind (g k) = some r
  rw [h1 k (by omega)]
  exact h2 k (by omega)
theorem Ev.congr {α : Type} {f g : Nat → Option α} {r : α} (h : Ev f r) (e : ∀ k, g k = f k) : Ev g r := by
  obtain ⟨k0, h⟩ := h
  exact ⟨k0, fun k hk => (e k).trans (h k hk)⟩
theorem Ev.get {α : Type} {f : Nat → Option α} {r : α} (h : Ev f r) : ∃ k, f k = some r := by
  obtain ⟨k0, h⟩ := h
  exact ⟨k0, h k0 (Nat.le_refl _)⟩

end Go.Proofs.Ytcdkooebhpfknaa.Fac
namespace Go.Proofs.Ytcdkooebhpfknaa.Rx
open Go.RowKit Go.Proofs.YtcdkooebhpfknaaW.PrintWords Go.Proofs.YtcdkooebhpfknaaW.PrintLast Go.Proofs.YtcdkooebhpfknaaW.PrintMore Go.Proofs.Ytcdkooebhpfknaa.PRx
set_option linter.unusedVariables false
set_option linter.unusedSimpArgs false

theorem rd26_get {l : List S26} {i : Nat} (h : i < l.length) : rd_T26 l (i : Int) = l[i] := by
  unfold rd_T26
  rw [Int.toNat_natCast, List.getD_eq_getElem?_getD, List.getElem?_eq_getElem h]
  rfl
theorem wrap_next {x n : Nat} (h : x < n) (hn : n ≤ 9223372036854775807) : wrap64 ((x : Int) + 1) = ((x + 1 : Nat) : Int) := by
  unfold wrap64; omega
theorem same_l0 (a0 : Int) (a1 : List S37) (a2 : List S26) (hn : a1.length ≤ 9223372036854775807) (h1 : Fac.Ev (fun k => colloquyref03_Same.l1 k 0 a0 a1 a2 a0 a1 a2) true) :
    ∀ (d x : Nat), x + d = a1.length → Fac.Ev (fun k => colloquyref03_Same.l0 k (x : Int) a0 a1 a2 a0 a1 a2) true
  | 0, x, h => by
    refine Fac.Ev.succ (h1.congr fun k => ?_)
    rw [colloquyref03_Same.l0, if_neg (by omega)]
  | d + 1, x, h => by
    refine Fac.Ev.succ ((same_l0 a0 a1 a2 hn h1 d (x + 1) (by omega)).congr fun k => ?_)
    rw [colloquyref03_Same.l0, if_pos (by omega), if_pos (by omega), if_pos (by omega), if_neg (by simp), wrap_next (by omega) hn]
theorem same_l1 (a0 : Int) (a1 : List S37) (a2 : List S26) (hn : a2.length ≤ 9223372036854775807) (h1 : ∀ t ∈ a2, Fac.Ev (fun k => colloquyref03_Same.f k t.f0 t.f1 t.f2 t.f0 t.f1 t.f2) true) :
    ∀ (d x : Nat), x + d = a2.length → Fac.Ev (fun k => colloquyref03_Same.l1 k (x : Int) a0 a1 a2 a0 a1 a2) true
  | 0, x, h => by
    refine Fac.Ev.succ ((Fac.Ev.ret true).congr fun k => ?_)
    rw [colloquyref03_Same.l1, if_neg (by omega)]
  | d + 1, x, h => by
    have hx : x < a2.length := by omega
    have hk := h1 _ (List.getElem_mem hx)
    refine Fac.Ev.succ ((Fac.Ev.bind hk (g := fun k (t134 : Bool) => if t134 = true then colloquyref03_Same.l1 k (wrap64 ((x : Int) + 1)) a0 a1 a2 a0 a1 a2 else some false) ?_).congr fun k => ?_)
    · refine (same_l1 a0 a1 a2 hn h1 d (x + 1) (by omega)).congr fun k => ?_
      rw [if_pos rfl, wrap_next hx hn]
    · rw [colloquyref03_Same.l1, if_pos (by omega), if_pos (by omega), if_pos (by omega), rd26_get hx]
theorem kid_lt {t u : S26} (h : u ∈ t.f2) : SizeOf.sizeOf u < SizeOf.sizeOf t := by
  have := List.sizeOf_lt_of_mem h
  cases t
  simp at this ⊢
  omega
theorem kid_K {w : World} {A : Option Addr} {ks : List S26} (h : Kd.C k26 w A ks.length ks) {u : S26} (hu : u ∈ ks) : ∃ cs, k26.K w u cs := by
  obtain ⟨j, hj, rfl⟩ := List.getElem_of_mem hu
  obtain ⟨_, _, h3⟩ := h
  obtain ⟨ad, _, hc⟩ := h3 (by omega)
  obtain ⟨c, _, hR, _⟩ := hc j _ (List.getElem?_eq_getElem hj)
  exact ⟨c, hR⟩
theorem same_tree : ∀ (n : Nat) (t : S26), SizeOf.sizeOf t ≤ n → (∃ w cs, k26.K w t cs) → Fac.Ev (fun k => colloquyref03_Same.f k t.f0 t.f1 t.f2 t.f0 t.f1 t.f2) true
  | 0, t, h, _ => by cases t; simp at h
  | n + 1, t, h, ⟨w, cs, hK⟩ => by
    obtain ⟨A1, c1, A2, c2, _, l1, g1, l2, g2⟩ := k26_open hK
    have hk : ∀ u ∈ t.f2, Fac.Ev (fun k => colloquyref03_Same.f k u.f0 u.f1 u.f2 u.f0 u.f1 u.f2) true := fun u hu => by
      obtain ⟨c, hc⟩ := kid_K g2 hu
      have := kid_lt hu
      exact same_tree n u (by omega) ⟨w, c, hc⟩
    have e1 := same_l1 t.f0 t.f1 t.f2 g2.2.1 hk t.f2.length 0 (by omega)
    have e0 := same_l0 t.f0 t.f1 t.f2 g1.2.1 e1 t.f1.length 0 (by omega)
    refine Fac.Ev.succ (Fac.Ev.succ (e0.congr fun k => ?_))
    show colloquyref03_Same.f (k + 1 + 1) _ _ _ _ _ _ = _
    rw [colloquyref03_Same.f, if_pos rfl, if_pos rfl, colloquyref03_Same.j0, if_neg (by simp)]
    rfl
/-- A node's value, as it may be read. -/
def TC (w : World) (v : Value) (t : S26) : Prop := ∃ A1 c1 A2 c2, v = .agg #[.int .i64 t.f0, .slice A1 t.f1.length c1, .slice A2 t.f2.length c2] ∧ t.f1.length ≤ c1 ∧ Kd.C k37 w A1 t.f1.length t.f1 ∧ t.f2.length ≤ c2 ∧ Kd.C k26 w A2 t.f2.length t.f2
theorem TC.K {w : World} {v : Value} {t : S26} (h : TC w v t) : ∃ cs, v = .agg cs.toArray ∧ k26.K w t cs := by
  obtain ⟨A1, c1, A2, c2, rfl, l1, g1, l2, g2⟩ := h
  exact ⟨_, rfl, k26_mk w t l1 g1 l2 g2⟩
theorem TC.below {w w' : World} {v : Value} {t : S26} (h : TC w v t) (hb : Below w.heap.size w w') : TC w' v t := by
  obtain ⟨A1, c1, A2, c2, rfl, l1, g1, l2, g2⟩ := h
  exact ⟨A1, c1, A2, c2, rfl, l1, Kd.C_below g1 hb, l2, Kd.C_below g2 hb⟩
theorem TC.alloc {w : World} {v : Value} {t : S26} (h : TC w v t) (o : Obj) : TC (w.alloc o) v t := h.below ((Below.refl w.heap.size w).alloc (Nat.le_refl _) o)
theorem Tree.tc {w : World} {B : Nat} {v : Value} {t : S26} (h : Tree w B v t) : TC w v t := by
  obtain ⟨A1, n1, c1, A2, n2, c2, rfl, h1, h2⟩ := h
  obtain ⟨rfl, l1, g1⟩ := Kd.R_reads' h1
  obtain ⟨rfl, l2, g2⟩ := Kd.R_reads' h2
  exact ⟨A1, c1, A2, c2, rfl, l1, g1, l2, g2⟩
theorem same_any {w : World} {v v' : Value} {t : S26} (h : TC w v t) (h' : TC w v' t) : Calls Try.prog 10 #[v, v'] w (Told w true) := by
  obtain ⟨cs, _, hK⟩ := h.K
  obtain ⟨k, hk⟩ := (same_tree _ t (Nat.le_refl _) ⟨w, cs, hK⟩).get
  obtain ⟨A1, c1, A2, c2, rfl, l1, g1, l2, g2⟩ := h
  obtain ⟨B1, d1, B2, d2, rfl, m1, f1, m2, f2⟩ := h'
  exact colloquyref03_Same.calls k _ _ _ _ _ _ _ _ _ _ _ _ _ _ _ w g1 l1 g2 l2 f1 m1 f2 m2 hk
/-- Cells that are a node's. -/
theorem node_at {w : World} {ad : Addr} {cs : List Value} {t : S26} (hK : k26.K w t cs) (hc : ∀ i u, cs[i]? = some u → w.cell? (ad.add i) = some u) : Kd.C k26 w (some ad) [t].length [t] := by
  refine ⟨rfl, by simp, fun _ => ⟨ad, rfl, fun j p hj => ?_⟩⟩
  cases j with
  | zero =>
    obtain rfl : t = p := by simpa using hj
    refine ⟨cs, k26.K_len hK, hK, fun i u hu => ?_⟩
    simpa using hc i u hu
  | succ j => simp at hj
end Go.Proofs.Ytcdkooebhpfknaa.Rx
