/- Words for memory: blocks known whole, what a call keeps, rows of the call's own, append. Plain facts of the model; no program in sight. (Sections 'Reads', 'Blk' and 'append' after the kit's page of words to copy.) Plain: regular trees, what they match, and the machines that are made of them: a path from a machine's first state to its last one is a match. No program in sight. Plain: going through a text with a machine's states, each with the least place from which it was come to: what is known of the states' list, step by step. No program in sight. Plain: a match looks at its own bytes alone. No program in sight. Plain: one-byte sets one behind the other match a text just where it stands. No program in sight. -/
import Derived.Below
import Derived.Laws.OwnMore
import Derived.Deep.AppendLies
import Derived.Deep.Draws
import Derived.Laws.Rows
import Derived.Maps.AppendAt
import Derived.RegionTactic
import Derived.OwnWalk
namespace Go.Proofs.Ytdgidcfmggmbiaa.Mem
set_option linter.unusedVariables false
set_option linter.unusedSimpArgs false
open Go.RowKit

theorem block_of_add (a : Addr) (n : Nat) : (a.add n).block = a.block := by unfold Addr.add; split <;> rfl

/-- Block g is just the cells cs of element type t, none frozen. -/
def Blk (w : World) (g : Nat) (t : TypeId) (cs : Array Value) : Prop := w.heap[g]? = some (.cells cs t (0, 0))

section
variable {w w' : World} {g : Nat} {t : TypeId} {cs : Array Value}
theorem Blk.lt (h : Blk w g t cs) : g < w.heap.size := by
  rcases Nat.lt_or_ge g w.heap.size with hlt | hge
  · exact hlt
  · unfold Blk at h; rw [Array.getElem?_eq_none hge] at h; cases h
theorem Blk.cell (h : Blk w g t cs) (i : Nat) : w.cell? ⟨g, i, none⟩ = cs[i]? := cell_of_row w g i cs t (0, 0) h
theorem Blk.frozen (h : Blk w g t cs) (i : Nat) : w.frozen? ⟨g, i, none⟩ = false := by
  unfold Blk at h
  simp [World.frozen?, h]
theorem Blk.new (w : World) (t : TypeId) (cs : Array Value) : Blk (w.alloc (.cells cs t)) w.heap.size t cs := heap_alloc_new w _
theorem Blk.last (w : World) (t : TypeId) (cs : Array Value) {n : Nat} (hn : n = w.heap.size) : Blk (w.alloc (.cells cs t)) n t cs := by subst hn; exact Blk.new w t cs
theorem Blk.drew (h : Blk w g t cs) : Blk w.drew g t cs := h
theorem Blk.drewN (h : Blk w g t cs) (n : Nat) : Blk (w.drewN n) g t cs := h
theorem Blk.alloc (h : Blk w g t cs) (o : Obj) : Blk (w.alloc o) g t cs := (Below.heap_alloc w o g h.lt).trans h
theorem Blk.set_ (h : Blk w g t cs) (i : Nat) (u : Value) : Blk (w.setCell ⟨g, i, none⟩ u) g t (cs.setIfInBounds i u) := by
  unfold Blk at h ⊢
  simp [World.setCell, Array.getElem?_modify, h]
theorem Blk.far (h : Blk w g t cs) {p : Addr} (hp : g ≠ p.block) (u : Value) : Blk (w.setCell p u) g t cs := (Below.heap_setCell w p u g hp).trans h
theorem Blk.below {B : Nat} (h : Blk w g t cs) (hb : Below B w w') (hg : g < B) : Blk w' g t cs := (hb.block g hg).trans h
theorem Blk.grown {row : Option Nat} (h : Blk w g t cs) (hb : w.grownBy w' row) (hg : some g ≠ row) : Blk w' g t cs := (hb.block g h.lt hg).trans h
theorem Blk.ne_ {g' : Nat} {t' : TypeId} {cs' : Array Value} (h : Blk w g t cs) (h' : Blk w g' t' cs') (hne : t ≠ t') : g ≠ g' := by
  rintro rfl
  unfold Blk at h h'
  rw [h] at h'
  injection h' with h'
  injection h' with _ ht
  exact hne ht
theorem own_blk_ne {base : Nat} {e : TypeId} {size n : Nat} {v : Value} {xs : List Value} (h : w.ownsRow base e size v n xs) (hg : Blk w g t cs) (hne : e ≠ t) : v.ownBlock ≠ some g := by
  rcases h.2 with ⟨rfl, _⟩ | ⟨g', cap, cur, rfl, _, hh, _⟩
  · simp [Value.ownBlock]
  · intro he
    have : g' = g := by simpa [Value.ownBlock] using he
    subst this
    exact Blk.ne_ (t := e) hh hg hne rfl
theorem own_own_ne {base base' : Nat} {e e' : TypeId} {size n size' n' : Nat} {v v' : Value} {xs xs' : List Value} (h : w.ownsRow base e size v n xs) (h' : w.ownsRow base' e' size' v' n' xs') (hne : e ≠ e') : ∀ k, v.ownBlock = some k → v'.ownBlock ≠ some k := by
  intro k hk
  rcases h.2 with ⟨rfl, _⟩ | ⟨g', cap, cur, rfl, _, hh, _⟩
  · simp [Value.ownBlock] at hk
  · have : g' = k := by simpa [Value.ownBlock] using hk
    subst this
    exact own_blk_ne h' (t := e) hh (fun e2 => hne e2.symm)
end

/-- What was there is as it was, but for blocks of which ex holds. -/
structure Kp (w w' : World) (ex : Nat → Prop) : Prop where
  os : w'.os = w.os
  tape : w'.tape = w.tape
  output : w'.output = w.output
  size : w.heap.size ≤ w'.heap.size
  block : ∀ k, k < w.heap.size → ¬ ex k → w'.heap[k]? = w.heap[k]?

section
variable {w w1 w2 w' : World} {ex ex' : Nat → Prop}
theorem Kp.refl (w : World) (ex : Nat → Prop) : Kp w w ex := ⟨rfl, rfl, rfl, Nat.le_refl _, fun _ _ _ => rfl⟩
theorem Kp.trans (h : Kp w w1 ex) (h2 : Kp w1 w2 ex') (hx : ∀ k, k < w.heap.size → ex' k → ex k) : Kp w w2 ex :=
  ⟨h2.os.trans h.os, h2.tape.trans h.tape, h2.output.trans h.output, Nat.le_trans h.size h2.size,
    fun k hk hn => (h2.block k (Nat.lt_of_lt_of_le hk h.size) (fun c => hn (hx k hk c))).trans (h.block k hk hn)⟩
theorem Kp.mono (h : Kp w w' ex) (hx : ∀ k, k < w.heap.size → ex k → ex' k) : Kp w w' ex' := ⟨h.os, h.tape, h.output, h.size, fun k hk hn => h.block k hk (fun c => hn (hx k hk c))⟩
theorem Kp.drew (h : Kp w w' ex) : Kp w w'.drew ex := ⟨h.os, h.tape, h.output, h.size, h.block⟩
theorem Kp.drewN (h : Kp w w' ex) (n : Nat) : Kp w (w'.drewN n) ex := ⟨h.os, h.tape, h.output, h.size, h.block⟩
theorem Kp.alloc (h : Kp w w' ex) (o : Obj) : Kp w (w'.alloc o) ex :=
  h.trans (ex' := fun _ => False) ⟨rfl, rfl, rfl, by simp, fun k hk _ => Below.heap_alloc w' o k hk⟩ (fun _ _ c => c.elim)
theorem Kp.set_ (h : Kp w w' ex) {p : Addr} (hp : p.block < w.heap.size → ex p.block) (u : Value) : Kp w (w'.setCell p u) ex :=
  h.trans (ex' := fun k => k = p.block) ⟨rfl, rfl, rfl, by simp [World.setCell], fun k _ hn => Below.heap_setCell w' p u k hn⟩ (fun _ hk c => by subst c; exact hp hk)
theorem Kp.grown {row : Option Nat} (h : Kp w w' ex) (hg : w'.grownBy w2 row) (hr : ∀ k, k < w.heap.size → row = some k → ex k) : Kp w w2 ex :=
  h.trans (ex' := fun k => row = some k) ⟨hg.os, hg.tape, hg.output, hg.size, fun k hk hn => hg.block k hk (fun c => hn c.symm)⟩ hr
theorem Kp.below {B : Nat} (h : Kp w w' ex) (hB : B ≤ w.heap.size) (hx : ∀ k, ex k → B ≤ k) : Below B w w' :=
  ⟨h.os, h.tape, h.output, h.size, fun k hk => h.block k (by omega) (fun c => by have := hx k c; omega)⟩
theorem Kp.of_below {B : Nat} (h : Below B w w') (hx : ∀ k, k < w.heap.size → B ≤ k → ex k) : Kp w w' ex :=
  ⟨h.os, h.tape, h.output, h.size, fun k hk hn => h.block k (by rcases Nat.lt_or_ge k B with c | c; · exact c
                                                                · exact (hn (hx k hk c)).elim)⟩
theorem Blk.kp {g : Nat} {t : TypeId} {cs : Array Value} (h : Blk w g t cs) (hk : Kp w w' ex) (hn : ¬ ex g) : Blk w' g t cs := (hk.block g h.lt hn).trans h
theorem own_kp {base : Nat} {e : TypeId} {size n : Nat} {v : Value} {xs : List Value} (h : w.ownsRow base e size v n xs) (hk : Kp w w' ex) (hn : ∀ k, v.ownBlock = some k → ¬ ex k) : w'.ownsRow base e size v n xs := by
  refine ⟨h.1, ?_⟩
  rcases h.2 with h2 | ⟨g, cap, cur, rfl, hb, hh, r⟩
  · exact .inl h2
  · exact .inr ⟨g, cap, cur, rfl, hb, Blk.kp (t := e) hh hk (hn g rfl), r⟩
theorem own_base {base base' : Nat} {e : TypeId} {size n : Nat} {v : Value} {xs : List Value} (h : w.ownsRow base e size v n xs) (hb : base' ≤ base) : w.ownsRow base' e size v n xs := by
  refine ⟨h.1, ?_⟩
  rcases h.2 with h2 | ⟨g, cap, cur, rfl, hb2, r⟩
  · exact .inl h2
  · exact .inr ⟨g, cap, cur, rfl, by omega, r⟩
end

theorem own_form {w : World} {base : Nat} {e : TypeId} {size n : Nat} {v : Value} {xs : List Value} (h : w.ownsRow base e size v n xs) (hn : 0 < n) : ∃ g cap, v = .slice (some ⟨g, 0, none⟩) n cap := by
  rcases h.2 with ⟨_, h⟩ | ⟨g, cap, _, h, _⟩
  · omega
  · exact ⟨g, cap, h⟩
theorem own_drew {w : World} {base : Nat} {e : TypeId} {size n : Nat} {v : Value} {xs : List Value} (h : w.ownsRow base e size v n xs) : w.drew.ownsRow base e size v n xs := h
theorem own_drewN {w : World} {base : Nat} {e : TypeId} {size n : Nat} {v : Value} {xs : List Value} (h : w.ownsRow base e size v n xs) (k : Nat) : (w.drewN k).ownsRow base e size v n xs := h
theorem own_alloc {w : World} {base : Nat} {e : TypeId} {size n : Nat} {v : Value} {xs : List Value} (h : w.ownsRow base e size v n xs) (o : Obj) : (w.alloc o).ownsRow base e size v n xs := h.alloc o

/-- append onto a row of the call's own, from cells that are known. -/
theorem run_append_cells {P : Program} (w : World) (base : Nat) (t ty e : TypeId) (i : TypeInfo) (z : Value) (size bytes : Nat) (ht : P.underlying t = some (.slice e)) (hi : P.info? e = some i) (hz : i.zero = some z)
    (hsize : i.size = size) (hby : i.bytes = bytes) (hzs : z.cells.size = size) (hsz : 0 < size)
    (v : Value) (n : Nat) (xs : List Value) (hown : w.ownsRow base e size v n xs)
    (g m c : Nat) (news : Array Value) (te : TypeId) (hl : news.size = m * size) (hnews : Blk w g te news) (h1 : ∀ u ∈ news.toList, u.oneCell' = true)
    (h63 : n + m ≤ maxLen) (hbytes : (n + m) * bytes ≤ 140737488355328) (hbase : base ≤ w.heap.size) :
    ∃ v' w', (Builtin.append_ #[t, t] ty #[v, .slice (some ⟨g, 0, none⟩) m c]).run P w = .ok v' w' ∧ w'.ownsRow base e size v' (n + m) (xs ++ news.toList) ∧ w.grownBy w' v.ownBlock ∧
      (v'.ownBlock = v.ownBlock ∨ v'.ownBlock = some w.heap.size) := by
  have hc : ∀ j u, news.toList[j]? = some u → w.cell? ((⟨g, 0, none⟩ : Addr).add j) = some u := by
    intro j u hu
    have hadd : (⟨g, 0, none⟩ : Addr).add j = ⟨g, j, none⟩ := by unfold Addr.add; split <;> simp_all
    rw [hadd, hnews.cell]
    simpa using hu
  obtain ⟨v', w', hrun, h2, h3, _, h5⟩ := run_append_own_at (P := P) w base t ty e i z size bytes ht hi hz hsize hby hzs hsz v n xs hown ⟨g, 0, none⟩ m c news.toList (by simpa using hl) hc h1 h63 hbytes hbase
  exact ⟨v', w', hrun, h2, h3, h5⟩

section
variable {P : Program} (w : World)
theorem wp_append_cells {o : Oper} {a : Act} {K : Act → World → Prop} {Q : Exit → Act → World → Prop} (s x : Operand) (t : TypeId)
    (ho : o.op = .call { callee := .builtin .append, args := #[s, x], argTypes := #[t, t] })
    (base : Nat) (e : TypeId) (i : TypeInfo) (z : Value) (size bytes : Nat) (ht : P.underlying t = some (.slice e)) (hi : P.info? e = some i) (hz : i.zero = some z)
    (hsize : i.size = size) (hby : i.bytes = bytes) (hzs : z.cells.size = size) (hsz : 0 < size)
    (v : Value) (n : Nat) (xs : List Value) (hs : a.eval s = v) (hown : w.ownsRow base e size v n xs)
    (g m c : Nat) (news : Array Value) (te : TypeId) (hx : a.eval x = .slice (some ⟨g, 0, none⟩) m c) (hl : news.size = m * size) (hnews : Blk w g te news) (h1 : ∀ u ∈ news.toList, u.oneCell' = true)
    (h63 : n + m ≤ maxLen) (hbytes : (n + m) * bytes ≤ 140737488355328) (hbase : base ≤ w.heap.size)
    (h : ∀ v' w', w'.ownsRow base e size v' (n + m) (xs ++ news.toList) → w.grownBy w' v.ownBlock → (v'.ownBlock = v.ownBlock ∨ v'.ownBlock = some w.heap.size) → K (a.put o.dst v') w') : o.wp P a w K Q := by
  obtain ⟨v', w', hrun, h2, h3, h4⟩ := run_append_cells (P := P) w base t o.type e i z size bytes ht hi hz hsize hby hzs hsz v n xs hown g m c news te hl hnews h1 h63 hbytes hbase
  unfold Oper.wp execOp
  simp only [ho, resolve, invoke, builtin, Sem.run_bind, Sem.run_pure, Result.andThen_ok, List.map_toArray, List.map_cons, List.map_nil, hs, hx, hrun]
  exact h v' w' h2 h3 h4

theorem wpList_append_cells {ops : Array Oper} {rest : List Oper} {o : Oper} {a : Act} {Q : Exit → Act → World → Prop} (hgd : o.guard = none) (s x : Operand) (t : TypeId)
    (ho : o.op = .call { callee := .builtin .append, args := #[s, x], argTypes := #[t, t] })
    (base : Nat) (e : TypeId) (i : TypeInfo) (z : Value) (size bytes : Nat) (ht : P.underlying t = some (.slice e)) (hi : P.info? e = some i) (hz : i.zero = some z)
    (hsize : i.size = size) (hby : i.bytes = bytes) (hzs : z.cells.size = size) (hsz : 0 < size)
    (v : Value) (n : Nat) (xs : List Value) (hs : a.eval s = v) (hown : w.ownsRow base e size v n xs)
    (g m c : Nat) (news : Array Value) (te : TypeId) (hx : a.eval x = .slice (some ⟨g, 0, none⟩) m c) (hl : news.size = m * size) (hnews : Blk w g te news) (h1 : ∀ u ∈ news.toList, u.oneCell' = true)
    (h63 : n + m ≤ maxLen) (hbytes : (n + m) * bytes ≤ 140737488355328) (hbase : base ≤ w.heap.size)
    (h : ∀ v' w', w'.ownsRow base e size v' (n + m) (xs ++ news.toList) → w.grownBy w' v.ownBlock → (v'.ownBlock = v.ownBlock ∨ v'.ownBlock = some w.heap.size) → wpList P ops Q rest (a.put o.dst v') w') : wpList P ops Q (o :: rest) a w :=
  wpList_plain hgd fun _ hK => wp_append_cells w s x t ho base e i z size bytes ht hi hz hsize hby hzs hsz v n xs hs hown g m c news te hx hl hnews h1 h63 hbytes hbase fun v' w' h2 h3 h4 => hK _ _ (h v' w' h2 h3 h4)

theorem step_append_cells {ops : Array Oper} {o : Oper} {a : Act} {K : Act → World → Prop} {Q : Exit → Act → World → Prop} {E : Prop} (hgd : o.guard = none) (s x : Operand) (t : TypeId)
    (ho : o.op = .call { callee := .builtin .append, args := #[s, x], argTypes := #[t, t] })
    (base : Nat) (e : TypeId) (i : TypeInfo) (z : Value) (size bytes : Nat) (ht : P.underlying t = some (.slice e)) (hi : P.info? e = some i) (hz : i.zero = some z)
    (hsize : i.size = size) (hby : i.bytes = bytes) (hzs : z.cells.size = size) (hsz : 0 < size)
    (v : Value) (n : Nat) (xs : List Value) (hs : a.eval s = v) (hown : w.ownsRow base e size v n xs)
    (g m c : Nat) (news : Array Value) (te : TypeId) (hx : a.eval x = .slice (some ⟨g, 0, none⟩) m c) (hl : news.size = m * size) (hnews : Blk w g te news) (h1 : ∀ u ∈ news.toList, u.oneCell' = true)
    (h63 : n + m ≤ maxLen) (hbytes : (n + m) * bytes ≤ 140737488355328) (hbase : base ≤ w.heap.size)
    (h : ∀ v' w', w'.ownsRow base e size v' (n + m) (xs ++ news.toList) → w.grownBy w' v.ownBlock → (v'.ownBlock = v.ownBlock ∨ v'.ownBlock = some w.heap.size) → K (a.put o.dst v') w') :
    if Region.wanted o (yielded ops a.tmps) = true then Oper.wp P o a w K Q else E := by
  have hw : Region.wanted o (yielded ops a.tmps) = true := by simp [Region.wanted, hgd]
  rw [if_pos hw]
  exact wp_append_cells w s x t ho base e i z size bytes ht hi hz hsize hby hzs hsz v n xs hs hown g m c news te hx hl hnews h1 h63 hbytes hbase h
end
end Go.Proofs.Ytdgidcfmggmbiaa.Mem
namespace Go.Proofs.Ytdgidcfmggmbiaa.Re
set_option linter.unusedVariables false
set_option linter.unusedSimpArgs false

/-- What is reached by any number of steps. -/
inductive Clo (R : Nat → Nat → Prop) : Nat → Nat → Prop
  | refl (i : Nat) : Clo R i i
  | step {i m j : Nat} : R i m → Clo R m j → Clo R i j

theorem Clo.trans {R : Nat → Nat → Prop} {i j k : Nat} (h : Clo R i j) (h2 : Clo R j k) : Clo R i k := by
  induction h with
  | refl => exact h2
  | step a _ ih => exact .step a (ih h2)

theorem Clo.mono {R S : Nat → Nat → Prop} (h : ∀ i j, R i j → S i j) {i j : Nat} (c : Clo R i j) : Clo S i j := by
  induction c with
  | refl => exact .refl _
  | step a _ ih => exact .step (h _ _ a) ih

inductive Re where
  | set (f : Int → Bool)
  | cat (l : List Re)
  | alt (l : List Re)
  | star (r : Re)
  | plus (r : Re)
  | maybe (r : Re)

mutual
def mt (b : Nat → Int) (len : Nat) : Re → Nat → Nat → Prop
  | .set f, i, j => i < len ∧ j = i + 1 ∧ f (b i) = true
  | .cat l, i, j => seqM b len l i j
  | .alt l, i, j => anyM b len l i j
  | .star r, i, j => Clo (mt b len r) i j
  | .plus r, i, j => ∃ m, mt b len r i m ∧ Clo (mt b len r) m j
  | .maybe r, i, j => i = j ∨ mt b len r i j
def seqM (b : Nat → Int) (len : Nat) : List Re → Nat → Nat → Prop
  | [], i, j => i = j
  | r :: l, i, j => ∃ m, mt b len r i m ∧ seqM b len l m j
def anyM (b : Nat → Int) (len : Nat) : List Re → Nat → Nat → Prop
  | [], _, _ => False
  | r :: l, i, j => mt b len r i j ∨ anyM b len l i j
end

/-- A state: with a set it goes on by a byte, else at once. -/
structure St where
  set : Option (Int → Bool)
  next : Int
  other : Int

mutual
def bld : Re → Int → List St → List St × Int
  | .set f, to, M => (M ++ [⟨some f, to, -1⟩], M.length)
  | .cat l, to, M => bldC l to M
  | .alt l, to, M => if (bldA l to M).2 = -1 then ((bldA l to M).1 ++ [⟨none, -1, -1⟩], (bldA l to M).1.length) else bldA l to M
  | .maybe r, to, M => ((bld r to M).1 ++ [⟨none, (bld r to M).2, to⟩], (bld r to M).1.length)
  | .star r, to, M => ((bld r M.length (M ++ [⟨none, 0, to⟩])).1.set M.length ⟨none, (bld r M.length (M ++ [⟨none, 0, to⟩])).2, to⟩, M.length)
  | .plus r, to, M => ((bld r M.length (M ++ [⟨none, 0, to⟩])).1.set M.length ⟨none, (bld r M.length (M ++ [⟨none, 0, to⟩])).2, to⟩, (bld r M.length (M ++ [⟨none, 0, to⟩])).2)
def bldC : List Re → Int → List St → List St × Int
  | [], to, M => (M, to)
  | r :: l, to, M => bld r (bldC l to M).2 (bldC l to M).1
def bldA : List Re → Int → List St → List St × Int
  | [], _, M => (M, -1)
  | r :: l, to, M => ((bld r to (bldA l to M).1).1 ++ [⟨none, (bld r to (bldA l to M).1).2, (bldA l to M).2⟩], (bld r to (bldA l to M).1).1.length)
end

section
variable (b : Nat → Int) (len : Nat)

/-- One step of a machine. -/
def Tr (M : List St) (x : Int) (i : Nat) (y : Int) (j : Nat) : Prop :=
  ∃ st, 0 ≤ x ∧ M[x.toNat]? = some st ∧ ((st.set = none ∧ (y = st.next ∨ y = st.other) ∧ j = i) ∨ (∃ f, st.set = some f ∧ i < len ∧ f (b i) = true ∧ y = st.next ∧ j = i + 1))

/-- A path whose states, but for the last one, lie in R. -/
inductive Pth (M : List St) (R : Int → Prop) : Int → Nat → Int → Nat → Prop
  | refl (x : Int) (i : Nat) : Pth M R x i x i
  | step {x : Int} {i : Nat} {y : Int} {j : Nat} {z : Int} {k : Nat} : R x → Tr b len M x i y j → Pth M R y j z k → Pth M R x i z k

def Reg (lo hi : Nat) (x : Int) : Prop := (lo : Int) ≤ x ∧ x < (hi : Int)

variable {b len}

theorem Pth.trans {M : List St} {R : Int → Prop} {x y z : Int} {i j k : Nat} (h : Pth b len M R x i y j) (h2 : Pth b len M R y j z k) : Pth b len M R x i z k := by
  induction h with
  | refl => exact h2
  | step a t _ ih => exact .step a t (ih h2)

theorem Pth.mono {M : List St} {R R' : Int → Prop} (hR : ∀ x, R x → R' x) {x z : Int} {i k : Nat} (h : Pth b len M R x i z k) : Pth b len M R' x i z k := by
  induction h with
  | refl => exact .refl _ _
  | step a t _ ih => exact .step (hR _ a) t ih

theorem Tr.congr {M N : List St} {x : Int} {i : Nat} {y : Int} {j : Nat} (hx : N[x.toNat]? = M[x.toNat]?) (h : Tr b len M x i y j) : Tr b len N x i y j := by
  obtain ⟨st, h0, h1, h2⟩ := h
  exact ⟨st, h0, hx.trans h1, h2⟩

theorem Pth.congr {M N : List St} {R R' : Int → Prop} (hR : ∀ x, R x → R' x ∧ (0 ≤ x → N[x.toNat]? = M[x.toNat]?)) {x z : Int} {i k : Nat} (h : Pth b len M R x i z k) : Pth b len N R' x i z k := by
  induction h with
  | refl => exact .refl _ _
  | step a t _ ih =>
    obtain ⟨r, e⟩ := hR _ a
    exact .step r (t.congr (e t.choose_spec.1)) ih

/-- A path that goes on from a place where none does is over. -/
theorem Pth.over {M : List St} {R : Int → Prop} {x z : Int} {i k : Nat} (h : Pth b len M R x i z k) (hx : ¬ R x) : z = x ∧ k = i := by
  cases h with
  | refl => exact ⟨rfl, rfl⟩
  | step a _ _ => exact (hx a).elim

/-- Out of a part of the machine a path goes by its exit alone. -/
theorem Pth.split {M : List St} {R R' : Int → Prop} {e : Int} (hcl : ∀ x, R x → ∀ i y j, Tr b len M x i y j → R y ∨ y = e ∨ y = -1) {x z : Int} {i k : Nat} (h : Pth b len M R' x i z k)
    (hx : R x ∨ x = e ∨ x = -1) (hz : ¬ R z) (hz1 : z ≠ -1) : ∃ m, Pth b len M R x i e m ∧ Pth b len M R' e m z k := by
  induction h with
  | refl x i =>
    rcases hx with hx | rfl | hx
    · exact (hz hx).elim
    · exact ⟨i, .refl _ _, .refl _ _⟩
    · exact (hz1 hx).elim
  | @step x i y j z k a t p ih =>
    rcases hx with hx | rfl | rfl
    · obtain ⟨m, p1, p2⟩ := ih (hcl x hx i y j t) hz hz1
      exact ⟨m, .step hx t p1, p2⟩
    · exact ⟨i, .refl _ _, .step a t p⟩
    · obtain ⟨st, h0, _⟩ := t
      omega

/-- A part of a machine that was made for what matches. -/
structure Frag (b : Nat → Int) (len : Nat) (M M' : List St) (a to : Int) (P : Nat → Nat → Prop) : Prop where
  len_le : M.length ≤ M'.length
  pre : ∀ k, k < M.length → M'[k]? = M[k]?
  ent : Reg M.length M'.length a ∨ a = to ∨ a = -1
  closed : ∀ k, M.length ≤ k → k < M'.length → ∀ st, M'[k]? = some st → (Reg M.length M'.length st.next ∨ st.next = to ∨ st.next = -1) ∧ (Reg M.length M'.length st.other ∨ st.other = to ∨ st.other = -1)
  mat : ∀ i j, Pth b len M' (Reg M.length M'.length) a i to j ↔ P i j

/-- In a greater machine the part is closed. -/
theorem Frag.cl {M M' N : List St} {a to : Int} {P : Nat → Nat → Prop} (h : Frag b len M M' a to P) (hN : ∀ k, M.length ≤ k → k < M'.length → N[k]? = M'[k]?) :
    ∀ x, Reg M.length M'.length x → ∀ i y j, Tr b len N x i y j → Reg M.length M'.length y ∨ y = to ∨ y = -1 := by
  intro x hx i y j t
  obtain ⟨st, h0, h1, h2⟩ := t
  have hk : M.length ≤ x.toNat ∧ x.toNat < M'.length := by unfold Reg at hx; omega
  rw [hN _ hk.1 hk.2] at h1
  have hc := h.closed x.toNat hk.1 hk.2 st h1
  rcases h2 with ⟨_, rfl | rfl, _⟩ | ⟨f, _, _, _, rfl, _⟩
  · exact hc.1
  · exact hc.2
  · exact hc.1

theorem Frag.mat_in {M M' N : List St} {a to : Int} {P : Nat → Nat → Prop} (h : Frag b len M M' a to P) (hN : ∀ k, M.length ≤ k → k < M'.length → N[k]? = M'[k]?) (i j : Nat) :
    Pth b len N (Reg M.length M'.length) a i to j ↔ P i j := by
  rw [← h.mat]
  constructor
  · exact Pth.congr fun x hx => ⟨hx, fun _ => by unfold Reg at hx; exact (hN _ (by omega) (by omega)).symm⟩
  · exact Pth.congr fun x hx => ⟨hx, fun _ => by unfold Reg at hx; exact hN _ (by omega) (by omega)⟩

theorem get_append_lt {M : List St} {x : St} {k : Nat} (h : k < M.length) : (M ++ [x])[k]? = M[k]? := List.getElem?_append_left h
theorem get_append_at {M : List St} {x : St} : (M ++ [x])[M.length]? = some x := by simp

theorem frag_set (f : Int → Bool) {M : List St} {to : Int} (h0 : 0 ≤ to) (h1 : to < M.length) : Frag b len M (M ++ [⟨some f, to, -1⟩]) M.length to (mt b len (.set f)) := by
  have hl : (M ++ [(⟨some f, to, -1⟩ : St)]).length = M.length + 1 := by simp
  refine ⟨by omega, fun k hk => get_append_lt hk, .inl (by unfold Reg; omega), ?_, ?_⟩
  · intro k hk1 hk2 st hst
    have : k = M.length := by omega
    subst this
    rw [get_append_at] at hst
    injection hst with hst
    subst hst
    exact ⟨.inr (.inl rfl), .inr (.inr rfl)⟩
  · intro i j
    have hto : ¬ Reg M.length (M ++ [(⟨some f, to, -1⟩ : St)]).length to := by unfold Reg; omega
    constructor
    · intro p
      cases p with
      | refl => omega
      | step a t p =>
        obtain ⟨st, _, e1, e2⟩ := t
        rw [Int.toNat_natCast, get_append_at] at e1
        injection e1 with e1
        subst e1
        rcases e2 with ⟨e, _⟩ | ⟨g, hg, hi, hb, rfl, rfl⟩
        · cases e
        · injection hg with hg
          subst hg
          obtain ⟨_, rfl⟩ := p.over hto
          exact ⟨hi, rfl, hb⟩
    · rintro ⟨hi, rfl, hb⟩
      refine .step (by unfold Reg; omega) ⟨⟨some f, to, -1⟩, by omega, by rw [Int.toNat_natCast, get_append_at], .inr ⟨f, rfl, hi, hb, rfl, rfl⟩⟩ (.refl _ _)

/-- One part behind another. -/
theorem frag_cat {M M1 M2 : List St} {to t1 a : Int} {P Q : Nat → Nat → Prop} (h0 : 0 ≤ to) (h1 : to < M.length) (hl : Frag b len M M1 t1 to Q) (hr : Frag b len M1 M2 a t1 P) :
    Frag b len M M2 a to (fun i j => ∃ m, P i m ∧ Q m j) := by
  have l1 := hl.len_le
  have l2 := hr.len_le
  have hN : ∀ k, M.length ≤ k → k < M1.length → M2[k]? = M1[k]? := fun k _ hk => hr.pre k hk
  have sub1 : ∀ x, Reg M.length M1.length x → Reg M.length M2.length x := fun x hx => by unfold Reg at *; omega
  have sub2 : ∀ x, Reg M1.length M2.length x → Reg M.length M2.length x := fun x hx => by unfold Reg at *; omega
  have t1in : Reg M.length M2.length t1 ∨ t1 = to ∨ t1 = -1 := hl.ent.imp (sub1 _) id
  refine ⟨by omega, fun k hk => (hr.pre k (by omega)).trans (hl.pre k hk), ?_, ?_, ?_⟩
  · rcases hr.ent with h | rfl | h
    · exact .inl (sub2 _ h)
    · exact t1in
    · exact .inr (.inr h)
  · intro k hk1 hk2 st hst
    by_cases hk : k < M1.length
    · rw [hN k hk1 hk] at hst
      have := hl.closed k hk1 hk st hst
      exact ⟨this.1.imp (sub1 _) id, this.2.imp (sub1 _) id⟩
    · have := hr.closed k (by omega) hk2 st hst
      have lift : ∀ y, (Reg M1.length M2.length y ∨ y = t1 ∨ y = -1) → (Reg M.length M2.length y ∨ y = to ∨ y = -1) := by
        intro y hy
        rcases hy with h | rfl | h
        · exact .inl (sub2 _ h)
        · exact t1in
        · exact .inr (.inr h)
      exact ⟨lift _ this.1, lift _ this.2⟩
  · intro i j
    have hto : ∀ hi, ¬ Reg M.length hi to := fun hi => by unfold Reg; omega
    constructor
    · intro p
      obtain ⟨m, p1, p2⟩ := p.split (hr.cl (fun _ _ _ => rfl)) hr.ent (by unfold Reg; omega) (by omega)
      obtain ⟨m', p3, p4⟩ := p2.split (hl.cl hN) hl.ent (hto _) (by omega)
      obtain ⟨_, rfl⟩ := p4.over (hto _)
      exact ⟨m, (hr.mat i m).1 p1, (hl.mat_in hN m j).1 p3⟩
    · rintro ⟨m, hp, hq⟩
      exact (((hr.mat i m).2 hp).mono sub2).trans (((hl.mat_in hN m j).2 hq).mono sub1)

theorem frag_nil {M : List St} {to : Int} (_h0 : 0 ≤ to) (h1 : to < M.length) : Frag b len M M to to (fun i j => i = j) := by
  have hto : ¬ Reg M.length M.length to := by unfold Reg; omega
  refine ⟨Nat.le_refl _, fun _ _ => rfl, .inr (.inl rfl), fun k _ _ => by omega, fun i j => ⟨fun p => (p.over hto).2.symm, fun h => by subst h; exact .refl _ _⟩⟩

/-- A fork behind two parts with the same exit. -/
theorem frag_fork {M M1 M2 : List St} {to f1 a : Int} {P Q : Nat → Nat → Prop} (_h0 : 0 ≤ to) (h1 : to < M.length) (hl : Frag b len M M1 f1 to Q) (hr : Frag b len M1 M2 a to P) :
    Frag b len M (M2 ++ [⟨none, a, f1⟩]) M2.length to (fun i j => P i j ∨ Q i j) := by
  have l1 := hl.len_le
  have l2 := hr.len_le
  have hlen : (M2 ++ [(⟨none, a, f1⟩ : St)]).length = M2.length + 1 := by simp
  have hN2 : ∀ k, k < M2.length → (M2 ++ [(⟨none, a, f1⟩ : St)])[k]? = M2[k]? := fun k hk => get_append_lt hk
  have hN1 : ∀ k, M.length ≤ k → k < M1.length → (M2 ++ [(⟨none, a, f1⟩ : St)])[k]? = M1[k]? := fun k _ hk => (hN2 k (by omega)).trans (hr.pre k hk)
  generalize hN : M2 ++ [(⟨none, a, f1⟩ : St)] = N at *
  have hat : N[M2.length]? = some ⟨none, a, f1⟩ := by rw [← hN]; exact get_append_at
  have sub1 : ∀ x, Reg M.length M1.length x → Reg M.length N.length x := fun x hx => by unfold Reg at *; omega
  have sub2 : ∀ x, Reg M1.length M2.length x → Reg M.length N.length x := fun x hx => by unfold Reg at *; omega
  have lift1 : ∀ y, (Reg M.length M1.length y ∨ y = to ∨ y = -1) → (Reg M.length N.length y ∨ y = to ∨ y = -1) := fun y h => h.imp (sub1 _) id
  have lift2 : ∀ y, (Reg M1.length M2.length y ∨ y = to ∨ y = -1) → (Reg M.length N.length y ∨ y = to ∨ y = -1) := fun y h => h.imp (sub2 _) id
  have hto : ¬ Reg M.length N.length to := by unfold Reg; omega
  refine ⟨by omega, fun k hk => (hN2 k (by omega)).trans ((hr.pre k (by omega)).trans (hl.pre k hk)), .inl (by unfold Reg; omega), ?_, ?_⟩
  · intro k hk1 hk2 st hst
    by_cases hk : k < M1.length
    · rw [hN1 k hk1 hk] at hst
      have := hl.closed k hk1 hk st hst
      exact ⟨lift1 _ this.1, lift1 _ this.2⟩
    · by_cases hk' : k < M2.length
      · rw [hN2 k hk'] at hst
        have := hr.closed k (by omega) hk' st hst
        exact ⟨lift2 _ this.1, lift2 _ this.2⟩
      · have : k = M2.length := by omega
        subst this
        rw [hat] at hst
        injection hst with hst
        subst hst
        exact ⟨lift2 _ hr.ent, lift1 _ hl.ent⟩
  · intro i j
    constructor
    · intro p
      cases p with
      | refl => unfold Reg at hto; omega
      | step _ t p =>
        obtain ⟨st, _, e1, e2⟩ := t
        rw [Int.toNat_natCast, hat] at e1
        injection e1 with e1
        subst e1
        rcases e2 with ⟨_, e, rfl⟩ | ⟨g, hg, _⟩
        · rcases e with rfl | rfl
          · obtain ⟨m, p1, p2⟩ := p.split (hr.cl (fun k _ hk => hN2 k hk)) hr.ent (by unfold Reg; omega) (by omega)
            obtain ⟨_, rfl⟩ := p2.over hto
            exact .inl ((hr.mat_in (fun k _ hk => hN2 k hk) _ _).1 p1)
          · obtain ⟨m, p1, p2⟩ := p.split (hl.cl hN1) hl.ent (by unfold Reg; omega) (by omega)
            obtain ⟨_, rfl⟩ := p2.over hto
            exact .inr ((hl.mat_in hN1 _ _).1 p1)
        · cases hg
    · intro h
      rcases h with h | h
      · exact .step (by unfold Reg; omega) ⟨_, by omega, by rw [Int.toNat_natCast]; exact hat, .inl ⟨rfl, .inl rfl, rfl⟩⟩ (((hr.mat_in (fun k _ hk => hN2 k hk) i j).2 h).mono sub2)
      · exact .step (by unfold Reg; omega) ⟨_, by omega, by rw [Int.toNat_natCast]; exact hat, .inl ⟨rfl, .inr rfl, rfl⟩⟩ (((hl.mat_in hN1 i j).2 h).mono sub1)

/-- Nothing. -/
theorem frag_none {M : List St} {to : Int} (h0 : 0 ≤ to) : Frag b len M M (-1) to (fun _ _ => False) := by
  have hm : ¬ Reg M.length M.length (-1) := by unfold Reg; omega
  refine ⟨Nat.le_refl _, fun _ _ => rfl, .inr (.inr rfl), fun k _ _ => by omega, fun i j => ⟨fun p => ?_, fun h => h.elim⟩⟩
  have := (p.over hm).1
  omega

/-- A loop: its state goes on to its body, or out; the body goes back to it. -/
theorem frag_loop {M M1 : List St} {to a : Int} {P : Nat → Nat → Prop} (h0 : 0 ≤ to) (h1 : to < M.length) (hb : Frag b len (M ++ [⟨none, 0, to⟩]) M1 a M.length P) :
    Frag b len M (M1.set M.length ⟨none, a, to⟩) M.length to (Clo P) ∧ Frag b len M (M1.set M.length ⟨none, a, to⟩) a to (fun i j => ∃ m, P i m ∧ Clo P m j) := by
  have hl0 : (M ++ [(⟨none, 0, to⟩ : St)]).length = M.length + 1 := by simp
  have l1 := hb.len_le
  rw [hl0] at l1
  have hat : (M1.set M.length ⟨none, a, to⟩)[M.length]? = some ⟨none, a, to⟩ := by
    rw [List.getElem?_set_self (by omega)]
  have hoth : ∀ k, k ≠ M.length → (M1.set M.length ⟨none, a, to⟩)[k]? = M1[k]? := fun k hk => List.getElem?_set_ne (fun e => hk e.symm)
  have hln : (M1.set M.length ⟨none, a, to⟩).length = M1.length := by simp
  generalize M1.set M.length ⟨none, a, to⟩ = N at *
  have hNb : ∀ k, (M ++ [(⟨none, 0, to⟩ : St)]).length ≤ k → k < M1.length → N[k]? = M1[k]? := fun k hk _ => hoth k (by omega)
  have hto : ¬ Reg M.length N.length to := by unfold Reg; omega
  have sub : ∀ x, Reg (M ++ [(⟨none, 0, to⟩ : St)]).length M1.length x → Reg M.length N.length x := fun x hx => by unfold Reg at *; omega
  have lift : ∀ y, (Reg (M ++ [(⟨none, 0, to⟩ : St)]).length M1.length y ∨ y = (M.length : Int) ∨ y = -1) → (Reg M.length N.length y ∨ y = to ∨ y = -1) := by
    intro y hy
    rcases hy with h | rfl | h
    · exact .inl (sub _ h)
    · exact .inl (by unfold Reg; omega)
    · exact .inr (.inr h)
  have hpre : ∀ k, k < M.length → N[k]? = M[k]? := fun k hk => (hoth k (by omega)).trans ((hb.pre k (by omega)).trans (get_append_lt hk))
  have hcl : ∀ k, M.length ≤ k → k < N.length → ∀ st, N[k]? = some st → (Reg M.length N.length st.next ∨ st.next = to ∨ st.next = -1) ∧ (Reg M.length N.length st.other ∨ st.other = to ∨ st.other = -1) := by
    intro k hk1 hk2 st hst
    by_cases hk : k = M.length
    · subst hk
      rw [hat] at hst
      injection hst with hst
      subst hst
      exact ⟨lift _ hb.ent, .inr (.inl rfl)⟩
    · rw [hoth k hk] at hst
      have := hb.closed k (by omega) (by omega) st hst
      exact ⟨lift _ this.1, lift _ this.2⟩
  have hbcl := hb.cl hNb
  have hm : ∀ i j, Pth b len N (Reg (M ++ [(⟨none, 0, to⟩ : St)]).length M1.length) a i M.length j ↔ P i j := hb.mat_in hNb
  have hloopR : Reg M.length N.length (M.length : Int) := by unfold Reg; omega
  -- from the loop's state
  have key : ∀ x i z k, Pth b len N (Reg M.length N.length) x i z k → z = to → (x = (M.length : Int) → Clo P i k) ∧ (Reg (M ++ [(⟨none, 0, to⟩ : St)]).length M1.length x → ∃ m, Pth b len N (Reg (M ++ [(⟨none, 0, to⟩ : St)]).length M1.length) x i M.length m ∧ Clo P m k) := by
    intro x i z k p
    induction p with
    | refl x i => intro hz; subst hz; exact ⟨fun e => by omega, fun hr => by unfold Reg at hr; omega⟩
    | @step x i y j z k hx t p ih =>
      intro hz
      obtain ⟨ih1, ih2⟩ := ih hz
      constructor
      · intro hxe
        subst hxe
        obtain ⟨st, _, e1, e2⟩ := t
        rw [Int.toNat_natCast, hat] at e1
        injection e1 with e1
        subst e1
        rcases e2 with ⟨_, e, rfl⟩ | ⟨g, hg, _⟩
        · rcases e with rfl | rfl
          · rcases hb.ent with he | he | he
            · obtain ⟨m, p1, c⟩ := ih2 he
              exact .step ((hm _ _).1 p1) c
            · exact ih1 he
            · have hno : ¬ Reg M.length N.length (-1) := by unfold Reg; omega
              rw [he] at p
              have := (p.over hno).1
              omega
          · subst hz
            obtain ⟨_, rfl⟩ := p.over hto
            exact .refl _
        · cases hg
      · intro hxr
        rcases hbcl x hxr i y j t with hy | hy | hy
        · obtain ⟨m, p1, c⟩ := ih2 hy
          exact ⟨m, .step hxr t p1, c⟩
        · subst hy
          exact ⟨j, .step hxr t (.refl _ _), ih1 rfl⟩
        · subst hz
          have hno : ¬ Reg M.length N.length y := by rw [hy]; unfold Reg; omega
          have := (p.over hno).1
          omega
  have out : ∀ i, Tr b len N (M.length : Int) i to i := fun i => ⟨_, by omega, by rw [Int.toNat_natCast]; exact hat, .inl ⟨rfl, .inr rfl, rfl⟩⟩
  have into : ∀ i, Tr b len N (M.length : Int) i a i := fun i => ⟨_, by omega, by rw [Int.toNat_natCast]; exact hat, .inl ⟨rfl, .inl rfl, rfl⟩⟩
  have back : ∀ i j, Clo P i j → Pth b len N (Reg M.length N.length) M.length i to j := by
    intro i j c
    induction c with
    | refl i => exact .step hloopR (out i) (.refl _ _)
    | step hp _ ih => exact .step hloopR (into _) ((((hm _ _).2 hp).mono sub).trans ih)
  refine ⟨⟨by omega, hpre, .inl hloopR, hcl, fun i j => ⟨fun p => (key _ _ _ _ p rfl).1 rfl, back i j⟩⟩, ⟨by omega, hpre, lift _ hb.ent, hcl, fun i j => ⟨fun p => ?_, ?_⟩⟩⟩
  · rcases hb.ent with he | he | he
    · obtain ⟨m, p1, c⟩ := (key _ _ _ _ p rfl).2 he
      exact ⟨m, (hm _ _).1 p1, c⟩
    · have hc := (key _ _ _ _ p rfl).1 he
      exact ⟨i, (hm i i).1 (by rw [he]; exact .refl _ _), hc⟩
    · have hno : ¬ Reg M.length N.length a := by rw [he]; unfold Reg; omega
      have := (p.over hno).1
      omega
  · rintro ⟨m, hp, c⟩
    exact (((hm _ _).2 hp).mono sub).trans (back m j c)

theorem Frag.iff {M M' : List St} {a to : Int} {P Q : Nat → Nat → Prop} (h : Frag b len M M' a to P) (hq : ∀ i j, P i j ↔ Q i j) : Frag b len M M' a to Q :=
  ⟨h.len_le, h.pre, h.ent, h.closed, fun i j => (h.mat i j).trans (hq i j)⟩

mutual
theorem frag (r : Re) (to : Int) (M : List St) (h0 : 0 ≤ to) (h1 : to < M.length) : Frag b len M (bld r to M).1 (bld r to M).2 to (mt b len r) ∧ 0 ≤ (bld r to M).2 :=
  match r with
  | .set f => by simp only [bld]; exact ⟨frag_set f h0 h1, by omega⟩
  | .cat l => by
    have ih := fragC l to M h0 h1
    simp only [bld]
    exact ⟨ih.1.iff fun i j => by simp only [mt], ih.2⟩
  | .alt l => by
    have ih := fragA l to M h0 h1
    simp only [bld]
    split
    · rename_i e
      rw [e] at ih
      have hn := frag_none (b := b) (len := len) (M := (bldA l to M).1) (to := to) h0
      exact ⟨(frag_fork h0 h1 ih hn).iff fun i j => by simp only [mt, false_or], by omega⟩
    · rename_i e
      refine ⟨ih.iff fun i j => by simp only [mt], ?_⟩
      rcases ih.ent with h | h | h
      · unfold Reg at h; omega
      · omega
      · exact (e h).elim
  | .maybe r => by
    simp only [bld]
    have ih := (frag r to M h0 h1).1
    exact ⟨(frag_fork h0 h1 (frag_nil h0 h1) ih).iff fun i j => by simp only [mt]; exact ⟨fun h => h.symm, fun h => h.symm⟩, by omega⟩
  | .star r => by
    simp only [bld]
    have ih := (frag r M.length (M ++ [⟨none, 0, to⟩]) (by omega) (by simp; omega)).1
    exact ⟨(frag_loop h0 h1 ih).1.iff fun i j => by simp only [mt], by omega⟩
  | .plus r => by
    simp only [bld]
    have ih := frag r M.length (M ++ [⟨none, 0, to⟩]) (by omega) (by simp; omega)
    exact ⟨(frag_loop h0 h1 ih.1).2.iff fun i j => by simp only [mt], ih.2⟩
theorem fragC (l : List Re) (to : Int) (M : List St) (h0 : 0 ≤ to) (h1 : to < M.length) : Frag b len M (bldC l to M).1 (bldC l to M).2 to (seqM b len l) ∧ 0 ≤ (bldC l to M).2 :=
  match l with
  | [] => by simp only [bldC]; exact ⟨(frag_nil h0 h1).iff fun i j => by simp only [seqM], h0⟩
  | r :: l => by
    obtain ⟨ih, ih0⟩ := fragC l to M h0 h1
    simp only [bldC]
    have hlt : (bldC l to M).2 < (bldC l to M).1.length := by
      rcases ih.ent with h | h | h
      · unfold Reg at h; omega
      · have := ih.len_le; omega
      · omega
    obtain ⟨ih2, ih3⟩ := frag r (bldC l to M).2 (bldC l to M).1 ih0 hlt
    exact ⟨(frag_cat h0 h1 ih ih2).iff fun i j => by simp only [seqM], ih3⟩
theorem fragA (l : List Re) (to : Int) (M : List St) (h0 : 0 ≤ to) (h1 : to < M.length) : Frag b len M (bldA l to M).1 (bldA l to M).2 to (anyM b len l) :=
  match l with
  | [] => by simp only [bldA]; exact (frag_none h0).iff fun i j => by simp only [anyM]
  | r :: l => by
    have ih := fragA l to M h0 h1
    simp only [bldA]
    have ih2 := (frag r to (bldA l to M).1 h0 (by have := ih.len_le; omega)).1
    exact (frag_fork h0 h1 ih ih2).iff fun i j => by simp only [anyM]
end
end

/-- The whole machine: its first state is the end. -/
def mac (r : Re) : List St := (bld r 0 [⟨none, -1, -1⟩]).1
def start (r : Re) : Int := (bld r 0 [⟨none, -1, -1⟩]).2

section
variable {b : Nat → Int} {len : Nat}
theorem mac_frag (r : Re) : Frag b len [⟨none, -1, -1⟩] (mac r) (start r) 0 (mt b len r) ∧ 0 ≤ start r := frag r 0 [⟨none, -1, -1⟩] (by omega) (by simp)

theorem mac_zero (r : Re) : (mac r)[0]? = some ⟨none, -1, -1⟩ := (mac_frag (b := fun _ => 0) (len := 0) r).1.pre 0 (by simp)

theorem start_lt (r : Re) : 0 ≤ start r ∧ start r < (mac r).length := by
  obtain ⟨h, h0⟩ := mac_frag (b := fun _ => 0) (len := 0) r
  have hl := h.len_le
  refine ⟨h0, ?_⟩
  rcases h.ent with h | h | h
  · unfold Reg at h; omega
  · simp at hl; omega
  · omega

/-- Every state goes on to a state, or to none. -/
theorem mac_closed (r : Re) : ∀ (k : Nat) (st : St), (mac r)[k]? = some st → (-1 ≤ st.next ∧ st.next < (mac r).length) ∧ (-1 ≤ st.other ∧ st.other < (mac r).length) := by
  intro k st hst
  have h := (mac_frag (b := fun _ => 0) (len := 0) r).1
  have hl := h.len_le
  simp only [List.length_cons, List.length_nil] at hl
  have hk : k < (mac r).length := (List.getElem?_eq_some_iff.1 hst).1
  by_cases hk0 : k = 0
  · subst hk0
    rw [mac_zero] at hst
    injection hst with hst
    subst hst
    dsimp only
    omega
  · have := h.closed k (by simp; omega) hk st hst
    simp only [Reg, List.length_cons, List.length_nil] at this
    omega

/-- What is reached in the whole machine. -/
abbrev Rch (b : Nat → Int) (len : Nat) (r : Re) (x : Int) (i : Nat) (y : Int) (j : Nat) : Prop := Pth b len (mac r) (fun _ => True) x i y j

theorem reach_mt (r : Re) (i j : Nat) : Rch b len r (start r) i 0 j ↔ mt b len r i j := by
  obtain ⟨h, h0⟩ := mac_frag (b := b) (len := len) r
  rw [← h.mat]
  constructor
  · intro p
    obtain ⟨m, p1, p2⟩ := p.split (h.cl (fun _ _ _ => rfl)) h.ent (by simp [Reg]) (by omega)
    have key : ∀ x i z k, Pth b len (mac r) (fun _ => True) x i z k → (x = 0 ∨ x = -1) → z = 0 → x = 0 ∧ k = i := by
      intro x i z k p
      induction p with
      | refl => intro hx hz; omega
      | @step x i y j z k _ t _ ih =>
        intro hx hz
        obtain ⟨st, hp, e1, e2⟩ := t
        have hx0 : x = 0 := by omega
        subst hx0
        rw [Int.toNat_zero, mac_zero] at e1
        injection e1 with e1
        subst e1
        rcases e2 with ⟨_, e, rfl⟩ | ⟨g, hg, _⟩
        · have hy : y = -1 := by rcases e with e | e <;> exact e
          have := ih (.inr hy) hz
          omega
        · cases hg
    obtain ⟨_, rfl⟩ := key _ _ _ _ p2 (.inl rfl) rfl
    exact p1
  · exact Pth.mono fun _ _ => trivial
end
end Go.Proofs.Ytdgidcfmggmbiaa.Re
namespace Go.Proofs.Ytdgidcfmggmbiaa.Re
set_option linter.unusedVariables false
set_option linter.unusedSimpArgs false

section
variable {b : Nat → Int} {len : Nat}

/-- A step without a byte. -/
def Ep (M : List St) (x y : Int) : Prop := ∃ st, 0 ≤ x ∧ M[x.toNat]? = some st ∧ st.set = none ∧ (y = st.next ∨ y = st.other)

inductive EpsR (M : List St) : Int → Int → Prop
  | refl (x : Int) : EpsR M x x
  | step {x y z : Int} : Ep M x y → EpsR M y z → EpsR M x z

theorem EpsR.snoc {M : List St} {x y z : Int} (h : EpsR M x y) (e : Ep M y z) : EpsR M x z := by
  induction h with
  | refl => exact .step e (.refl _)
  | step a _ ih => exact .step a (ih e)

theorem EpsR.pth {M : List St} {x y : Int} (h : EpsR M x y) (i : Nat) : Pth b len M (fun _ => True) x i y i := by
  induction h with
  | refl => exact .refl _ _
  | step e _ ih =>
    obtain ⟨st, h0, h1, h2, h3⟩ := e
    exact .step trivial ⟨st, h0, h1, .inl ⟨h2, h3, rfl⟩⟩ ih

theorem Pth.le {M : List St} {R : Int → Prop} {x z : Int} {i k : Nat} (h : Pth b len M R x i z k) : i ≤ k := by
  induction h with
  | refl => exact Nat.le_refl _
  | step _ t _ ih =>
    obtain ⟨st, _, _, h⟩ := t
    rcases h with ⟨_, _, e⟩ | ⟨f, _, _, _, _, e⟩ <;> omega

theorem Pth.le_len {M : List St} {R : Int → Prop} {x z : Int} {i k : Nat} (h : Pth b len M R x i z k) (hi : i ≤ len) : k ≤ len := by
  induction h with
  | refl => exact hi
  | step _ t _ ih =>
    obtain ⟨st, _, _, h⟩ := t
    rcases h with ⟨_, _, e⟩ | ⟨f, _, _, _, _, e⟩ <;> exact ih (by omega)

/-- The last byte of a path. -/
theorem Pth.last {M : List St} {x z : Int} {i k : Nat} (h : Pth b len M (fun _ => True) x i z k) :
    (k = i ∧ EpsR M x z) ∨ (∃ m y st f, k = m + 1 ∧ Pth b len M (fun _ => True) x i y m ∧ 0 ≤ y ∧ M[y.toNat]? = some st ∧ st.set = some f ∧ m < len ∧ f (b m) = true ∧ EpsR M st.next z) := by
  induction h with
  | refl => exact .inl ⟨rfl, .refl _⟩
  | @step x i y j z k _ t _ ih =>
    obtain ⟨st, h0, h1, h2⟩ := t
    rcases h2 with ⟨hs, hy, rfl⟩ | ⟨f, hs, hi, hb, rfl, rfl⟩
    · rcases ih with ⟨rfl, e⟩ | ⟨m, y', st', f', rfl, p, rest⟩
      · exact .inl ⟨rfl, .step ⟨st, h0, h1, hs, hy⟩ e⟩
      · exact .inr ⟨m, y', st', f', rfl, .step trivial ⟨st, h0, h1, .inl ⟨hs, hy, rfl⟩⟩ p, rest⟩
    · rcases ih with ⟨rfl, e⟩ | ⟨m, y', st', f', rfl, p, rest⟩
      · exact .inr ⟨i, x, st, f, rfl, .refl _ _, h0, h1, hs, hi, hb, e⟩
      · exact .inr ⟨m, y', st', f', rfl, .step trivial ⟨st, h0, h1, .inr ⟨f, hs, hi, hb, rfl, rfl⟩⟩ p, rest⟩

/-- A path is somewhere at each place. -/
theorem Pth.mid {M : List St} {x z : Int} {i k m : Nat} (h : Pth b len M (fun _ => True) x i z k) (h1 : i ≤ m) (h2 : m ≤ k) : ∃ y, Pth b len M (fun _ => True) x i y m ∧ Pth b len M (fun _ => True) y m z k := by
  induction h with
  | refl => obtain rfl : m = _ := Nat.le_antisymm h2 h1; exact ⟨_, .refl _ _, .refl _ _⟩
  | @step x i y j z k a t p ih =>
    by_cases hm : m = i
    · subst hm; exact ⟨x, .refl _ _, .step a t p⟩
    · have hj : j ≤ m := by
        obtain ⟨st, _, _, h⟩ := t
        rcases h with ⟨_, _, e⟩ | ⟨f, _, _, _, _, e⟩ <;> omega
      obtain ⟨y', p1, p2⟩ := ih hj h2
      exact ⟨y', .step a t p1, p2⟩

theorem EpsR.in_ {M : List St} (hM : ∀ (k : Nat) (st : St), M[k]? = some st → (-1 ≤ st.next ∧ st.next < M.length) ∧ (-1 ≤ st.other ∧ st.other < M.length)) {x y : Int} (h : EpsR M x y) (hx : -1 ≤ x ∧ x < M.length) : -1 ≤ y ∧ y < M.length := by
  induction h with
  | refl => exact hx
  | step e _ ih =>
    obtain ⟨st, h0, h1, _, h2⟩ := e
    have := hM _ _ h1
    exact ih (by rcases h2 with rfl | rfl <;> omega)

/-- From where a state was come to; -1: it wasn't. -/
def fa (F : List Int) (y : Int) : Int := F.getD y.toNat (-1)

theorem fa_set {F : List Int} {x y a : Int} (hx : 0 ≤ x) (hl : x < F.length) (hy : 0 ≤ y) : fa (F.set x.toNat a) y = if y = x then a else fa F y := by
  unfold fa
  rw [List.getD_eq_getElem?_getD, List.getD_eq_getElem?_getD, List.getElem?_set]
  by_cases h : y = x
  · subst h; rw [if_pos rfl, if_pos rfl, if_pos (by omega)]; rfl
  · rw [if_neg (by omega), if_neg h]

structure SetOk (M : List St) (F L : List Int) : Prop where
  len : F.length = M.length
  nd : L.Nodup
  mem : ∀ y, y ∈ L ↔ (0 ≤ y ∧ y < M.length ∧ fa F y ≠ -1)
  nn : ∀ y : Int, 0 ≤ y → y < M.length → fa F y ≠ -1 → 0 ≤ fa F y
  closed : ∀ y : Int, 0 ≤ y → y < M.length → fa F y ≠ -1 → ∀ z, Ep M y z → z = -1 ∨ (fa F z ≠ -1 ∧ fa F z ≤ fa F y)

structure Met (M : List St) (F F' : List Int) (x a : Int) : Prop where
  mono : ∀ y : Int, 0 ≤ y → y < M.length → fa F y ≠ -1 → fa F' y ≠ -1 ∧ fa F' y ≤ fa F y
  snd : ∀ y : Int, 0 ≤ y → y < M.length → fa F' y = fa F y ∨ (fa F' y = a ∧ EpsR M x y)
  reach : ∀ y : Int, 0 ≤ y → y < M.length → EpsR M x y → fa F' y ≠ -1 ∧ fa F' y ≤ a

/-- In the middle of a meeting: todo are states that are still to be met. -/
structure MeetI (M : List St) (F0 F L todo : List Int) (x0 a : Int) : Prop where
  len : F.length = M.length
  nd : L.Nodup
  mem : ∀ y, y ∈ L ↔ (0 ≤ y ∧ y < M.length ∧ fa F y ≠ -1)
  nn : ∀ y : Int, 0 ≤ y → y < M.length → fa F y ≠ -1 → 0 ≤ fa F y
  mono : ∀ y : Int, 0 ≤ y → y < M.length → fa F0 y ≠ -1 → fa F y ≠ -1 ∧ fa F y ≤ fa F0 y
  snd : ∀ y : Int, 0 ≤ y → y < M.length → fa F y = fa F0 y ∨ (fa F y = a ∧ EpsR M x0 y)
  pend : ∀ y : Int, 0 ≤ y → y < M.length → fa F y ≠ -1 → ∀ z, Ep M y z → z = -1 ∨ (fa F z ≠ -1 ∧ fa F z ≤ fa F y) ∨ (fa F y = a ∧ z ∈ todo)
  first : x0 = -1 ∨ (fa F x0 ≠ -1 ∧ fa F x0 ≤ a) ∨ x0 ∈ todo
  todoOk : ∀ z, z ∈ todo → z = -1 ∨ (0 ≤ z ∧ z < M.length ∧ EpsR M x0 z)

theorem meet_start {M : List St} {F L : List Int} {x a : Int} (h : SetOk M F L) (hx : -1 ≤ x ∧ x < M.length) : MeetI M F F L [x] x a where
  len := h.len
  nd := h.nd
  mem := h.mem
  nn := h.nn
  mono := fun y _ _ hy => ⟨hy, Int.le_refl _⟩
  snd := fun y _ _ => .inl rfl
  pend := fun y h0 h1 hy z e => (h.closed y h0 h1 hy z e).imp id .inl
  first := .inr (.inr (by simp))
  todoOk := fun z hz => by
    simp at hz
    subst hz
    by_cases hz : z = -1
    · exact .inl hz
    · exact .inr ⟨by omega, by omega, .refl _⟩

theorem meet_skip {M : List St} {F0 F L T : List Int} {x x0 a : Int} (h : MeetI M F0 F L (T ++ [x]) x0 a) (hx : x = -1 ∨ (fa F x ≠ -1 ∧ fa F x ≤ a)) : MeetI M F0 F L T x0 a where
  len := h.len
  nd := h.nd
  mem := h.mem
  nn := h.nn
  mono := h.mono
  snd := h.snd
  pend := fun y h0 h1 hy z e => by
    rcases h.pend y h0 h1 hy z e with h2 | h2 | ⟨h2, h3⟩
    · exact .inl h2
    · exact .inr (.inl h2)
    · rcases List.mem_append.1 h3 with h3 | h3
      · exact .inr (.inr ⟨h2, h3⟩)
      · simp at h3
        subst h3
        rcases hx with hx | hx
        · exact .inl hx
        · exact .inr (.inl ⟨hx.1, by omega⟩)
  first := by
    rcases h.first with h2 | h2 | h2
    · exact .inl h2
    · exact .inr (.inl h2)
    · rcases List.mem_append.1 h2 with h3 | h3
      · exact .inr (.inr h3)
      · simp at h3
        subst h3
        exact hx.imp id .inl
  todoOk := fun z hz => h.todoOk z (List.mem_append.2 (.inl hz))

theorem meet_take {M : List St} (hM : ∀ (k : Nat) (st : St), M[k]? = some st → (-1 ≤ st.next ∧ st.next < M.length) ∧ (-1 ≤ st.other ∧ st.other < M.length)) {F0 F L T : List Int} {x x0 a : Int} (ha : 0 ≤ a) (h : MeetI M F0 F L (T ++ [x]) x0 a) (hx : x ≠ -1) (hf : fa F x = -1 ∨ a < fa F x) {st : St} (hst : M[x.toNat]? = some st) :
    MeetI M F0 (F.set x.toNat a) (if fa F x = -1 then L ++ [x] else L) (if st.set.isNone then T ++ [st.next, st.other] else T) x0 a := by
  obtain ⟨h0, h1, he⟩ : 0 ≤ x ∧ x < M.length ∧ EpsR M x0 x := by
    rcases h.todoOk x (by simp) with h2 | h2
    · exact (hx h2).elim
    · exact h2
  have hset : ∀ y : Int, 0 ≤ y → fa (F.set x.toNat a) y = if y = x then a else fa F y := fun y hy => fa_set h0 (by rw [h.len]; exact h1) hy
  have hself : fa (F.set x.toNat a) x = a := by rw [hset x h0, if_pos rfl]
  have hT : ∀ z, z ∈ T → z ∈ (if st.set.isNone then T ++ [st.next, st.other] else T) := by
    intro z hz; split
    · exact List.mem_append.2 (.inl hz)
    · exact hz
  constructor
  · simp [h.len]
  · split
    · rename_i e
      refine List.nodup_append.2 ⟨h.nd, by simp, fun y hy z hz => ?_⟩
      simp at hz
      subst hz
      rintro rfl
      exact ((h.mem y).1 hy).2.2 e
    · exact h.nd
  · intro y
    constructor
    · intro hy
      have hy' : y ∈ L ∨ y = x := by
        split at hy
        · rcases List.mem_append.1 hy with hy | hy
          · exact .inl hy
          · simp at hy; exact .inr hy
        · exact .inl hy
      rcases hy' with hy | rfl
      · obtain ⟨a1, a2, a3⟩ := (h.mem y).1 hy
        refine ⟨a1, a2, ?_⟩
        rw [hset y a1]
        split
        · omega
        · exact a3
      · exact ⟨h0, h1, by rw [hself]; omega⟩
    · rintro ⟨a1, a2, a3⟩
      rw [hset y a1] at a3
      by_cases e : y = x
      · subst e
        split
        · exact List.mem_append.2 (.inr (by simp))
        · rename_i e2; exact (h.mem y).2 ⟨a1, a2, e2⟩
      · rw [if_neg e] at a3
        have := (h.mem y).2 ⟨a1, a2, a3⟩
        split
        · exact List.mem_append.2 (.inl this)
        · exact this
  · intro y a1 a2 a3
    rw [hset y a1] at a3 ⊢
    split
    · exact ha
    · rename_i e; rw [if_neg e] at a3; exact h.nn y a1 a2 a3
  · intro y a1 a2 a3
    have := h.mono y a1 a2 a3
    rw [hset y a1]
    split
    · rename_i e
      subst e
      refine ⟨by omega, ?_⟩
      rcases hf with hf | hf
      · exact (this.1 hf).elim
      · omega
    · exact this
  · intro y a1 a2
    rw [hset y a1]
    split
    · rename_i e; subst e; exact .inr ⟨rfl, he⟩
    · exact h.snd y a1 a2
  · intro y a1 a2 a3 z e
    have hz : z = -1 ∨ 0 ≤ z := by
      obtain ⟨st', _, e1, _, e2⟩ := e
      have := hM _ _ e1
      rcases e2 with rfl | rfl <;> omega
    rcases hz with hz | hz0
    · exact .inl hz
    · rw [hset y a1] at a3 ⊢
      rw [hset z hz0]
      by_cases ey : y = x
      · subst ey
        rw [if_pos rfl]
        obtain ⟨st', _, e1, e3, e2⟩ := e
        rw [hst] at e1
        injection e1 with e1
        subst e1
        refine .inr (.inr ⟨rfl, ?_⟩)
        rw [if_pos (by rw [e3]; rfl)]
        refine List.mem_append.2 (.inr ?_)
        rcases e2 with rfl | rfl <;> simp
      · rw [if_neg ey] at a3 ⊢
        rcases h.pend y a1 a2 a3 z e with h2 | h2 | ⟨h2, h3⟩
        · exact .inl h2
        · refine .inr (.inl ?_)
          split
          · rename_i ez
            subst ez
            refine ⟨by omega, ?_⟩
            rcases hf with hf | hf
            · exact (h2.1 hf).elim
            · omega
          · exact h2
        · rcases List.mem_append.1 h3 with h3 | h3
          · exact .inr (.inr ⟨h2, hT z h3⟩)
          · simp at h3
            subst h3
            rw [if_pos rfl]
            exact .inr (.inl ⟨by omega, by omega⟩)
  · rcases h.first with h2 | h2 | h2
    · exact .inl h2
    · refine .inr (.inl ?_)
      by_cases hx0 : 0 ≤ x0
      · rw [hset x0 hx0]
        split
        · omega
        · exact h2
      · exfalso
        have e0 : x0.toNat = 0 := by omega
        -- a first state below 0 is none
        have : EpsR M x0 x := he
        cases this with
        | refl => exact hx0 h0
        | step e _ => obtain ⟨_, q, _⟩ := e; exact hx0 q
    · rcases List.mem_append.1 h2 with h3 | h3
      · exact .inr (.inr (hT _ h3))
      · simp at h3
        subst h3
        exact .inr (.inl ⟨by rw [hself]; omega, by rw [hself]; omega⟩)
  · intro z hz
    split at hz
    · rename_i e
      rcases List.mem_append.1 hz with hz | hz
      · exact h.todoOk z (List.mem_append.2 (.inl hz))
      · have hn := hM _ _ hst
        have hep : ∀ y, (y = st.next ∨ y = st.other) → EpsR M x0 y := fun y hy => he.snoc ⟨st, h0, hst, by simpa using e, hy⟩
        simp at hz
        by_cases hz1 : z = -1
        · exact .inl hz1
        · exact .inr ⟨by rcases hz with rfl | rfl <;> omega, by rcases hz with rfl | rfl <;> omega, hep z hz⟩
    · exact h.todoOk z (List.mem_append.2 (.inl hz))

theorem meet_done {M : List St} (hM : ∀ (k : Nat) (st : St), M[k]? = some st → (-1 ≤ st.next ∧ st.next < M.length) ∧ (-1 ≤ st.other ∧ st.other < M.length)) {F0 F L : List Int} {x0 a : Int} (h : MeetI M F0 F L [] x0 a) (hx0 : -1 ≤ x0 ∧ x0 < M.length) : SetOk M F L ∧ Met M F0 F x0 a := by
  have hcl : ∀ y : Int, 0 ≤ y → y < M.length → fa F y ≠ -1 → ∀ z, Ep M y z → z = -1 ∨ (fa F z ≠ -1 ∧ fa F z ≤ fa F y) := by
    intro y a1 a2 a3 z e
    rcases h.pend y a1 a2 a3 z e with h2 | h2 | ⟨_, h3⟩
    · exact .inl h2
    · exact .inr h2
    · simp at h3
  refine ⟨⟨h.len, h.nd, h.mem, h.nn, hcl⟩, ⟨h.mono, h.snd, ?_⟩⟩
  have key : ∀ x y, EpsR M x y → (-1 ≤ x ∧ x < M.length) → 0 ≤ y → (x = -1 ∨ (fa F x ≠ -1 ∧ fa F x ≤ a)) → fa F y ≠ -1 ∧ fa F y ≤ a := by
    intro x y e
    induction e with
    | refl => intro _ h0 h1; rcases h1 with h1 | h1; · omega
              · exact h1
    | step e _ ih =>
      intro hx hy h1
      obtain ⟨st, e0, e1, e2, e3⟩ := e
      have hn := hM _ _ e1
      rcases h1 with h1 | h1
      · omega
      · refine ih (by rcases e3 with rfl | rfl <;> omega) hy ?_
        rcases hcl _ e0 hx.2 h1.1 _ ⟨st, e0, e1, e2, e3⟩ with h2 | h2
        · exact .inl h2
        · exact .inr ⟨h2.1, by omega⟩
  intro y a1 _ e
  refine key x0 y e hx0 a1 ?_
  rcases h.first with h2 | h2 | h2
  · exact .inl h2
  · exact .inr h2
  · simp at h2

/-- How many states a meeting may still take. -/
def cnt (F : List Int) (a : Int) : Nat := F.countP (fun v => decide (v = -1 ∨ a < v))

theorem cnt_set {F : List Int} {a : Int} {k : Nat} (hk : k < F.length) (ha : 0 ≤ a) (hf : F.getD k (-1) = -1 ∨ a < F.getD k (-1)) : cnt (F.set k a) a + 1 = cnt F a := by
  induction F generalizing k with
  | nil => simp at hk
  | cons v F ih =>
    unfold cnt at *
    cases k with
    | zero =>
      simp only [List.getD_cons_zero] at hf
      simp only [List.set_cons_zero, List.countP_cons]
      have h1 : decide (v = -1 ∨ a < v) = true := by simpa using hf
      have h2 : decide (a = -1 ∨ a < a) = false := by simp; omega
      rw [h1, h2]
      simp
    | succ k =>
      simp only [List.getD_cons_succ] at hf
      simp only [List.set_cons_succ, List.countP_cons]
      have := ih (k := k) (by simpa using hk) hf
      omega

theorem cnt_le (F : List Int) (a : Int) : cnt F a ≤ F.length := List.countP_le_length

/-- Which places a piece may begin at. -/
def Al (anyw : Bool) (at0 a : Nat) : Prop := at0 ≤ a ∧ (anyw = false → a = at0)

/-- The best piece that ends ahead of a place. -/
def Best (b : Nat → Int) (len : Nat) (r : Re) (anyw : Bool) (at0 i : Nat) (ok : Bool) (frm to : Int) : Prop :=
  (ok = false → ∀ a j, Al anyw at0 a → j < i → ¬ mt b len r a j) ∧
  (ok = true → ∃ f t : Nat, frm = f ∧ to = t ∧ Al anyw at0 f ∧ t < i ∧ mt b len r f t ∧ ∀ a j, Al anyw at0 a → j < i → mt b len r a j → f < a ∨ (f = a ∧ j ≤ t))

structure RunI (b : Nat → Int) (len : Nat) (r : Re) (anyw : Bool) (at0 i : Nat) (F L : List Int) (ok : Bool) (frm : Int) : Prop where
  set : SetOk (mac r) F L
  snd : ∀ y : Int, 0 ≤ y → y < (mac r).length → fa F y ≠ -1 → ∃ a : Nat, fa F y = a ∧ Al anyw at0 a ∧ a ≤ i ∧ Rch b len r (start r) a y i
  cmp : ∀ a : Nat, Al anyw at0 a → a ≤ i → (ok = true → (a : Int) ≤ frm) → ∀ y : Int, 0 ≤ y → y < (mac r).length → Rch b len r (start r) a y i → fa F y ≠ -1 ∧ fa F y ≤ a

theorem mac_pos (r : Re) : 0 < (mac r).length := (List.getElem?_eq_some_iff.1 (mac_zero r)).1

/-- At a place: is the end met? -/
theorem run_check {r : Re} {anyw : Bool} {at0 i : Nat} {F L : List Int} {ok : Bool} {frm to : Int} (h : RunI b len r anyw at0 i F L ok frm) (hb : Best b len r anyw at0 i ok frm to) :
    (fa F 0 ≠ -1 → (ok = false ∨ fa F 0 ≤ frm) → RunI b len r anyw at0 i F L true (fa F 0) ∧ Best b len r anyw at0 (i + 1) true (fa F 0) i) ∧
    (¬ (fa F 0 ≠ -1 ∧ (ok = false ∨ fa F 0 ≤ frm)) → Best b len r anyw at0 (i + 1) ok frm to) := by
  have hp := mac_pos r
  have hin : ∀ a, Al anyw at0 a → mt b len r a i → a ≤ i := fun a _ hm => ((reach_mt r a i).2 hm).le
  constructor
  · intro h0 h1
    obtain ⟨a, e, ha, hai, hr⟩ := h.snd 0 (by omega) (by omega) h0
    have hmt := (reach_mt r a i).1 hr
    refine ⟨⟨h.set, h.snd, fun a' ha' hle hrel => h.cmp a' ha' hle fun hok => ?_⟩, ⟨(fun e => by cases e), fun _ => ⟨a, i, e, rfl, ha, by omega, hmt, ?_⟩⟩⟩
    · have := hrel rfl
      rcases h1 with h1 | h1
      · rw [hok] at h1; cases h1
      · omega
    · intro a' j ha' hj hm
      by_cases hji : j = i
      · subst hji
        by_cases hrel : ok = true → (a' : Int) ≤ frm
        · have := (h.cmp a' ha' (hin a' ha' hm) hrel 0 (by omega) (by omega) ((reach_mt r a' j).2 hm)).2
          omega
        · have hok : ok = true := by
            by_cases q : ok = true
            · exact q
            · exact (hrel fun c => (q c).elim).elim
          have : ¬ (a' : Int) ≤ frm := fun c => hrel fun _ => c
          rcases h1 with h1 | h1
          · rw [hok] at h1; cases h1
          · omega
      · cases hok : ok with
        | false => exact (hb.1 hok a' j ha' (by omega) hm).elim
        | true =>
          obtain ⟨f, t, ef, et, hf, ht, hft, hbest⟩ := hb.2 hok
          rcases h1 with h1 | h1
          · rw [hok] at h1; cases h1
          · rcases hbest a' j ha' (by omega) hm with h2 | ⟨h2, h3⟩ <;> omega
  · intro hno
    refine ⟨fun hok a j ha hj hm => ?_, fun hok => ?_⟩
    · by_cases hji : j = i
      · subst hji
        have := h.cmp a ha (hin a ha hm) (fun c => by rw [hok] at c; cases c) 0 (by omega) (by omega) ((reach_mt r a j).2 hm)
        exact hno ⟨this.1, .inl hok⟩
      · exact hb.1 hok a j ha (by omega) hm
    · obtain ⟨f, t, ef, et, hf, ht, hft, hbest⟩ := hb.2 hok
      refine ⟨f, t, ef, et, hf, by omega, hft, fun a j ha hj hm => ?_⟩
      by_cases hji : j = i
      · subst hji
        by_cases hrel : (a : Int) ≤ frm
        · have := h.cmp a ha (hin a ha hm) (fun _ => hrel) 0 (by omega) (by omega) ((reach_mt r a j).2 hm)
          exact (hno ⟨this.1, .inr (by omega)⟩).elim
        · exact .inl (by omega)
      · exact hbest a j ha (by omega) hm

/-- It may be over. -/
theorem run_over {r : Re} {anyw : Bool} {at0 i : Nat} {F L : List Int} {ok : Bool} {frm to : Int} (hi : at0 ≤ i) (hil : i ≤ len) (h : RunI b len r anyw at0 i F L ok frm) (hb : Best b len r anyw at0 (i + 1) ok frm to)
    (hov : i = len ∨ (L = [] ∧ (ok = true ∨ anyw = false))) : Best b len r anyw at0 (len + 1) ok frm to := by
  rcases hov with rfl | ⟨hL, hov⟩
  · exact hb
  · subst hL
    have hnone : ∀ y : Int, 0 ≤ y → y < (mac r).length → fa F y = -1 := by
      intro y a1 a2
      by_cases e : fa F y = -1
      · exact e
      · have := (h.set.mem y).2 ⟨a1, a2, e⟩
        simp at this
    have key : ∀ a j, Al anyw at0 a → i < j → mt b len r a j → (ok = true → (a : Int) ≤ frm) → a ≤ i → False := by
      intro a j ha hj hm hrel hai
      obtain ⟨y, p1, p2⟩ := ((reach_mt r a j).2 hm).mid hai (by omega : i ≤ j)
      have hy : 0 ≤ y ∧ y < (mac r).length := by
        cases p2 with
        | refl => omega
        | step _ t _ =>
          obtain ⟨st, h0, h1, _⟩ := t
          have := (List.getElem?_eq_some_iff.1 h1).1
          omega
      exact (h.cmp a ha hai hrel y hy.1 hy.2 p1).1 (hnone y hy.1 hy.2)
    refine ⟨fun hok a j ha hj hm => ?_, fun hok => ?_⟩
    · by_cases hji : j < i + 1
      · exact hb.1 hok a j ha hji hm
      · have han : anyw = false := by rcases hov with c | c; · rw [hok] at c; cases c
                                      · exact c
        have := ha.2 han
        exact key a j ha (by omega) hm (fun c => by rw [hok] at c; cases c) (by omega)
    · obtain ⟨f, t, ef, et, hf, ht, hft, hbest⟩ := hb.2 hok
      refine ⟨f, t, ef, et, hf, by omega, hft, fun a j ha hj hm => ?_⟩
      by_cases hji : j < i + 1
      · exact hbest a j ha hji hm
      · by_cases hai : a ≤ i
        · by_cases hrel : (a : Int) ≤ frm
          · exact (key a j ha (by omega) hm (fun _ => hrel) hai).elim
          · exact .inl (by omega)
        · have : f ≤ t := ((reach_mt r f t).2 hft).le
          exact .inl (by omega)

/-- On the way to the next place: L1 of the states are done. -/
structure NextI (b : Nat → Int) (len : Nat) (r : Re) (anyw : Bool) (at0 i : Nat) (F : List Int) (ok : Bool) (frm : Int) (L1 F' L' : List Int) : Prop where
  set : SetOk (mac r) F' L'
  snd : ∀ y : Int, 0 ≤ y → y < (mac r).length → fa F' y ≠ -1 → ∃ a : Nat, fa F' y = a ∧ Al anyw at0 a ∧ a ≤ i ∧ Rch b len r (start r) a y (i + 1)
  cmp : ∀ x, x ∈ L1 → ¬ (ok = true ∧ frm < fa F x) → ∀ st f, (mac r)[x.toNat]? = some st → st.set = some f → f (b i) = true → ∀ y : Int, 0 ≤ y → y < (mac r).length → EpsR (mac r) st.next y → fa F' y ≠ -1 ∧ fa F' y ≤ fa F x

theorem next_nil {r : Re} {anyw : Bool} {at0 i : Nat} {F : List Int} {ok : Bool} {frm : Int} {F' : List Int} (hl : F'.length = (mac r).length) (hF : ∀ y : Int, 0 ≤ y → y < (mac r).length → fa F' y = -1) : NextI b len r anyw at0 i F ok frm [] F' [] where
  set := ⟨hl, List.nodup_nil, fun y => ⟨fun h => by simp at h, fun h => (h.2.2 (hF y h.1 h.2.1)).elim⟩, fun y a1 a2 a3 => (a3 (hF y a1 a2)).elim, fun y a1 a2 a3 => (a3 (hF y a1 a2)).elim⟩
  snd := fun y a1 a2 a3 => (a3 (hF y a1 a2)).elim
  cmp := fun x hx => by simp at hx

theorem next_skip {r : Re} {anyw : Bool} {at0 i : Nat} {F : List Int} {ok : Bool} {frm : Int} {L1 F' L' : List Int} {x : Int} {st : St} (h : NextI b len r anyw at0 i F ok frm L1 F' L') (hst : (mac r)[x.toNat]? = some st)
    (hs : st.set = none ∨ (ok = true ∧ frm < fa F x) ∨ ∃ f, st.set = some f ∧ f (b i) = false) : NextI b len r anyw at0 i F ok frm (L1 ++ [x]) F' L' where
  set := h.set
  snd := h.snd
  cmp := fun x' hx' hns st' f hst' hf hb => by
    rcases List.mem_append.1 hx' with hx' | hx'
    · exact h.cmp x' hx' hns st' f hst' hf hb
    · simp at hx'
      subst hx'
      rw [hst] at hst'
      injection hst' with hst'
      subst hst'
      rcases hs with hs | hs | ⟨g, hg, hgb⟩
      · rw [hs] at hf; cases hf
      · exact (hns hs).elim
      · rw [hg] at hf; injection hf with hf; subst hf; rw [hb] at hgb; cases hgb

theorem next_meet {r : Re} {anyw : Bool} {at0 i : Nat} {F L : List Int} {ok : Bool} {frm frm0 : Int} {ok0 : Bool} {L1 F' L' F'' L'' : List Int} {x : Int} {st : St} {f : Int → Bool} (hi : i < len) (hR : RunI b len r anyw at0 i F L ok0 frm0) (hx : x ∈ L) (h : NextI b len r anyw at0 i F ok frm L1 F' L') (hst : (mac r)[x.toNat]? = some st)
    (hf : st.set = some f) (hfb : f (b i) = true) (hs : SetOk (mac r) F'' L'') (hm : Met (mac r) F' F'' st.next (fa F x)) : NextI b len r anyw at0 i F ok frm (L1 ++ [x]) F'' L'' where
  set := hs
  snd := fun y a1 a2 a3 => by
    rcases hm.snd y a1 a2 with e | ⟨e, he⟩
    · rw [e] at a3 ⊢; exact h.snd y a1 a2 a3
    · obtain ⟨c1, c2, c3⟩ := (hR.set.mem x).1 hx
      obtain ⟨a, ea, ha, hai, hr⟩ := hR.snd x c1 c2 c3
      refine ⟨a, by rw [e, ea], ha, hai, hr.trans (.step trivial ⟨st, c1, hst, .inr ⟨f, hf, hi, hfb, rfl, rfl⟩⟩ (he.pth _))⟩
  cmp := fun x' hx' hns st' f' hst' hf' hb y a1 a2 e => by
    rcases List.mem_append.1 hx' with hx' | hx'
    · obtain ⟨q1, q2⟩ := h.cmp x' hx' hns st' f' hst' hf' hb y a1 a2 e
      obtain ⟨q3, q4⟩ := hm.mono y a1 a2 q1
      exact ⟨q3, by omega⟩
    · simp at hx'
      subst hx'
      rw [hst] at hst'
      injection hst' with hst'
      subst hst'
      exact hm.reach y a1 a2 e

/-- The next place is reached. -/
theorem next_run {r : Re} {anyw : Bool} {at0 i : Nat} {F L : List Int} {ok : Bool} {frm : Int} {F' L' F'' L'' : List Int} (hi : at0 ≤ i) (hR : RunI b len r anyw at0 i F L ok frm) (hN : NextI b len r anyw at0 i F ok frm L F' L') (hok : ok = true → frm ≤ i)
    (hlast : (anyw = true ∧ ok = false ∧ SetOk (mac r) F'' L'' ∧ Met (mac r) F' F'' (start r) ((i + 1 : Nat) : Int)) ∨ (¬ (anyw = true ∧ ok = false) ∧ F'' = F' ∧ L'' = L')) : RunI b len r anyw at0 (i + 1) F'' L'' ok frm := by
  have hmono : ∀ y : Int, 0 ≤ y → y < (mac r).length → fa F' y ≠ -1 → fa F'' y ≠ -1 ∧ fa F'' y ≤ fa F' y := by
    rcases hlast with ⟨_, _, _, hm⟩ | ⟨_, rfl, rfl⟩
    · exact hm.mono
    · exact fun y _ _ h => ⟨h, Int.le_refl _⟩
  refine ⟨?_, ?_, ?_⟩
  · rcases hlast with ⟨_, _, hs, _⟩ | ⟨_, rfl, rfl⟩
    · exact hs
    · exact hN.set
  · intro y a1 a2 a3
    rcases hlast with ⟨han, _, _, hm⟩ | ⟨_, rfl, rfl⟩
    · rcases hm.snd y a1 a2 with e | ⟨e, he⟩
      · rw [e] at a3 ⊢
        obtain ⟨a, h1, h2, h3, h4⟩ := hN.snd y a1 a2 a3
        exact ⟨a, h1, h2, by omega, h4⟩
      · exact ⟨i + 1, e, ⟨by omega, fun c => by rw [han] at c; cases c⟩, Nat.le_refl _, he.pth _⟩
    · obtain ⟨a, h1, h2, h3, h4⟩ := hN.snd y a1 a2 a3
      exact ⟨a, h1, h2, by omega, h4⟩
  · intro a ha hai hrel y a1 a2 p
    by_cases hai' : a ≤ i
    · rcases p.last with ⟨e, _⟩ | ⟨m, x, st, f, em, p1, x0, x1, x2, x3, x4, x5⟩
      · omega
      · have hmi : m = i := by omega
        subst hmi
        have hxl : x < (mac r).length := by have := (List.getElem?_eq_some_iff.1 x1).1; omega
        obtain ⟨q1, q2⟩ := hR.cmp a ha hai' hrel x x0 hxl p1
        have hxL := (hR.set.mem x).2 ⟨x0, hxl, q1⟩
        obtain ⟨q3, q4⟩ := hN.cmp x hxL (fun c => by have := hrel c.1; omega) st f x1 x2 x4 y a1 a2 x5
        obtain ⟨q5, q6⟩ := hmono y a1 a2 q3
        exact ⟨q5, by omega⟩
    · have hae : a = i + 1 := by omega
      subst hae
      rcases hlast with ⟨han, hno, _, hm⟩ | ⟨hno, rfl, rfl⟩
      · rcases p.last with ⟨_, e⟩ | ⟨m, x, st, f, em, p1, _⟩
        · exact hm.reach y a1 a2 e
        · have := p1.le; omega
      · exfalso
        by_cases han : anyw = true
        · have hk : ok = true := by
            cases ok with
            | true => rfl
            | false => exact (hno ⟨han, rfl⟩).elim
          have := hrel hk
          have := hok hk
          omega
        · have := ha.2 (by simpa using han)
          omega

/-- At the beginning. -/
theorem run_start {r : Re} {anyw : Bool} {at0 : Nat} {F0 F L : List Int} (hF : ∀ y : Int, 0 ≤ y → y < (mac r).length → fa F0 y = -1) (hs : SetOk (mac r) F L) (hm : Met (mac r) F0 F (start r) at0) :
    RunI b len r anyw at0 at0 F L false 0 ∧ (Best b len r anyw at0 at0 false 0 0) := by
  refine ⟨⟨hs, fun y a1 a2 a3 => ?_, fun a ha hle _ y a1 a2 p => ?_⟩, ⟨fun _ a j ha hj hm => ?_, fun c => by cases c⟩⟩
  · rcases hm.snd y a1 a2 with e | ⟨e, he⟩
    · rw [e, hF y a1 a2] at a3; exact (a3 rfl).elim
    · exact ⟨at0, e, ⟨Nat.le_refl _, fun _ => rfl⟩, Nat.le_refl _, he.pth _⟩
  · have hae : a = at0 := by have := ha.1; omega
    subst hae
    rcases p.last with ⟨_, e⟩ | ⟨m, x, st, f, em, p1, _⟩
    · exact hm.reach y a1 a2 e
    · have := p1.le; omega
  · have := ((reach_mt r a j).2 hm).le
    have := ha.1
    omega
end
end Go.Proofs.Ytdgidcfmggmbiaa.Re
namespace Go.Proofs.Ytdgidcfmggmbiaa.Re
set_option linter.unusedVariables false
set_option linter.unusedSimpArgs false

mutual
theorem mt_ord (b : Nat → Int) (len : Nat) : ∀ (r : Re) (i j : Nat), mt b len r i j → i ≤ j
  | .set f, i, j, h => by rw [mt] at h; omega
  | .cat l, i, j, h => by rw [mt] at h; exact seq_ord b len l i j h
  | .alt l, i, j, h => by rw [mt] at h; exact any_ord b len l i j h
  | .star r, i, j, h => by
    rw [mt] at h
    induction h with
    | refl i => exact Nat.le_refl _
    | step h1 _ ih => exact Nat.le_trans (mt_ord b len r _ _ h1) ih
  | .plus r, i, j, h => by
    rw [mt] at h
    obtain ⟨m, h1, h2⟩ := h
    refine Nat.le_trans (mt_ord b len r _ _ h1) ?_
    clear h1
    induction h2 with
    | refl i => exact Nat.le_refl _
    | step h1 _ ih => exact Nat.le_trans (mt_ord b len r _ _ h1) ih
  | .maybe r, i, j, h => by
    rw [mt] at h
    rcases h with h | h
    · exact Nat.le_of_eq h
    · exact mt_ord b len r _ _ h
theorem seq_ord (b : Nat → Int) (len : Nat) : ∀ (l : List Re) (i j : Nat), seqM b len l i j → i ≤ j
  | [], i, j, h => by rw [seqM] at h; exact Nat.le_of_eq h
  | r :: l, i, j, h => by
    rw [seqM] at h
    obtain ⟨m, h1, h2⟩ := h
    exact Nat.le_trans (mt_ord b len r _ _ h1) (seq_ord b len l _ _ h2)
theorem any_ord (b : Nat → Int) (len : Nat) : ∀ (l : List Re) (i j : Nat), anyM b len l i j → i ≤ j
  | [], i, j, h => by rw [anyM] at h; exact h.elim
  | r :: l, i, j, h => by
    rw [anyM] at h
    rcases h with h | h
    · exact mt_ord b len r _ _ h
    · exact any_ord b len l _ _ h
end
theorem clo_ord {b : Nat → Int} {len : Nat} {r : Re} {i j : Nat} (h : Clo (mt b len r) i j) : i ≤ j := mt_ord b len (.star r) i j (by rw [mt]; exact h)

/-- The bytes from lo up to hi stand in another text from lo' on. -/
structure Mv (b b' : Nat → Int) (len' lo hi lo' : Nat) : Prop where
  eq : ∀ k, lo ≤ k → k < hi → b' (k - lo + lo') = b k
  fit : hi - lo + lo' ≤ len'
variable {b b' : Nat → Int} {len len' lo hi lo' : Nat}
theorem clo_move {R R' : Nat → Nat → Prop} (ho : ∀ i j, R i j → i ≤ j) (hR : ∀ i j, lo ≤ i → j ≤ hi → R i j → R' (i - lo + lo') (j - lo + lo')) {i j : Nat} (h : Clo R i j) (h1 : lo ≤ i) (h2 : j ≤ hi) : Clo R' (i - lo + lo') (j - lo + lo') := by
  induction h with
  | refl i => exact .refl _
  | step a c ih =>
    have hm := ho _ _ a
    have hc : ∀ {x y : Nat}, Clo R x y → x ≤ y := fun h => by
      induction h with
      | refl i => exact Nat.le_refl _
      | step h1 _ ih => exact Nat.le_trans (ho _ _ h1) ih
    have hm2 := hc c
    exact .step (hR _ _ h1 (by omega) a) (ih (by omega) h2)
mutual
theorem mt_move (H : Mv b b' len' lo hi lo') : ∀ (r : Re) (i j : Nat), lo ≤ i → j ≤ hi → mt b len r i j → mt b' len' r (i - lo + lo') (j - lo + lo')
  | .set f, i, j, h1, h2, h => by
    rw [mt] at h ⊢
    have := H.fit
    refine ⟨by omega, by omega, ?_⟩
    rw [H.eq i h1 (by omega)]; exact h.2.2
  | .cat l, i, j, h1, h2, h => by rw [mt] at h ⊢; exact seq_move H l i j h1 h2 h
  | .alt l, i, j, h1, h2, h => by rw [mt] at h ⊢; exact any_move H l i j h1 h2 h
  | .star r, i, j, h1, h2, h => by
    rw [mt] at h ⊢
    exact clo_move (mt_ord b len r) (fun i j a c d => mt_move H r i j a c d) h h1 h2
  | .plus r, i, j, h1, h2, h => by
    rw [mt] at h ⊢
    obtain ⟨m, h3, h4⟩ := h
    have a := mt_ord b len r _ _ h3
    have c := clo_ord h4
    exact ⟨m - lo + lo', mt_move H r i m h1 (by omega) h3, clo_move (mt_ord b len r) (fun i j a c d => mt_move H r i j a c d) h4 (by omega) h2⟩
  | .maybe r, i, j, h1, h2, h => by
    rw [mt] at h ⊢
    rcases h with h | h
    · exact .inl (by rw [h])
    · exact .inr (mt_move H r i j h1 h2 h)
theorem seq_move (H : Mv b b' len' lo hi lo') : ∀ (l : List Re) (i j : Nat), lo ≤ i → j ≤ hi → seqM b len l i j → seqM b' len' l (i - lo + lo') (j - lo + lo')
  | [], i, j, h1, h2, h => by rw [seqM] at h ⊢; rw [h]
  | r :: l, i, j, h1, h2, h => by
    rw [seqM] at h ⊢
    obtain ⟨m, h3, h4⟩ := h
    have a := mt_ord b len r _ _ h3
    have c := seq_ord b len l _ _ h4
    exact ⟨m - lo + lo', mt_move H r i m h1 (by omega) h3, seq_move H l m j (by omega) h2 h4⟩
theorem any_move (H : Mv b b' len' lo hi lo') : ∀ (l : List Re) (i j : Nat), lo ≤ i → j ≤ hi → anyM b len l i j → anyM b' len' l (i - lo + lo') (j - lo + lo')
  | [], i, j, h1, h2, h => by rw [anyM] at h; exact h.elim
  | r :: l, i, j, h1, h2, h => by
    rw [anyM] at h ⊢
    rcases h with h | h
    · exact .inl (mt_move H r i j h1 h2 h)
    · exact .inr (any_move H l i j h1 h2 h)
end
end Go.Proofs.Ytdgidcfmggmbiaa.Re
namespace Go.Proofs.Ytdgidcfmggmbiaa.Re
set_option linter.unusedVariables false
set_option linter.unusedSimpArgs false

/-- The bytes cs stand at i. -/
def Stands (b : Nat → Int) (len : Nat) (cs : List Int) (i : Nat) : Prop := i + cs.length ≤ len ∧ ∀ k (h : k < cs.length), b (i + k) = cs[k]
theorem seq_ones (b : Nat → Int) (len : Nat) (g : Int → Int → Bool) (hg : ∀ c x, g c x = true ↔ x = c) : ∀ (cs : List Int) (i j : Nat), i ≤ len → (seqM b len (cs.map fun c => .set (g c)) i j ↔ j = i + cs.length ∧ Stands b len cs i)
  | [], i, j, hi => by
    rw [List.map_nil, seqM]
    constructor
    · intro h; exact ⟨by simp [h], by simpa using hi, fun k h => absurd h (by simp)⟩
    · rintro ⟨h, _⟩; simpa using h.symm
  | c :: cs, i, j, hi => by
    rw [List.map_cons, seqM]
    constructor
    · rintro ⟨m, h1, h2⟩
      rw [mt] at h1
      obtain ⟨h3, h4, h5⟩ := h1
      subst h4
      obtain ⟨e, h6, h7⟩ := (seq_ones b len g hg cs (i + 1) j (by omega)).1 h2
      refine ⟨by rw [e, List.length_cons]; omega, by rw [List.length_cons]; omega, fun k hk => ?_⟩
      cases k with
      | zero => simpa using (hg _ _).1 h5
      | succ k =>
        have := h7 k (by simpa using hk)
        rw [show i + (k + 1) = i + 1 + k by omega, this]; simp
    · rintro ⟨e, h6, h7⟩
      rw [List.length_cons] at e h6
      refine ⟨i + 1, ?_, ?_⟩
      · rw [mt]
        exact ⟨by omega, rfl, (hg _ _).2 (h7 0 (Nat.succ_pos _))⟩
      · refine (seq_ones b len g hg cs (i + 1) j (by omega)).2 ⟨by omega, by omega, fun k hk => ?_⟩
        have := h7 (k + 1) (by simpa using hk)
        rw [show i + 1 + k = i + (k + 1) by omega, this]; simp
end Go.Proofs.Ytdgidcfmggmbiaa.Re
