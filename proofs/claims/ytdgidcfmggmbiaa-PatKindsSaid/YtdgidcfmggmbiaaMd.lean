/- rex: a set's node. rex's reader: what a class's walk leans on. -/
import Derived.Test.YtdgidcfmggmbiaaNr
import Derived.Deep.DeepCutAuto
import Derived.Deep.CutRange
namespace Go.Proofs.Ytdgidcfmggmbiaa.Rx
open Go.RowKit Go.Proofs.YtdgidcfmggmbiaaW.PrintWords Go.Proofs.YtdgidcfmggmbiaaW.PrintLast Go.Proofs.YtdgidcfmggmbiaaW.PrintMore Go.Proofs.Ytdgidcfmggmbiaa.PRx
set_option linter.unusedVariables false
set_option linter.unusedSimpArgs false

/-- A tree's value; all its rows are newer than B. -/
def Tree (w : World) (B : Nat) (v : Value) (t : S30) : Prop := ∃ A1 n1 c1 A2 n2 c2, v = .agg #[.int .i64 t.f0, .slice A1 n1 c1, .slice A2 n2 c2] ∧ Kd.R k98 98 w B (fun _ => True) (.slice A1 n1 c1) t.f1 ∧ Kd.R k30 30 w B (fun _ => True) (.slice A2 n2 c2) t.f2
theorem Tree.lower {w : World} {B B' : Nat} {v : Value} {t : S30} (h : Tree w B v t) (hb : B' ≤ B) : Tree w B' v t := by
  obtain ⟨A1, n1, c1, A2, n2, c2, h1, h2, h3⟩ := h
  exact ⟨A1, n1, c1, A2, n2, c2, h1, Kd.R_lower h2 hb, Kd.R_lower h3 hb⟩
/-- Old blocks are written: the rows stay. -/
theorem R_old {α : Type} {d : Kd α} {e : Nat} {w w' : World} {B : Nat} {v : Value} {xs : List α} (h : Kd.R d e w B (fun _ => True) v xs) (hk : ∀ k, B ≤ k → k < w.heap.size → w'.heap[k]? = w.heap[k]?) : Kd.R d e w' B (fun _ => True) v xs :=
  Kd.R_mono (Kd.R_move (Kd.R_bound h) (fun k hk1 => hk k hk1.2.1 hk1.2.2.1)) (fun _ _ => trivial)
theorem Tree.old {w w' : World} {B : Nat} {v : Value} {t : S30} (h : Tree w B v t) (hk : ∀ k, B ≤ k → k < w.heap.size → w'.heap[k]? = w.heap[k]?) : Tree w' B v t := by
  obtain ⟨A1, n1, c1, A2, n2, c2, h1, h2, h3⟩ := h
  exact ⟨A1, n1, c1, A2, n2, c2, h1, R_old h2 hk, R_old h3 hk⟩
theorem Tree.far {w : World} {B : Nat} {v : Value} {t : S30} {p : Addr} (h : Tree w B v t) (hp : p.block < B) (u : Value) : Tree (w.setCell p u) B v t := h.old (fun k h1 _ => Below.heap_setCell w p u k (by omega))
theorem al_size (w : World) (o : Obj) : (w.alloc o).heap.size = w.heap.size + 1 := World.size_alloc ..
theorem store3 {w : World} {g : Nat} {t : TypeId} {c0 c1 c2 : Value} (h : w.heap[g]? = some (.cells #[c0, c1, c2] t (0, 0))) (u0 u1 u2 : Value) : (((w.setCell ⟨g, 0, none⟩ u0).setCell ⟨g, 1, none⟩ u1).setCell ⟨g, 2, none⟩ u2).heap[g]? = some (.cells #[u0, u1, u2] t (0, 0)) := by
  have a := blk_set h 0 u0
  have b := blk_set a 1 u1
  have c := blk_set b 2 u2
  simpa using c
theorem size30 : (Try.prog.info? 30).map (·.size) = some 3 := by kernel_rfl
/-- A struct below the rows is written. -/
theorem far3 {α : Type} {d : Kd α} {e : Nat} {w : World} {B B' g : Nat} {v : Value} {xs : List α} {u0 u1 u2 : Value} (h : Kd.R d e w B' (fun _ => True) v xs) (hg : g < B') (hb : B ≤ B' := by simp) : Kd.R d e (((w.setCell ⟨g, 0, none⟩ u0).setCell ⟨g, 1, none⟩ u1).setCell ⟨g, 2, none⟩ u2) B (fun _ => True) v xs := by
  refine Kd.R_lower (R_old h fun k h1 _ => ?_) hb
  rw [Below.heap_setCell _ ⟨g, 2, none⟩ u2 k (by show k ≠ g; omega), Below.heap_setCell _ ⟨g, 1, none⟩ u1 k (by show k ≠ g; omega), Below.heap_setCell _ ⟨g, 0, none⟩ u0 k (by show k ≠ g; omega)]
theorem below3 {w0 w : World} {B g : Nat} {u0 u1 u2 : Value} (h : Below B w0 w) (hg : B ≤ g := by simp) : Below B w0 (((w.setCell ⟨g, 0, none⟩ u0).setCell ⟨g, 1, none⟩ u1).setCell ⟨g, 2, none⟩ u2) := ((h.setCell (p := ⟨g, 0, none⟩) hg u0).setCell (p := ⟨g, 1, none⟩) hg u1).setCell (p := ⟨g, 2, none⟩) hg u2

set_option maxHeartbeats 1000000 in
theorem set_any {w : World} {A : Option Addr} {c : Nat} {rs : List S98} (neg : Bool) (hl : rs.length ≤ c) (hC : Kd.C k98 w A rs.length rs) (hf : Fit rs) :
    Calls Try.prog 70 #[.bool neg, .slice A rs.length c] w fun e w' => ∃ v, e = .returned v ∧ Tree w' w.heap.size v (setN neg rs) ∧ Below w.heap.size w w' := by
  have hb0 : Below w.heap.size w (w.alloc (.cells #[.int .i64 0, .slice none 0 0, .slice none 0 0] 30)) := (Below.refl w.heap.size w).alloc (Nat.le_refl _) _
  have HR := Lib.hid (ranges_any neg hl (Kd.C_below hC hb0) hf)
  have HB0 := Lib.hid hb0
  have hg0 := blk_new w (.cells #[.int .i64 0, .slice none 0 0, .slice none 0 0] 30)
  have HG0 := Lib.hid hg0
  clear hC hf hb0 hg0
  go_enter Try.func70, Try.ntmps70
  go_wp2_with (first | (go_at_call 54; refine HR.out.mono ?_; rintro e w1 ⟨v, rfl, hr, hb⟩; (obtain ⟨A1, n1, c1, rfl⟩ : ∃ A n c, v = .slice A n c := by obtain ⟨A, c, e⟩ := Kd.R_slice hr; exact ⟨A, _, c, e⟩); have h1 := blk_below HG0.out hb; have f0 := blk_cell h1 0; have f1 := blk_cell h1 1; have f2 := blk_cell h1 2; have f3 := blk_frozen h1 0; have f4 := blk_frozen h1 1; have f5 := blk_frozen h1 2; (simp only [List.getElem?_toArray, List.getElem?_cons_zero, List.getElem?_cons_succ] at f0 f1 f2); have H1 := Lib.hid h1; have HR1 := Lib.hid hr; have HB1 := Lib.hid hb; clear h1 hr hb))
  have hg := store3 H1.out (.int .i64 1) (.slice A1 n1 c1) (.slice none 0 0)
  refine bodyPost_ret (results_cell_row (p := 4) rfl _ _ w.heap.size 30 _ (0, 0) _ rfl hg Try.underlying30 rfl size30) rfl ?_
  exact ⟨_, rfl, ⟨A1, n1, c1, none, 0, 0, rfl, far3 HR1.out (by rw [al_size]; exact Nat.lt_succ_self _), Kd.R_nil _ _ _ _ _⟩, below3 (HB0.out.trans (HB1.out.mono (by rw [al_size]; exact Nat.le_succ _)))⟩
end Go.Proofs.Ytdgidcfmggmbiaa.Rx
namespace Go.Proofs.Ytdgidcfmggmbiaa.Rx
open Go.RowKit Go.Proofs.YtdgidcfmggmbiaaW.PrintWords Go.Proofs.YtdgidcfmggmbiaaW.PrintLast Go.Proofs.YtdgidcfmggmbiaaW.PrintMore Go.Proofs.Ytdgidcfmggmbiaa.PRx
set_option linter.unusedVariables false
set_option linter.unusedSimpArgs false

theorem bI_extract (s : ByteArray) (i j : Nat) : bI (s.extract i j) = ((bI s).drop i).take (j - i) := by
  simp only [bI, ByteArray.data_extract, Array.toList_extract, List.extract_eq_take_drop, List.map_take, List.map_drop]
theorem bI_inj_list (a b : ByteArray) : (a.toList == b.toList) = (bI a == bI b) := by
  rw [ByteArray.toList_eq, ByteArray.toList_eq, Bool.eq_iff_iff, beq_iff_eq, beq_iff_eq]
  constructor
  · intro h; simp only [bI, h]
  · intro h
    refine (List.map_inj_right ?_).mp h
    intro x y hxy
    have : x.toNat = y.toNat := Int.ofNat.inj hxy
    exact UInt8.toNat_inj.mp this
theorem prefix_any (t : ByteArray) (w : World) : Calls Try.prog 52 #[.string t, .string ⟨#[45]⟩] w fun e w' => e = .returned (.bool (decide ((bI t).head? = some 45))) ∧ ∃ q, w' = w.drewN q := by
  have e1 : (⟨#[45]⟩ : ByteArray).size = 1 := rfl
  have h : strings_HasPrefix.f t ⟨#[45]⟩ = some (decide ((bI t).head? = some 45)) := by
    unfold strings_HasPrefix.f stringslite_HasPrefix.f
    rw [e1]
    have hl := bI_len t
    by_cases h0 : (t.size : Int) ≥ ((1 : Nat) : Int)
    · rw [if_pos h0, if_pos (by omega), if_pos (by omega), bI_inj_list, bI_extract]
      show some ((((bI t).drop 0).take (1 - 0)) == bI ⟨#[45]⟩) = _
      cases hb : bI t with
      | nil => rw [hb] at hl; simp only [List.length_nil] at hl; omega
      | cons c l =>
        have e : bI ⟨#[45]⟩ = [45] := rfl
        rw [e]
        congr 1
        rw [Bool.eq_iff_iff]
        simp
    · rw [if_neg h0]
      cases hb : bI t with
      | nil => rfl
      | cons c l => rw [hb] at hl; simp only [List.length_cons] at hl; omega
  refine (strings_HasPrefix.calls t _ _ w h).mono ?_
  rintro e w' ⟨he, hd⟩
  exact ⟨he, hd.out⟩
/-- What is left, as a text. -/
theorem At.tail_text {w : World} {g : Nat} {s : ByteArray} {r : List Int} (h : At w g s r) : ∃ (i : Int) (t : ByteArray), w.cell? ⟨g, 0, none⟩ = some (.string s) ∧ w.cell? ⟨g, 1, none⟩ = some (.int .i64 i) ∧ w.frozen? ⟨g, 1, none⟩ = false ∧ 0 ≤ i ∧ i + (r.length : Int) = (s.size : Int) ∧ (s.size : Int) ≤ 256 ∧
    (∀ W : World, (Instr.slice 9 (.string s) (some (.int .i64 i)) none none).run Try.prog W = .ok (.string t) W) ∧ bI t = r := by
  obtain ⟨⟨i, h1, h2, h3, h4⟩, h5⟩ := h
  refine ⟨i, s.extract i.toNat s.size, blk_cell h1 0, blk_cell h1 1, blk_frozen h1 1, h2, h3, by omega, ?_, ?_⟩
  · intro W
    exact run_slice_string_l W 9 s Try.underlying9 .i64 i h2 (by omega)
  · rw [bI_extract, h4, List.take_of_length_le (by omega)]
/-- Is a byte here? It is taken then. -/
def isB (c : Int) (r : List Int) : Bool := decide (r.head? = some c)
def isT (c : Int) (r : List Int) : List Int := if r.head? = some c then r.tail else r
theorem is_any {w : World} {g : Nat} {s : ByteArray} {r : List Int} (h : At w g s r) (c : Int) : Calls Try.prog 50 #[.pointer (some ⟨g, 0, none⟩), .int .u8 c] w (Got w g s (.bool (isB c r)) (isT c r)) := by
  cases r with
  | nil =>
    refine (is_nil h c).mono ?_
    rintro e w' ⟨rfl, q, rfl⟩
    exact ⟨rfl, keep_drewN (KeepBut.refl w g none) q, h.drewN q⟩
  | cons d r =>
    by_cases hd : d = c
    · subst hd
      have e1 : isB d (d :: r) = true := by simp [isB]
      have e2 : isT d (d :: r) = r := by simp [isT]
      rw [e1, e2]
      exact is_yes h
    · have e1 : isB c (d :: r) = false := by simp [isB, hd]
      have e2 : isT c (d :: r) = d :: r := by simp [isT, hd]
      rw [e1, e2]
      refine (is_no h hd).mono ?_
      rintro e w' ⟨rfl, q, rfl⟩
      exact ⟨rfl, keep_drewN (KeepBut.refl w g none) q, h.drewN q⟩
theorem At.char2 {w : World} {g : Nat} {s : ByteArray} {c d : Int} {r : List Int} (h : At w g s (c :: d :: r)) : ∃ i : Int, w.cell? ⟨g, 0, none⟩ = some (.string s) ∧ w.cell? ⟨g, 1, none⟩ = some (.int .i64 i) ∧ w.frozen? ⟨g, 1, none⟩ = false ∧ 0 ≤ i ∧ i + (r.length : Int) + 2 = (s.size : Int) ∧ (s.size : Int) ≤ 256 ∧
    (∀ W : World, (Instr.index 9 (.string s) (.int .i64 (i + 1))).run Try.prog W = .ok (.int .u8 d) W) := by
  obtain ⟨⟨i, h1, h2, h3, h4⟩, h5⟩ := h
  have h6 : (bI s).drop (i.toNat + 1) = d :: r := by rw [← List.drop_drop, h4]; rfl
  obtain ⟨hi, hc⟩ := bI_get h6
  simp only [List.length_cons] at h3
  refine ⟨i, blk_cell h1 0, blk_cell h1 1, blk_frozen h1 1, h2, by omega, by omega, ?_⟩
  intro W
  have e : (i + 1).toNat = i.toNat + 1 := by omega
  rw [run_index_string W 9 s .i64 (i + 1) Try.underlying9, dif_pos ⟨by omega, by omega⟩]
  simp only [e, hc]
theorem At.tail2 {w : World} {g : Nat} {s : ByteArray} {c d : Int} {r : List Int} (h : At w g s (c :: d :: r)) : ∃ (i : Int) (t : ByteArray), w.cell? ⟨g, 0, none⟩ = some (.string s) ∧ w.cell? ⟨g, 1, none⟩ = some (.int .i64 i) ∧ w.frozen? ⟨g, 1, none⟩ = false ∧ 0 ≤ i ∧ i + (r.length : Int) + 2 = (s.size : Int) ∧ (s.size : Int) ≤ 256 ∧
    (∀ W : World, (Instr.slice 9 (.string s) (some (.int .i64 i)) none none).run Try.prog W = .ok (.string t) W) ∧ bI t = c :: d :: r ∧ (∀ W : World, (Instr.index 9 (.string s) (.int .i64 (i + 1))).run Try.prog W = .ok (.int .u8 d) W) := by
  obtain ⟨i, t, f0, f1, f2, h1, h2, h3, h4, h5⟩ := h.tail_text
  obtain ⟨i', _, f1', _, _, h2', _, h6⟩ := h.char2
  rw [f1] at f1'
  have e : i = i' := by injection f1' with e; injection e
  subst e
  exact ⟨i, t, f0, f1, f2, h1, h2', h3, h4, h5, h6⟩
theorem prefix_is (t : ByteArray) (b : Bool) (h : decide ((bI t).head? = some 45) = b) (w : World) : Calls Try.prog 52 #[.string t, .string ⟨#[45]⟩] w fun e w' => e = .returned (.bool b) ∧ ∃ q, w' = w.drewN q := by
  rw [← h]; exact prefix_any t w
theorem At.rng {w : World} {g : Nat} {s : ByteArray} {r : List Int} (h : At w g s r) : ∀ x, x ∈ r → 0 ≤ x ∧ x < 256 := by
  obtain ⟨⟨i, h1, h2, h3, h4⟩, h5⟩ := h
  intro x hx
  rw [← h4] at hx
  exact bI_rng s x (List.mem_of_mem_drop hx)
theorem esc_rng {k : Nat} {xs r : List Int} {v : Int} (hx : ∀ x, x ∈ xs → 0 ≤ x ∧ x < 256) (h : escR k xs = .ok v r) : 0 ≤ v ∧ v < 256 := by
  cases xs with
  | nil => cases h
  | cons c xs =>
    have := hx c (by simp)
    rw [escR] at h
    repeat' split at h
    all_goals first | (cases h; done) | (injection h with h1 h2; omega)
theorem item_rng {xs r : List Int} {v : Int} (hx : ∀ x, x ∈ xs → 0 ≤ x ∧ x < 256) (h : itemR xs = .ok v r) : 0 ≤ v ∧ v < 256 := by
  cases xs with
  | nil => cases h
  | cons c xs =>
    rw [itemR] at h
    split at h
    · exact esc_rng (fun x h => hx x (by simp [h])) h
    · have := hx c (by simp)
      injection h with h1 h2; omega
theorem class_eq (r : List Int) : classR r = if (isT 94 r).head? = some 93 then .err 30 (isT 94 r).length else (clsR ((isT 94 r).length + 1) [] (isT 94 r)).bind fun rs r1 => .ok (setN (isB 94 r) rs) r1 := by
  unfold classR isT isB
  by_cases h : r.head? = some 94
  · simp only [h, if_true, decide_true]
  · simp only [h, if_false, decide_false]
/-- What a walk that makes a tree comes to. -/
def TRes (w : World) (g : Nat) (s : ByteArray) (q : R S30) (e : Ending) (w' : World) : Prop :=
  match q with
  | .ok t r => ∃ v, e = .returned v ∧ Tree w' w.heap.size v t ∧ KeepBut w w' g none ∧ At w' g s r
  | .err c k => Fell w g s c k e w'
/-- The dash's test. -/
theorem At.moved {w : World} {g : Nat} {s : ByteArray} {r : List Int} {o : Obj} (h : At w g s r) : At (w.alloc o) g s r := by
  obtain ⟨⟨i, h1, h2⟩, h5⟩ := h
  exact ⟨⟨i, blk_alloc h1 o, h2⟩, h5⟩
theorem At.below {w w1 : World} {g : Nat} {s : ByteArray} {r : List Int} (h : At w g s r) (hb : Below w.heap.size w w1) : At w1 g s r := by
  obtain ⟨⟨i, h1, h2⟩, h5⟩ := h
  exact ⟨⟨i, blk_below h1 hb, h2⟩, h5⟩
theorem At.belowB {w w1 : World} {B g : Nat} {s : ByteArray} {r : List Int} (h : At w g s r) (hb : Below B w w1) (hg : g < B) : At w1 g s r := by
  obtain ⟨⟨i, h1, h2⟩, h5⟩ := h
  exact ⟨⟨i, (hb.block g hg).trans h1, h2⟩, h5⟩
theorem keep_belowB {w w1 w2 : World} {g : Nat} (h : KeepBut w w1 g none) (hb : Below w.heap.size w1 w2) (hs : w1.heap.size ≤ w2.heap.size) : KeepBut w w2 g none :=
  ⟨Nat.le_trans h.1 hs, fun k hk hn hr => (hb.block k hk).trans (h.2 k hk hn hr), hb.os.trans h.os, hb.tape.trans h.tape, hb.output.trans h.output⟩
theorem dash_no {c : Int} {r : List Int} (h : c ≠ 45) : dash (c :: r) = false := by
  unfold dash
  split
  · rename_i h2; exact absurd (List.cons.inj h2).1 h
  · rfl
theorem info98 : (Try.prog.info? 98).map (fun i => (i.zero, i.size, i.bytes)) = some (some (.agg #[.int .u8 0, .int .u8 0]), 2, 2) := by kernel_rfl
theorem info30 : (Try.prog.info? 30).map (fun i => (i.zero, i.size, i.bytes)) = some (some (.agg #[.int .i64 0, .slice none 0 0, .slice none 0 0]), 3, 56) := by kernel_rfl
theorem At.far {w : World} {g : Nat} {s : ByteArray} {r : List Int} (h : At w g s r) {p : Addr} (hne : g ≠ p.block) (u : Value) : At (w.setCell p u) g s r := by
  obtain ⟨⟨i, h1, h2⟩, h5⟩ := h
  exact ⟨⟨i, (Below.heap_setCell w p u g hne).trans h1, h2⟩, h5⟩
theorem At.far3 {w : World} {g : Nat} {s : ByteArray} {r : List Int} (h : At w g s r) {q : Nat} (hne : g ≠ q) {u0 u1 u2 : Value} : At (((w.setCell ⟨q, 0, none⟩ u0).setCell ⟨q, 1, none⟩ u1).setCell ⟨q, 2, none⟩ u2) g s r :=
  ((h.far (p := ⟨q, 0, none⟩) hne u0).far (p := ⟨q, 1, none⟩) hne u1).far (p := ⟨q, 2, none⟩) hne u2
theorem R_kept {α : Type} {d : Kd α} {e : Nat} {w w' : World} {B g : Nat} {v : Value} {xs : List α} (h : Kd.R d e w B (fun _ => True) v xs) (hk : KeepBut w w' g none) (hg : g < B) : Kd.R d e w' B (fun _ => True) v xs :=
  R_old h fun k h1 h2 => hk.2 k h2 (by omega) (by simp)
theorem Tree.kept {w w' : World} {B g : Nat} {v : Value} {t : S30} (h : Tree w B v t) (hk : KeepBut w w' g none) (hg : g < B) : Tree w' B v t := h.old fun k h1 h2 => hk.2 k h2 (by omega) (by simp)
theorem blk_kept_ {w w' : World} {g q : Nat} {o : Obj} (h : w.heap[q]? = some o) (hk : KeepBut w w' g none) (hne : q ≠ g) : w'.heap[q]? = some o := (hk.2 q (blk_lt h) hne (by simp)).trans h
theorem keep_below {w w1 w2 : World} {g : Nat} (h : KeepBut w w1 g none) (hb : Below w1.heap.size w1 w2) : KeepBut w w2 g none :=
  ⟨Nat.le_trans h.1 hb.size, fun k hk hn hr => (hb.block k (Nat.lt_of_lt_of_le hk h.1)).trans (h.2 k hk hn hr), hb.os.trans h.os, hb.tape.trans h.tape, hb.output.trans h.output⟩
theorem keep_far3 {w w1 : World} {g q : Nat} {u0 u1 u2 : Value} (h : KeepBut w w1 g none) (hq : w.heap.size ≤ q) : KeepBut w (((w1.setCell ⟨q, 0, none⟩ u0).setCell ⟨q, 1, none⟩ u1).setCell ⟨q, 2, none⟩ u2) g none :=
  keep_far (keep_far (keep_far h (p := ⟨q, 0, none⟩) hq u0) (p := ⟨q, 1, none⟩) hq u1) (p := ⟨q, 2, none⟩) hq u2
/-- What is kept from behind an alloc is kept. -/
theorem sub_keep {w w1 : World} {g : Nat} {o : Obj} (h : KeepBut (w.alloc o) w1 g none) (hg : g < w.heap.size) : KeepBut w w1 g none := (keep_alloc (KeepBut.refl w g none) o).trans h (.inl rfl)
theorem isT_no {c : Int} {r : List Int} (h : isB c r = false) : isT c r = r := by
  unfold isB at h; unfold isT; rw [if_neg (of_decide_eq_false h)]
theorem isT_yes {c : Int} {r : List Int} (h : isB c r = true) : isT c r = r.tail := by
  unfold isB at h; unfold isT; rw [if_pos (of_decide_eq_true h)]
theorem At.lt {w : World} {g : Nat} {s : ByteArray} {r : List Int} (h : At w g s r) : g < w.heap.size := by
  obtain ⟨⟨i, h1, h2⟩, h5⟩ := h
  exact blk_lt h1
end Go.Proofs.Ytdgidcfmggmbiaa.Rx
