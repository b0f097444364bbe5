/- rex's reader: its little functions. -/
import Derived.Test.YtcdkooebhpfknaaPl
import Derived.Test.YtcdkooebhpfknaaPa
import Derived.Lib.Hide
import Derived.Outline
import Derived.WalkLawsBesides
import Derived.BigQuiet
namespace Go.Proofs.Ytcdkooebhpfknaa.Rx
open Go.RowKit Go.Proofs.YtcdkooebhpfknaaW.PrintWords Go.Proofs.YtcdkooebhpfknaaW.PrintLast Go.Proofs.YtcdkooebhpfknaaW.PrintMore Go.Proofs.Ytcdkooebhpfknaa.PRx
set_option linter.unusedVariables false
set_option linter.unusedSimpArgs false

/-- All blocks but g (and the row) are as they were; so is the rest of the world. -/
structure KeepBut (w w' : World) (g : Nat) (row : Option Nat) : Prop where
  size : w.heap.size ≤ w'.heap.size
  block : ∀ i, i < w.heap.size → i ≠ g → some i ≠ row → w'.heap[i]? = w.heap[i]?
  os : w'.os = w.os
  tape : w'.tape = w.tape
  output : w'.output = w.output
theorem KeepBut.old {w w' : World} {g : Nat} {row : Option Nat} (h : KeepBut w w' g row) : Go.Proofs.YtcdkooebhpfknaaW.PrintWords.KeepBut w w' g row := ⟨h.size, h.block⟩
theorem KeepBut.refl (w : World) (g : Nat) (row : Option Nat) : KeepBut w w g row := ⟨Nat.le_refl _, fun _ _ _ _ => rfl, rfl, rfl, rfl⟩
theorem KeepBut.of_below {w w1 : World} (h : Below w.heap.size w w1) (g : Nat) (row : Option Nat) : KeepBut w w1 g row := ⟨h.size, fun i hi _ _ => h.block i hi, h.os, h.tape, h.output⟩
theorem KeepBut.set_ {w w1 : World} {g : Nat} {row : Option Nat} (h : KeepBut w w1 g row) (j : Nat) (u : Value) : KeepBut w (w1.setCell ⟨g, j, none⟩ u) g row :=
  ⟨(h.old.set_ j u).1, (h.old.set_ j u).2, h.os, h.tape, h.output⟩
theorem KeepBut.trans {w w1 w2 : World} {g : Nat} {row row1 : Option Nat} (h : KeepBut w w1 g row) (k : KeepBut w1 w2 g row1) (hr : row1 = row ∨ ∃ b, row1 = some b ∧ w.heap.size ≤ b) : KeepBut w w2 g row :=
  ⟨(h.old.trans k.old hr).1, (h.old.trans k.old hr).2, k.os.trans h.os, k.tape.trans h.tape, k.output.trans h.output⟩
theorem keep_drewN {w W : World} {g : Nat} {row : Option Nat} (h : KeepBut w W g row) (m : Nat) : KeepBut w (W.drewN m) g row := ⟨h.size, h.block, h.os, h.tape, h.output⟩
theorem keep_drew {w W : World} {g : Nat} {row : Option Nat} (h : KeepBut w W g row) : KeepBut w W.drew g row := ⟨h.size, h.block, h.os, h.tape, h.output⟩
theorem keep_alloc {w W : World} {g : Nat} (h : KeepBut w W g none) (o : Obj) : KeepBut w (W.alloc o) g none := h.trans (KeepBut.of_below ((Below.refl W.heap.size W).alloc (Nat.le_refl _) o) g none) (.inl rfl)
theorem keep_far {w W : World} {g : Nat} {row : Option Nat} (h : KeepBut w W g row) {p : Addr} (hp : w.heap.size ≤ p.block) (u : Value) : KeepBut w (W.setCell p u) g row :=
  ⟨(Go.Proofs.YtcdkooebhpfknaaW.PrintWords.keep_far h.old hp u).1, (Go.Proofs.YtcdkooebhpfknaaW.PrintWords.keep_far h.old hp u).2, h.os, h.tape, h.output⟩
/-- What a reader panics with. -/
def bad (c k : Int) : List PanicEntry := [{ v := .iface 42 (.agg #[.int .i64 c, .int .i64 k]), recovered := false }]
/-- The reader at block g stands in s; r is left. -/
structure At (w : World) (g : Nat) (s : ByteArray) (r : List Int) : Prop where
  cell : ∃ i : Int, w.heap[g]? = some (.cells #[.string s, .int .i64 i] 46 (0, 0)) ∧ 0 ≤ i ∧ i + (r.length : Int) = (s.size : Int) ∧ (bI s).drop i.toNat = r
  small : s.size ≤ 256

theorem At.drewN {w : World} {g : Nat} {s : ByteArray} {r : List Int} (h : At w g s r) (n : Nat) : At (w.drewN n) g s r := ⟨h.cell, h.small⟩
theorem At.drew_set {w : World} {g : Nat} {s : ByteArray} {r : List Int} {p : Addr} {v : Value} (h : At (w.setCell p v) g s r) (n : Nat) : At ((w.drewN n).setCell p v) g s r := ⟨h.cell, h.small⟩
theorem At.facts {w : World} {g : Nat} {s : ByteArray} {r : List Int} (h : At w g s r) : ∃ i : Int, w.cell? ⟨g, 0, none⟩ = some (.string s) ∧ w.cell? ⟨g, 1, none⟩ = some (.int .i64 i) ∧ w.frozen? ⟨g, 1, none⟩ = false ∧ 0 ≤ i ∧ i + (r.length : Int) = (s.size : Int) ∧ (s.size : Int) ≤ 256 := by
  obtain ⟨⟨i, h1, h2, h3, h4⟩, h5⟩ := h
  exact ⟨i, blk_cell h1 0, blk_cell h1 1, blk_frozen h1 1, h2, h3, by omega⟩
theorem bI_get {s : ByteArray} {i : Nat} {c : Int} {r : List Int} (h : (bI s).drop i = c :: r) : ∃ hi : i < s.size, ((s[i]'hi).toNat : Int) = c := by
  have hl : i < (bI s).length := by
    have := congrArg List.length h
    simp only [List.length_drop, List.length_cons] at this
    omega
  have hi : i < s.size := by rw [bI_len] at hl; exact hl
  refine ⟨hi, ?_⟩
  rw [List.drop_eq_getElem_cons hl] at h
  have := (List.cons.inj h).1
  rw [← this]
  simp [bI]
  rfl
/-- A byte is left. -/
theorem At.char {w : World} {g : Nat} {s : ByteArray} {c : Int} {r : List Int} (h : At w g s (c :: r)) : ∃ i : Int, w.cell? ⟨g, 0, none⟩ = some (.string s) ∧ w.cell? ⟨g, 1, none⟩ = some (.int .i64 i) ∧ w.frozen? ⟨g, 1, none⟩ = false ∧ 0 ≤ i ∧ i + (r.length : Int) + 1 = (s.size : Int) ∧ (s.size : Int) ≤ 256 ∧
    (∀ W : World, (Instr.index 9 (.string s) (.int .i64 i)).run Try.prog W = .ok (.int .u8 c) W) ∧ At (w.setCell ⟨g, 1, none⟩ (.int .i64 (i + 1))) g s r ∧ 0 ≤ c ∧ c < 256 := by
  obtain ⟨⟨i, h1, h2, h3, h4⟩, h5⟩ := h
  obtain ⟨hi, hc⟩ := bI_get h4
  have hrng := bI_rng s c (List.mem_of_mem_drop (by rw [h4]; exact List.mem_cons_self ..))
  simp only [List.length_cons] at h3
  refine ⟨i, blk_cell h1 0, blk_cell h1 1, blk_frozen h1 1, h2, by omega, by omega, ?_, ⟨⟨i + 1, ?_, by omega, by omega, ?_⟩, h5⟩, hrng⟩
  · intro W
    rw [run_index_string W 9 s .i64 i Try.underlying9, dif_pos ⟨h2, by omega⟩, hc]
  · have := blk_set h1 1 (.int .i64 (i + 1))
    simpa using this
  · have e : (i + 1).toNat = i.toNat + 1 := by omega
    rw [e, ← List.drop_drop, h4]
    rfl
/-- It returned v; the reader stands before r. -/
def Got (w : World) (g : Nat) (s : ByteArray) (v : Value) (r : List Int) (e : Ending) (w' : World) : Prop := e = .returned v ∧ KeepBut w w' g none ∧ At w' g s r
def Fell (w : World) (g : Nat) (s : ByteArray) (c : Int) (k : Nat) (e : Ending) (w' : World) : Prop := e = .panicked (bad c ((s.size : Int) - (k : Int))) ∧ KeepBut w w' g none
def Res (w : World) (g : Nat) (s : ByteArray) (q : R Int) (e : Ending) (w' : World) : Prop :=
  match q with
  | .ok v r => Got w g s (.int .u8 v) r e w'
  | .err c k => Fell w g s c k e w'

theorem fail_any (p : Value) (c k : Int) (w : World) : Calls Try.prog 16 #[p, .int .i64 c, .int .i64 k] w fun e w' => e = .panicked (bad c k) ∧ w' = w := by
  go_enter Try.func16, Try.ntmps16
  go_wp2
  exact ⟨rfl, rfl, rfl⟩
theorem over_any {w : World} {g : Nat} {s : ByteArray} {r : List Int} (h : At w g s r) : Calls Try.prog 15 #[.pointer (some ⟨g, 0, none⟩)] w fun e w' => e = .returned (.bool r.isEmpty) ∧ ∃ q, w' = w.drewN q := by
  obtain ⟨i, f0, f1, f2, h1, h2, h3⟩ := h.facts
  have hv : decide (i ≥ (s.size : Int)) = r.isEmpty := by
    cases r with
    | nil => simp only [List.length_nil] at h2; simp; omega
    | cons c r => simp only [List.length_cons] at h2; simp; omega
  have HV := Lib.hid hv
  clear hv h
  go_enter Try.func15, Try.ntmps15
  go_wp2
  repeat (go_quiet (fail); try go_wp2)
  go_ret
  exact ⟨by first | rfl | (rw [HV.out]; rfl), _, rfl⟩
theorem over_nil {w : World} {g : Nat} {s : ByteArray} (h : At w g s []) : Calls Try.prog 15 #[.pointer (some ⟨g, 0, none⟩)] w fun e w' => e = .returned (.bool true) ∧ ∃ q, w' = w.drewN q := over_any h
theorem over_cons {w : World} {g : Nat} {s : ByteArray} {c : Int} {r : List Int} (h : At w g s (c :: r)) : Calls Try.prog 15 #[.pointer (some ⟨g, 0, none⟩)] w fun e w' => e = .returned (.bool false) ∧ ∃ q, w' = w.drewN q := over_any h
theorem is_nil {w : World} {g : Nat} {s : ByteArray} (h : At w g s []) (c : Int) : Calls Try.prog 21 #[.pointer (some ⟨g, 0, none⟩), .int .u8 c] w fun e w' => e = .returned (.bool false) ∧ ∃ q, w' = w.drewN q := by
  obtain ⟨i, f0, f1, f2, h1, h2, h3⟩ := h.facts
  have HH := Lib.hid h
  clear h
  go_enter Try.func21, Try.ntmps21
  go_wp2
  repeat (go_quiet (first | (go_at_call 15; refine Calls.quiet_of (over_nil (HH.out.drewN _)))); try go_wp2)
  go_ret
  exact ⟨rfl, _, rfl⟩
theorem is_no {w : World} {g : Nat} {s : ByteArray} {d : Int} {r : List Int} (h : At w g s (d :: r)) {c : Int} (hne : d ≠ c) : Calls Try.prog 21 #[.pointer (some ⟨g, 0, none⟩), .int .u8 c] w fun e w' => e = .returned (.bool false) ∧ ∃ q, w' = w.drewN q := by
  obtain ⟨i, f0, f1, f2, h1, h2, h3, f4, h5, h6, h7⟩ := h.char
  have HH := Lib.hid h
  have g0 : (d == c) = false := by simpa using hne
  have g1 : (d != c) = true := by simpa using hne
  clear h h5 hne
  go_enter Try.func21, Try.ntmps21
  go_wp2
  repeat (go_quiet (first | (go_at_call 15; refine Calls.quiet_of (over_cons (HH.out.drewN _)))); try go_wp2)
  go_ret
  exact ⟨rfl, _, rfl⟩
theorem is_yes {w : World} {g : Nat} {s : ByteArray} {c : Int} {r : List Int} (h : At w g s (c :: r)) : Calls Try.prog 21 #[.pointer (some ⟨g, 0, none⟩), .int .u8 c] w (Got w g s (.bool true) r) := by
  obtain ⟨i, f0, f1, f2, h1, h2, h3, f4, h5, h6, h7⟩ := h.char
  have HH := Lib.hid h
  have H5 := Lib.hid h5
  have g0 : (c == c) = true := by simp
  have g1 : (c != c) = false := by simp
  clear h h5
  go_enter Try.func21, Try.ntmps21
  go_wp2
  repeat (go_quiet (first | (go_at_call 15; refine Calls.quiet_of (over_cons (HH.out.drewN _)))); try go_wp2)
  go_ret
  exact ⟨rfl, (keep_drewN (KeepBut.refl w g none) _).set_ 1 _, H5.out.drew_set _⟩
theorem next_nil {w : World} {g : Nat} {s : ByteArray} (h : At w g s []) : Calls Try.prog 35 #[.pointer (some ⟨g, 0, none⟩)] w (Fell w g s 31 0) := by
  obtain ⟨i, f0, f1, f2, h1, h2, h3⟩ := h.facts
  have HH := Lib.hid h
  clear h
  go_enter Try.func35, Try.ntmps35
  go_wp2_with (first | (go_at_call 15; refine (over_nil HH.out).mono ?_; rintro e wq ⟨rfl, q, rfl⟩) | (go_at_call 16; refine (fail_any _ _ _ _).mono ?_; rintro e wq2 ⟨rfl, rfl⟩))
  exact ⟨rfl, by simp, keep_drewN (KeepBut.refl w g none) _⟩
theorem next_cons {w : World} {g : Nat} {s : ByteArray} {c : Int} {r : List Int} (h : At w g s (c :: r)) : Calls Try.prog 35 #[.pointer (some ⟨g, 0, none⟩)] w (Got w g s (.int .u8 c) r) := by
  obtain ⟨i, f0, f1, f2, h1, h2, h3, f4, h5, h6, h7⟩ := h.char
  have HH := Lib.hid h
  have H5 := Lib.hid h5
  clear h h5
  go_enter Try.func35, Try.ntmps35
  go_wp2_with (first | (go_at_call 15; refine (over_cons HH.out).mono ?_; rintro e wq ⟨rfl, q, rfl⟩) | (go_at_call 16; refine (fail_any _ _ _ _).mono ?_; rintro e wq2 ⟨rfl, rfl⟩))
  repeat (go_quiet (fail); try go_wp2)
  go_ret
  exact ⟨rfl, keep_drewN ((keep_drewN (KeepBut.refl w g none) _).set_ 1 _) _, (H5.out.drew_set _).drewN _⟩
end Go.Proofs.Ytcdkooebhpfknaa.Rx
