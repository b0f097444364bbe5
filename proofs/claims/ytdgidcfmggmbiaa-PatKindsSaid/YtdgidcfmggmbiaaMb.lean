/- rex's reader: its little functions. rex's reader: a byte behind a backslash, an item of a class. -/
import Derived.Test.YtdgidcfmggmbiaaPRxx0
import Derived.Test.YtdgidcfmggmbiaaMa
import Derived.Lib.Hide
import Derived.Outline
import Derived.WalkLawsBesides
import Derived.BigQuiet
-- PRINTED by print.py (a twelfth state) out of the translation. Not trusted: Lean checks it.
namespace Go.Proofs.Ytdgidcfmggmbiaa.PRx
open Go.RowKit Go.Proofs.YtdgidcfmggmbiaaW.PrintWords Go.Proofs.YtdgidcfmggmbiaaW.PrintLast Go.Proofs.YtdgidcfmggmbiaaW.PrintMore
attribute [local go_sem] max2_int min2_int max_two min_two max_three min_three max_four min_four   -- for this text's walks alone
set_option linter.unusedVariables false
set_option linter.unusedSimpArgs false

/-! ### rex_alnum: function 47 -/
def rex_alnum.f (a0 : Int) : Option (Bool) := if a0 ≥ 97 then (if a0 ≤ 122 then (some true) else (if a0 ≥ 65 then (if a0 ≤ 90 then (some true) else (if a0 ≥ 48 then (some (decide (a0 ≤ 57))) else (some false))) else (if a0 ≥ 48 then (some (decide (a0 ≤ 57))) else (some false)))) else (if a0 ≥ 65 then (if a0 ≤ 90 then (some true) else (if a0 ≥ 48 then (some (decide (a0 ≤ 57))) else (some false))) else (if a0 ≥ 48 then (some (decide (a0 ≤ 57))) else (some false)))
set_option maxHeartbeats 8000000 in
set_option maxRecDepth 100000 in
theorem rex_alnum.calls (a0 : Int) (r : Bool) (w : World) (h : rex_alnum.f a0 = some r) :
    Calls Try.prog 81 #[.int .u8 a0] w fun e w' => e = .returned (.bool r) ∧ Drawn0 w w' := by
  have H : (if a0 ≥ 97 then (if a0 ≤ 122 then (some true) else (if a0 ≥ 65 then (if a0 ≤ 90 then (some true) else (if a0 ≥ 48 then (some (decide (a0 ≤ 57))) else (some false))) else (if a0 ≥ 48 then (some (decide (a0 ≤ 57))) else (some false)))) else (if a0 ≥ 65 then (if a0 ≤ 90 then (some true) else (if a0 ≥ 48 then (some (decide (a0 ≤ 57))) else (some false))) else (if a0 ≥ 48 then (some (decide (a0 ≤ 57))) else (some false)))) = some r := h
  clear h
  by_cases c2 : a0 ≥ 97
  · rw [if_pos c2] at H
    have c2b0 : decide (97 ≤ a0) = true := decide_eq_true c2
    clear c2
    by_cases c3 : a0 ≤ 122
    · rw [if_pos c3] at H
      have c3b0 : decide (a0 ≤ 122) = true := decide_eq_true c3
      clear c3
      obtain rfl := Option.some.inj H
      go_enter Try.func81, Try.ntmps81
      go_wp2
      go_ret
      exact ⟨by first | rfl | (simp; done) | (simp [*]; done), by repeat (first | exact Drawn0.refl _ | apply Drawn0.step)⟩
    · rw [if_neg c3] at H
      have c3b0 : decide (a0 ≤ 122) = false := decide_eq_false c3
      clear c3
      by_cases c4 : a0 ≥ 65
      · rw [if_pos c4] at H
        have c4b0 : decide (65 ≤ a0) = true := decide_eq_true c4
        clear c4
        by_cases c5 : a0 ≤ 90
        · rw [if_pos c5] at H
          have c5b0 : decide (a0 ≤ 90) = true := decide_eq_true c5
          clear c5
          obtain rfl := Option.some.inj H
          go_enter Try.func81, Try.ntmps81
          go_wp2
          go_ret
          exact ⟨by first | rfl | (simp; done) | (simp [*]; done), by repeat (first | exact Drawn0.refl _ | apply Drawn0.step)⟩
        · rw [if_neg c5] at H
          have c5b0 : decide (a0 ≤ 90) = false := decide_eq_false c5
          clear c5
          by_cases c6 : a0 ≥ 48
          · rw [if_pos c6] at H
            have c6b0 : decide (48 ≤ a0) = true := decide_eq_true c6
            clear c6
            obtain rfl := Option.some.inj H
            go_enter Try.func81, Try.ntmps81
            go_wp2
            go_ret
            exact ⟨by first | rfl | (simp; done) | (simp [*]; done), by repeat (first | exact Drawn0.refl _ | apply Drawn0.step)⟩
          · rw [if_neg c6] at H
            have c6b0 : decide (48 ≤ a0) = false := decide_eq_false c6
            clear c6
            obtain rfl := Option.some.inj H
            go_enter Try.func81, Try.ntmps81
            go_wp2
            go_ret
            exact ⟨by first | rfl | (simp; done) | (simp [*]; done), by repeat (first | exact Drawn0.refl _ | apply Drawn0.step)⟩
      · rw [if_neg c4] at H
        have c4b0 : decide (65 ≤ a0) = false := decide_eq_false c4
        clear c4
        by_cases c7 : a0 ≥ 48
        · rw [if_pos c7] at H
          have c7b0 : decide (48 ≤ a0) = true := decide_eq_true c7
          clear c7
          obtain rfl := Option.some.inj H
          go_enter Try.func81, Try.ntmps81
          go_wp2
          go_ret
          exact ⟨by first | rfl | (simp; done) | (simp [*]; done), by repeat (first | exact Drawn0.refl _ | apply Drawn0.step)⟩
        · rw [if_neg c7] at H
          have c7b0 : decide (48 ≤ a0) = false := decide_eq_false c7
          clear c7
          obtain rfl := Option.some.inj H
          go_enter Try.func81, Try.ntmps81
          go_wp2
          go_ret
          exact ⟨by first | rfl | (simp; done) | (simp [*]; done), by repeat (first | exact Drawn0.refl _ | apply Drawn0.step)⟩
  · rw [if_neg c2] at H
    have c2b0 : decide (97 ≤ a0) = false := decide_eq_false c2
    clear c2
    by_cases c8 : a0 ≥ 65
    · rw [if_pos c8] at H
      have c8b0 : decide (65 ≤ a0) = true := decide_eq_true c8
      clear c8
      by_cases c9 : a0 ≤ 90
      · rw [if_pos c9] at H
        have c9b0 : decide (a0 ≤ 90) = true := decide_eq_true c9
        clear c9
        obtain rfl := Option.some.inj H
        go_enter Try.func81, Try.ntmps81
        go_wp2
        go_ret
        exact ⟨by first | rfl | (simp; done) | (simp [*]; done), by repeat (first | exact Drawn0.refl _ | apply Drawn0.step)⟩
      · rw [if_neg c9] at H
        have c9b0 : decide (a0 ≤ 90) = false := decide_eq_false c9
        clear c9
        by_cases c10 : a0 ≥ 48
        · rw [if_pos c10] at H
          have c10b0 : decide (48 ≤ a0) = true := decide_eq_true c10
          clear c10
          obtain rfl := Option.some.inj H
          go_enter Try.func81, Try.ntmps81
          go_wp2
          go_ret
          exact ⟨by first | rfl | (simp; done) | (simp [*]; done), by repeat (first | exact Drawn0.refl _ | apply Drawn0.step)⟩
        · rw [if_neg c10] at H
          have c10b0 : decide (48 ≤ a0) = false := decide_eq_false c10
          clear c10
          obtain rfl := Option.some.inj H
          go_enter Try.func81, Try.ntmps81
          go_wp2
          go_ret
          exact ⟨by first | rfl | (simp; done) | (simp [*]; done), by repeat (first | exact Drawn0.refl _ | apply Drawn0.step)⟩
    · rw [if_neg c8] at H
      have c8b0 : decide (65 ≤ a0) = false := decide_eq_false c8
      clear c8
      by_cases c11 : a0 ≥ 48
      · rw [if_pos c11] at H
        have c11b0 : decide (48 ≤ a0) = true := decide_eq_true c11
        clear c11
        obtain rfl := Option.some.inj H
        go_enter Try.func81, Try.ntmps81
        go_wp2
        go_ret
        exact ⟨by first | rfl | (simp; done) | (simp [*]; done), by repeat (first | exact Drawn0.refl _ | apply Drawn0.step)⟩
      · rw [if_neg c11] at H
        have c11b0 : decide (48 ≤ a0) = false := decide_eq_false c11
        clear c11
        obtain rfl := Option.some.inj H
        go_enter Try.func81, Try.ntmps81
        go_wp2
        go_ret
        exact ⟨by first | rfl | (simp; done) | (simp [*]; done), by repeat (first | exact Drawn0.refl _ | apply Drawn0.step)⟩

-- NOT PRINTED: function 38 (rex_reader_escape)

-- NOT PRINTED: function 45 (rex_reader_item)

/-! ### stringslite_HasPrefix: function 59 -/
def stringslite_HasPrefix.f (a0 : ByteArray) (a1 : ByteArray) : Option (Bool) := if (a0.size : Int) ≥ (a1.size : Int) then (if 0 ≤ (a1.size : Int) then (if (a1.size : Int) ≤ (a0.size : Int) then (some ((a0.extract 0 ((a1.size : Int) : Int).toNat).toList == a1.toList)) else (none)) else (none)) else (some false)
set_option maxHeartbeats 8000000 in
set_option maxRecDepth 100000 in
theorem stringslite_HasPrefix.calls (a0 : ByteArray) (a1 : ByteArray) (r : Bool) (w : World) (h : stringslite_HasPrefix.f a0 a1 = some r) :
    Calls Try.prog 63 #[.string a0, .string a1] w fun e w' => e = .returned (.bool r) ∧ Drawn0 w w' := by
  have H : (if (a0.size : Int) ≥ (a1.size : Int) then (if 0 ≤ (a1.size : Int) then (if (a1.size : Int) ≤ (a0.size : Int) then (some ((a0.extract 0 ((a1.size : Int) : Int).toNat).toList == a1.toList)) else (none)) else (none)) else (some false)) = some r := h
  clear h
  by_cases c3 : (a0.size : Int) ≥ (a1.size : Int)
  · rw [if_pos c3] at H
    have c3b0 : decide ((a1.size : Int) ≤ (a0.size : Int)) = true := decide_eq_true c3
    have c3b1 : decide (a1.size ≤ a0.size) = true := decide_eq_true (Int.ofNat_le.mp c3)
    clear c3
    by_cases c4 : 0 ≤ (a1.size : Int)
    · rw [if_pos c4] at H
      have c4b0 := eq_true c4
      have c4b1 : decide (0 ≤ (a1.size : Int)) = true := decide_eq_true c4
      clear c4
      by_cases c5 : (a1.size : Int) ≤ (a0.size : Int)
      · rw [if_pos c5] at H
        have c5b0 := eq_true c5
        have c5b1 : decide ((a1.size : Int) ≤ (a0.size : Int)) = true := decide_eq_true c5
        clear c5
        obtain rfl := Option.some.inj H
        go_enter Try.func63, Try.ntmps63
        go_wp2
        go_ret
        exact ⟨by first | rfl | (simp; done) | (simp [*]; done), by repeat (first | exact Drawn0.refl _ | apply Drawn0.step)⟩
      · rw [if_neg c5] at H
        exact absurd H (by simp)
    · rw [if_neg c4] at H
      exact absurd H (by simp)
  · rw [if_neg c3] at H
    have c3b0 : decide ((a1.size : Int) ≤ (a0.size : Int)) = false := decide_eq_false c3
    have c3b1 : decide (a1.size ≤ a0.size) = false := decide_eq_false (fun h => c3 (Int.ofNat_le.mpr h))
    clear c3
    obtain rfl := Option.some.inj H
    go_enter Try.func63, Try.ntmps63
    go_wp2
    go_ret
    exact ⟨by first | rfl | (simp; done) | (simp [*]; done), by repeat (first | exact Drawn0.refl _ | apply Drawn0.step)⟩

/-! ### strings_HasPrefix: function 46 -/
def strings_HasPrefix.f (a0 : ByteArray) (a1 : ByteArray) : Option (Bool) := (stringslite_HasPrefix.f a0 a1).bind fun t115 => (some t115)
set_option maxHeartbeats 8000000 in
set_option maxRecDepth 100000 in
theorem strings_HasPrefix.calls (a0 : ByteArray) (a1 : ByteArray) (r : Bool) (w : World) (h : strings_HasPrefix.f a0 a1 = some r) :
    Calls Try.prog 52 #[.string a0, .string a1] w fun e w' => e = .returned (.bool r) ∧ Drawn0 w w' := by
  have H : ((stringslite_HasPrefix.f a0 a1).bind fun t115 => (some t115)) = some r := h
  clear h
  replace H := Option.bind_eq_some_iff.mp H
  obtain ⟨t115, A30, H⟩ := H
  replace H : (some t115) = some r := H
  have A3 := Aside0.mk A30
  clear A30
  obtain rfl := Option.some.inj H
  go_enter Try.func52, Try.ntmps52
  go_wp2_with (first | ((with_reducible refine gate_callee (f := 63) rfl ?_); refine goesL_ (some 7) rfl rfl Try.func63 (by kernel_rfl) rfl #[.string a0, .string a1] rfl (by (try simp only [List.map_toArray, List.map_cons, List.map_nil]); first | done | rfl | (simp only [List.length_drop, List.length_take]; rfl)) ?_; (with_reducible refine (stringslite_HasPrefix.calls a0 a1 t115 _ A3.out).mono ?_); rintro e w' ⟨rfl, ⟨nd, rfl⟩⟩; refine ⟨_, rfl, ?_⟩))
  go_ret
  exact ⟨by first | rfl | (simp; done) | (simp [*]; done), by repeat (first | exact Drawn0.refl _ | apply Drawn0.step)⟩

-- NOT PRINTED: function 37 (rex_reader_class)

-- NOT PRINTED: function 28 (rex_reader_atom)

-- NOT PRINTED: function 20 (rex_reader_piece)

-- NOT PRINTED: function 14 (rex_reader_alternation)

-- NOT PRINTED: function 9 (rex_Parse)

-- NOT PRINTED: function 8 (colloquylaw04_parsing)

end Go.Proofs.Ytdgidcfmggmbiaa.PRx
namespace Go.Proofs.Ytdgidcfmggmbiaa.Rx
open Go.RowKit Go.Proofs.YtdgidcfmggmbiaaW.PrintWords Go.Proofs.YtdgidcfmggmbiaaW.PrintLast Go.Proofs.YtdgidcfmggmbiaaW.PrintMore Go.Proofs.Ytdgidcfmggmbiaa.PRx
set_option linter.unusedVariables false
set_option linter.unusedSimpArgs false

/-- All blocks but g (and the row) are as they were; so is the rest of the world. -/
structure KeepBut (w w' : World) (g : Nat) (row : Option Nat) : Prop where
  size : w.heap.size ≤ w'.heap.size
  block : ∀ i, i < w.heap.size → i ≠ g → some i ≠ row → w'.heap[i]? = w.heap[i]?
  os : w'.os = w.os
  tape : w'.tape = w.tape
  output : w'.output = w.output
theorem KeepBut.old {w w' : World} {g : Nat} {row : Option Nat} (h : KeepBut w w' g row) : Go.Proofs.YtdgidcfmggmbiaaW.PrintWords.KeepBut w w' g row := ⟨h.size, h.block⟩
theorem KeepBut.refl (w : World) (g : Nat) (row : Option Nat) : KeepBut w w g row := ⟨Nat.le_refl _, fun _ _ _ _ => rfl, rfl, rfl, rfl⟩
theorem KeepBut.of_below {w w1 : World} (h : Below w.heap.size w w1) (g : Nat) (row : Option Nat) : KeepBut w w1 g row := ⟨h.size, fun i hi _ _ => h.block i hi, h.os, h.tape, h.output⟩
theorem KeepBut.set_ {w w1 : World} {g : Nat} {row : Option Nat} (h : KeepBut w w1 g row) (j : Nat) (u : Value) : KeepBut w (w1.setCell ⟨g, j, none⟩ u) g row :=
  ⟨(h.old.set_ j u).1, (h.old.set_ j u).2, h.os, h.tape, h.output⟩
theorem KeepBut.trans {w w1 w2 : World} {g : Nat} {row row1 : Option Nat} (h : KeepBut w w1 g row) (k : KeepBut w1 w2 g row1) (hr : row1 = row ∨ ∃ b, row1 = some b ∧ w.heap.size ≤ b) : KeepBut w w2 g row :=
  ⟨(h.old.trans k.old hr).1, (h.old.trans k.old hr).2, k.os.trans h.os, k.tape.trans h.tape, k.output.trans h.output⟩
theorem keep_drewN {w W : World} {g : Nat} {row : Option Nat} (h : KeepBut w W g row) (m : Nat) : KeepBut w (W.drewN m) g row := ⟨h.size, h.block, h.os, h.tape, h.output⟩
theorem keep_drew {w W : World} {g : Nat} {row : Option Nat} (h : KeepBut w W g row) : KeepBut w W.drew g row := ⟨h.size, h.block, h.os, h.tape, h.output⟩
theorem keep_alloc {w W : World} {g : Nat} (h : KeepBut w W g none) (o : Obj) : KeepBut w (W.alloc o) g none := h.trans (KeepBut.of_below ((Below.refl W.heap.size W).alloc (Nat.le_refl _) o) g none) (.inl rfl)
theorem keep_far {w W : World} {g : Nat} {row : Option Nat} (h : KeepBut w W g row) {p : Addr} (hp : w.heap.size ≤ p.block) (u : Value) : KeepBut w (W.setCell p u) g row :=
  ⟨(Go.Proofs.YtdgidcfmggmbiaaW.PrintWords.keep_far h.old hp u).1, (Go.Proofs.YtdgidcfmggmbiaaW.PrintWords.keep_far h.old hp u).2, h.os, h.tape, h.output⟩
/-- What a reader panics with. -/
def bad (c k : Int) : List PanicEntry := [{ v := .iface 58 (.agg #[.int .i64 c, .int .i64 k]), recovered := false }]
/-- The reader at block g stands in s; r is left. -/
structure At (w : World) (g : Nat) (s : ByteArray) (r : List Int) : Prop where
  cell : ∃ i : Int, w.heap[g]? = some (.cells #[.string s, .int .i64 i] 62 (0, 0)) ∧ 0 ≤ i ∧ i + (r.length : Int) = (s.size : Int) ∧ (bI s).drop i.toNat = r
  small : s.size ≤ 256

theorem At.drewN {w : World} {g : Nat} {s : ByteArray} {r : List Int} (h : At w g s r) (n : Nat) : At (w.drewN n) g s r := ⟨h.cell, h.small⟩
theorem At.drew_set {w : World} {g : Nat} {s : ByteArray} {r : List Int} {p : Addr} {v : Value} (h : At (w.setCell p v) g s r) (n : Nat) : At ((w.drewN n).setCell p v) g s r := ⟨h.cell, h.small⟩
theorem At.facts {w : World} {g : Nat} {s : ByteArray} {r : List Int} (h : At w g s r) : ∃ i : Int, w.cell? ⟨g, 0, none⟩ = some (.string s) ∧ w.cell? ⟨g, 1, none⟩ = some (.int .i64 i) ∧ w.frozen? ⟨g, 1, none⟩ = false ∧ 0 ≤ i ∧ i + (r.length : Int) = (s.size : Int) ∧ (s.size : Int) ≤ 256 := by
  obtain ⟨⟨i, h1, h2, h3, h4⟩, h5⟩ := h
  exact ⟨i, blk_cell h1 0, blk_cell h1 1, blk_frozen h1 1, h2, h3, by omega⟩
theorem bI_get {s : ByteArray} {i : Nat} {c : Int} {r : List Int} (h : (bI s).drop i = c :: r) : ∃ hi : i < s.size, ((s[i]'hi).toNat : Int) = c := by
  have hl : i < (bI s).length := by
    have := congrArg List.length h
    simp only [List.length_drop, List.length_cons] at this
    omega
  have hi : i < s.size := by rw [bI_len] at hl; exact hl
  refine ⟨hi, ?_⟩
  rw [List.drop_eq_getElem_cons hl] at h
  have := (List.cons.inj h).1
  rw [← this]
  simp [bI]
  rfl
/-- A byte is left. -/
theorem At.char {w : World} {g : Nat} {s : ByteArray} {c : Int} {r : List Int} (h : At w g s (c :: r)) : ∃ i : Int, w.cell? ⟨g, 0, none⟩ = some (.string s) ∧ w.cell? ⟨g, 1, none⟩ = some (.int .i64 i) ∧ w.frozen? ⟨g, 1, none⟩ = false ∧ 0 ≤ i ∧ i + (r.length : Int) + 1 = (s.size : Int) ∧ (s.size : Int) ≤ 256 ∧
    (∀ W : World, (Instr.index 9 (.string s) (.int .i64 i)).run Try.prog W = .ok (.int .u8 c) W) ∧ At (w.setCell ⟨g, 1, none⟩ (.int .i64 (i + 1))) g s r ∧ 0 ≤ c ∧ c < 256 := by
  obtain ⟨⟨i, h1, h2, h3, h4⟩, h5⟩ := h
  obtain ⟨hi, hc⟩ := bI_get h4
  have hrng := bI_rng s c (List.mem_of_mem_drop (by rw [h4]; exact List.mem_cons_self ..))
  simp only [List.length_cons] at h3
  refine ⟨i, blk_cell h1 0, blk_cell h1 1, blk_frozen h1 1, h2, by omega, by omega, ?_, ⟨⟨i + 1, ?_, by omega, by omega, ?_⟩, h5⟩, hrng⟩
  · intro W
    rw [run_index_string W 9 s .i64 i Try.underlying9, dif_pos ⟨h2, by omega⟩, hc]
  · have := blk_set h1 1 (.int .i64 (i + 1))
    simpa using this
  · have e : (i + 1).toNat = i.toNat + 1 := by omega
    rw [e, ← List.drop_drop, h4]
    rfl
/-- It returned v; the reader stands before r. -/
def Got (w : World) (g : Nat) (s : ByteArray) (v : Value) (r : List Int) (e : Ending) (w' : World) : Prop := e = .returned v ∧ KeepBut w w' g none ∧ At w' g s r
def Fell (w : World) (g : Nat) (s : ByteArray) (c : Int) (k : Nat) (e : Ending) (w' : World) : Prop := e = .panicked (bad c ((s.size : Int) - (k : Int))) ∧ KeepBut w w' g none
def Res (w : World) (g : Nat) (s : ByteArray) (q : R Int) (e : Ending) (w' : World) : Prop :=
  match q with
  | .ok v r => Got w g s (.int .u8 v) r e w'
  | .err c k => Fell w g s c k e w'

theorem fail_any (p : Value) (c k : Int) (w : World) : Calls Try.prog 24 #[p, .int .i64 c, .int .i64 k] w fun e w' => e = .panicked (bad c k) ∧ w' = w := by
  go_enter Try.func24, Try.ntmps24
  go_wp2
  exact ⟨rfl, rfl, rfl⟩
theorem over_any {w : World} {g : Nat} {s : ByteArray} {r : List Int} (h : At w g s r) : Calls Try.prog 23 #[.pointer (some ⟨g, 0, none⟩)] w fun e w' => e = .returned (.bool r.isEmpty) ∧ ∃ q, w' = w.drewN q := by
  obtain ⟨i, f0, f1, f2, h1, h2, h3⟩ := h.facts
  have hv : decide (i ≥ (s.size : Int)) = r.isEmpty := by
    cases r with
    | nil => simp only [List.length_nil] at h2; simp; omega
    | cons c r => simp only [List.length_cons] at h2; simp; omega
  have HV := Lib.hid hv
  clear hv h
  go_enter Try.func23, Try.ntmps23
  go_wp2
  repeat (go_quiet (fail); try go_wp2)
  go_ret
  exact ⟨by first | rfl | (rw [HV.out]; rfl), _, rfl⟩
theorem over_nil {w : World} {g : Nat} {s : ByteArray} (h : At w g s []) : Calls Try.prog 23 #[.pointer (some ⟨g, 0, none⟩)] w fun e w' => e = .returned (.bool true) ∧ ∃ q, w' = w.drewN q := over_any h
theorem over_cons {w : World} {g : Nat} {s : ByteArray} {c : Int} {r : List Int} (h : At w g s (c :: r)) : Calls Try.prog 23 #[.pointer (some ⟨g, 0, none⟩)] w fun e w' => e = .returned (.bool false) ∧ ∃ q, w' = w.drewN q := over_any h
theorem is_nil {w : World} {g : Nat} {s : ByteArray} (h : At w g s []) (c : Int) : Calls Try.prog 50 #[.pointer (some ⟨g, 0, none⟩), .int .u8 c] w fun e w' => e = .returned (.bool false) ∧ ∃ q, w' = w.drewN q := by
  obtain ⟨i, f0, f1, f2, h1, h2, h3⟩ := h.facts
  have HH := Lib.hid h
  clear h
  go_enter Try.func50, Try.ntmps50
  go_wp2
  repeat (go_quiet (first | (go_at_call 23; refine Calls.quiet_of (over_nil (HH.out.drewN _)))); try go_wp2)
  go_ret
  exact ⟨rfl, _, rfl⟩
theorem is_no {w : World} {g : Nat} {s : ByteArray} {d : Int} {r : List Int} (h : At w g s (d :: r)) {c : Int} (hne : d ≠ c) : Calls Try.prog 50 #[.pointer (some ⟨g, 0, none⟩), .int .u8 c] w fun e w' => e = .returned (.bool false) ∧ ∃ q, w' = w.drewN q := by
  obtain ⟨i, f0, f1, f2, h1, h2, h3, f4, h5, h6, h7⟩ := h.char
  have HH := Lib.hid h
  have g0 : (d == c) = false := by simpa using hne
  have g1 : (d != c) = true := by simpa using hne
  clear h h5 hne
  go_enter Try.func50, Try.ntmps50
  go_wp2
  repeat (go_quiet (first | (go_at_call 23; refine Calls.quiet_of (over_cons (HH.out.drewN _)))); try go_wp2)
  go_ret
  exact ⟨rfl, _, rfl⟩
theorem is_yes {w : World} {g : Nat} {s : ByteArray} {c : Int} {r : List Int} (h : At w g s (c :: r)) : Calls Try.prog 50 #[.pointer (some ⟨g, 0, none⟩), .int .u8 c] w (Got w g s (.bool true) r) := by
  obtain ⟨i, f0, f1, f2, h1, h2, h3, f4, h5, h6, h7⟩ := h.char
  have HH := Lib.hid h
  have H5 := Lib.hid h5
  have g0 : (c == c) = true := by simp
  have g1 : (c != c) = false := by simp
  clear h h5
  go_enter Try.func50, Try.ntmps50
  go_wp2
  repeat (go_quiet (first | (go_at_call 23; refine Calls.quiet_of (over_cons (HH.out.drewN _)))); try go_wp2)
  go_ret
  exact ⟨rfl, (keep_drewN (KeepBut.refl w g none) _).set_ 1 _, H5.out.drew_set _⟩
theorem next_nil {w : World} {g : Nat} {s : ByteArray} (h : At w g s []) : Calls Try.prog 69 #[.pointer (some ⟨g, 0, none⟩)] w (Fell w g s 31 0) := by
  obtain ⟨i, f0, f1, f2, h1, h2, h3⟩ := h.facts
  have HH := Lib.hid h
  clear h
  go_enter Try.func69, Try.ntmps69
  go_wp2_with (first | (go_at_call 23; refine (over_nil HH.out).mono ?_; rintro e wq ⟨rfl, q, rfl⟩) | (go_at_call 24; refine (fail_any _ _ _ _).mono ?_; rintro e wq2 ⟨rfl, rfl⟩))
  exact ⟨rfl, by simp, keep_drewN (KeepBut.refl w g none) _⟩
theorem next_cons {w : World} {g : Nat} {s : ByteArray} {c : Int} {r : List Int} (h : At w g s (c :: r)) : Calls Try.prog 69 #[.pointer (some ⟨g, 0, none⟩)] w (Got w g s (.int .u8 c) r) := by
  obtain ⟨i, f0, f1, f2, h1, h2, h3, f4, h5, h6, h7⟩ := h.char
  have HH := Lib.hid h
  have H5 := Lib.hid h5
  clear h h5
  go_enter Try.func69, Try.ntmps69
  go_wp2_with (first | (go_at_call 23; refine (over_cons HH.out).mono ?_; rintro e wq ⟨rfl, q, rfl⟩) | (go_at_call 24; refine (fail_any _ _ _ _).mono ?_; rintro e wq2 ⟨rfl, rfl⟩))
  repeat (go_quiet (fail); try go_wp2)
  go_ret
  exact ⟨rfl, keep_drewN ((keep_drewN (KeepBut.refl w g none) _).set_ 1 _) _, (H5.out.drew_set _).drewN _⟩
end Go.Proofs.Ytdgidcfmggmbiaa.Rx
namespace Go.Proofs.Ytdgidcfmggmbiaa.Rx
open Go.RowKit Go.Proofs.YtdgidcfmggmbiaaW.PrintWords Go.Proofs.YtdgidcfmggmbiaaW.PrintLast Go.Proofs.YtdgidcfmggmbiaaW.PrintMore Go.Proofs.Ytdgidcfmggmbiaa.PRx
set_option linter.unusedVariables false
set_option linter.unusedSimpArgs false

theorem alnum_any (c : Int) (w : World) : Calls Try.prog 81 #[.int .u8 c] w fun e w' => e = .returned (.bool (alnumI c)) ∧ ∃ q, w' = w.drewN q := by
  have h : rex_alnum.f c = some (alnumI c) := by
    unfold rex_alnum.f alnumI
    repeat' split
    all_goals simp only [Option.some.injEq, Bool.true_eq, Bool.false_eq, Bool.or_eq_true, Bool.or_eq_false_iff, decide_eq_true_eq, decide_eq_false_iff_not]
    all_goals first | omega | (rw [Bool.eq_iff_iff]; simp only [Bool.or_eq_true, decide_eq_true_eq]; omega)
  refine (rex_alnum.calls c _ w h).mono ?_
  rintro e w' ⟨he, hd⟩
  exact ⟨he, hd.out⟩
theorem At.keep {w w1 : World} {g : Nat} {s : ByteArray} {r : List Int} (h : At w g s r) : KeepBut w w g none := KeepBut.refl w g none
theorem esc_any {w : World} {g : Nat} {s : ByteArray} {r : List Int} (h : At w g s r) (k : Nat) (p : Int) (hp : p = (s.size : Int) - (k : Int)) : Calls Try.prog 72 #[.pointer (some ⟨g, 0, none⟩), .int .i64 p] w (Res w g s (escR k r)) := by
  cases r with
  | nil =>
    have HN := Lib.hid (next_nil h)
    clear h
    go_enter Try.func72, Try.ntmps72
    go_wp2_with (first | (go_at_call 69; refine HN.out.mono ?_; rintro e w1 ⟨rfl, hk⟩; (have HK := Lib.hid hk; clear hk)))
    exact ⟨rfl, rfl, HK.out⟩
  | cons c r =>
    have HN := Lib.hid (next_cons h)
    have HP := Lib.hid hp
    clear h hp
    by_cases h1 : c = 110
    · subst h1
      go_enter Try.func72, Try.ntmps72
      go_wp2_with (first | (go_at_call 69; refine HN.out.mono ?_; rintro e w1 ⟨rfl, hk, ha⟩; (have HK := Lib.hid hk; have HA := Lib.hid ha; clear hk ha)))
      go_ret
      exact ⟨rfl, HK.out, HA.out⟩
    · have g1 : (c == 110) = false := by simpa using h1
      by_cases h2 : c = 116
      · subst h2
        go_enter Try.func72, Try.ntmps72
        go_wp2_with (first | (go_at_call 69; refine HN.out.mono ?_; rintro e w1 ⟨rfl, hk, ha⟩; (have HK := Lib.hid hk; have HA := Lib.hid ha; clear hk ha)))
        go_ret
        exact ⟨rfl, HK.out, HA.out⟩
      · have g2 : (c == 116) = false := by simpa using h2
        by_cases h3 : alnumI c = true
        · have HE : Hid (escR k (c :: r) = .err 30 k) := Lib.hid (by simp [escR, h1, h2, h3])
          have HL := Lib.hid (alnum_any c)
          rw [h3] at HL
          clear h1 h2 h3
          rw [HE.out]
          go_enter Try.func72, Try.ntmps72
          go_wp2_with (first | (go_at_call 69; refine HN.out.mono ?_; rintro e w1 ⟨rfl, hk, ha⟩; (have HK := Lib.hid hk; have HA := Lib.hid ha; clear hk ha)) | (go_at_call 81; refine (HL.out _).mono ?_; rintro e wq ⟨rfl, q, rfl⟩) | (go_at_call 24; refine (fail_any _ _ _ _).mono ?_; rintro e wq2 ⟨rfl, rfl⟩))
          exact ⟨rfl, by rw [HP.out], keep_drewN HK.out _⟩
        · have HE : Hid (escR k (c :: r) = .ok c r) := Lib.hid (by simp [escR, h1, h2, h3])
          have HL := Lib.hid (alnum_any c)
          have h3' : alnumI c = false := by simpa using h3
          rw [h3'] at HL
          clear h1 h2 h3 h3'
          rw [HE.out]
          go_enter Try.func72, Try.ntmps72
          go_wp2_with (first | (go_at_call 69; refine HN.out.mono ?_; rintro e w1 ⟨rfl, hk, ha⟩; (have HK := Lib.hid hk; have HA := Lib.hid ha; clear hk ha)) | (go_at_call 81; refine (HL.out _).mono ?_; rintro e wq ⟨rfl, q, rfl⟩) | (go_at_call 24; refine (fail_any _ _ _ _).mono ?_; rintro e wq2 ⟨rfl, rfl⟩))
          go_ret
          exact ⟨rfl, keep_drewN HK.out _, HA.out.drewN _⟩
theorem Res.from_ {w w1 : World} {g : Nat} {s : ByteArray} {q : R Int} {e : Ending} {w' : World} (h : Res w1 g s q e w') (hk : KeepBut w w1 g none) : Res w g s q e w' := by
  cases q with
  | ok v r => exact ⟨h.1, hk.trans h.2.1 (.inl rfl), h.2.2⟩
  | err c k => exact ⟨h.1, hk.trans h.2 (.inl rfl)⟩
set_option maxHeartbeats 1000000 in
theorem item_any {w : World} {g : Nat} {s : ByteArray} {r : List Int} (h : At w g s r) : Calls Try.prog 80 #[.pointer (some ⟨g, 0, none⟩)] w (Res w g s (itemR r)) := by
  cases r with
  | nil =>
    obtain ⟨i, f0, f1, f2, h1, h2, h3⟩ := h.facts
    have HN := Lib.hid (next_nil h)
    clear h
    go_enter Try.func80, Try.ntmps80
    go_wp2_with (first | (go_at_call 69; refine HN.out.mono ?_; rintro e w1 ⟨rfl, hk⟩; (have HK := Lib.hid hk; clear hk)))
    exact ⟨rfl, rfl, HK.out⟩
  | cons c r =>
    obtain ⟨i, f0, f1, f2, h1, h2, h3⟩ := h.facts
    have HN := Lib.hid (next_cons h)
    have HI : Hid (i = (s.size : Int) - ((r.length + 1 : Nat) : Int)) := Lib.hid (by simp only [List.length_cons] at h2; omega)
    clear h h2
    by_cases hc : c = 92
    · subst hc
      have HE : Hid (itemR (92 :: r) = escR (r.length + 1) r) := Lib.hid rfl
      rw [HE.out]
      cases hq : escR (r.length + 1) r with
      | ok v r' =>
        have HQ := Lib.hid hq
        clear hq HE
        go_enter Try.func80, Try.ntmps80
        go_wp2_with (first | (go_at_call 69; refine HN.out.mono ?_; rintro e w1 ⟨rfl, hk, ha⟩; (have HK := Lib.hid hk; have HA := Lib.hid ha; clear hk ha)) | (go_at_call 72; refine (esc_any HA.out (r.length + 1) _ HI.out).mono ?_; rw [HQ.out]; rintro e w2 ⟨rfl, hk, ha⟩; (have HK2 := Lib.hid (HK.out.trans hk (.inl rfl)); have HA2 := Lib.hid ha; clear hk ha)))
        go_ret
        exact ⟨rfl, HK2.out, HA2.out⟩
      | err c k =>
        have HQ := Lib.hid hq
        clear hq HE
        go_enter Try.func80, Try.ntmps80
        go_wp2_with (first | (go_at_call 69; refine HN.out.mono ?_; rintro e w1 ⟨rfl, hk, ha⟩; (have HK := Lib.hid hk; have HA := Lib.hid ha; clear hk ha)) | (go_at_call 72; refine (esc_any HA.out (r.length + 1) _ HI.out).mono ?_; rw [HQ.out]; rintro e w2 ⟨rfl, hk⟩; (have HK2 := Lib.hid (HK.out.trans hk (.inl rfl)); clear hk)))
        exact ⟨rfl, rfl, HK2.out⟩
    · have g1 : (c == 92) = false := by simpa using hc
      have HE : Hid (itemR (c :: r) = .ok c r) := Lib.hid (by simp [itemR, hc])
      clear hc
      rw [HE.out]
      go_enter Try.func80, Try.ntmps80
      go_wp2_with (first | (go_at_call 69; refine HN.out.mono ?_; rintro e w1 ⟨rfl, hk, ha⟩; (have HK := Lib.hid hk; have HA := Lib.hid ha; clear hk ha)))
      go_ret
      exact ⟨rfl, HK.out, HA.out⟩
end Go.Proofs.Ytdgidcfmggmbiaa.Rx
