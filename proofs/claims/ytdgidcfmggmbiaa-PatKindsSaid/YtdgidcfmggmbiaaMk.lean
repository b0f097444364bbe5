/- glob's reader: a byte. -/
import Derived.Test.YtdgidcfmggmbiaaMd
import Derived.Test.YtdgidcfmggmbiaaPRxx2
import Derived.Test.YtdgidcfmggmbiaaMj
namespace Go.Proofs.Ytdgidcfmggmbiaa.Rx
open Go.RowKit Go.Proofs.YtdgidcfmggmbiaaW.PrintWords Go.Proofs.YtdgidcfmggmbiaaW.PrintLast Go.Proofs.YtdgidcfmggmbiaaW.PrintMore Go.Proofs.Ytdgidcfmggmbiaa.PRx
set_option linter.unusedVariables false
set_option linter.unusedSimpArgs false

/-- The reader at block g stands in s; r is left. -/
structure GAt (w : World) (g : Nat) (s : ByteArray) (r : List Int) : Prop where
  cell : ∃ i : Int, w.heap[g]? = some (.cells #[.string s, .int .i64 i, .int .i64 0, .int .i64 0] 67 (0, 0)) ∧ 0 ≤ i ∧ i + (r.length : Int) = (s.size : Int) ∧ (bI s).drop i.toNat = r
  small : s.size ≤ 256
/-- The reader has failed. -/
structure GBad (w : World) (g : Nat) (s : ByteArray) (c : Int) (k : Nat) : Prop where
  cell : w.heap[g]? = some (.cells #[.string s, .int .i64 (s.size : Int), .int .i64 c, .int .i64 ((s.size : Int) - (k : Int))] 67 (0, 0))
  small : s.size ≤ 256
  ne : c ≠ 0
def w00 (w : World) : World := { w with heap := #[] }
theorem b00 (w : World) : Below (w00 w).heap.size (w00 w) w := ⟨rfl, rfl, rfl, Nat.zero_le _, fun k hk => absurd hk (Nat.not_lt_zero _)⟩
theorem keep00 {w w' : World} {g : Nat} (hb : Below (w00 w).heap.size (w00 w) w') (hk : Go.Proofs.YtdgidcfmggmbiaaW.PrintWords.KeepBut w w' g none) : KeepBut w w' g none := ⟨hk.1, hk.2, hb.os, hb.tape, hb.output⟩
theorem GAt.drewN {w : World} {g : Nat} {s : ByteArray} {r : List Int} (h : GAt w g s r) (n : Nat) : GAt (w.drewN n) g s r := ⟨h.cell, h.small⟩
theorem GBad.drewN {w : World} {g : Nat} {s : ByteArray} {c : Int} {k : Nat} (h : GBad w g s c k) (n : Nat) : GBad (w.drewN n) g s c k := ⟨h.cell, h.small, h.ne⟩
theorem GAt.lt {w : World} {g : Nat} {s : ByteArray} {r : List Int} (h : GAt w g s r) : g < w.heap.size := by
  obtain ⟨⟨i, h1, h2⟩, h5⟩ := h
  exact blk_lt h1
theorem GAt.moved {w : World} {g : Nat} {s : ByteArray} {r : List Int} {o : Obj} (h : GAt w g s r) : GAt (w.alloc o) g s r := by
  obtain ⟨⟨i, h1, h2⟩, h5⟩ := h
  exact ⟨⟨i, blk_alloc h1 o, h2⟩, h5⟩
theorem GAt.belowB {w w1 : World} {B g : Nat} {s : ByteArray} {r : List Int} (h : GAt w g s r) (hb : Below B w w1) (hg : g < B) : GAt w1 g s r := by
  obtain ⟨⟨i, h1, h2⟩, h5⟩ := h
  exact ⟨⟨i, (hb.block g hg).trans h1, h2⟩, h5⟩
theorem GAt.below {w w1 : World} {g : Nat} {s : ByteArray} {r : List Int} (h : GAt w g s r) (hb : Below w.heap.size w w1) : GAt w1 g s r := h.belowB hb h.lt
theorem GAt.far {w : World} {g : Nat} {s : ByteArray} {r : List Int} (h : GAt w g s r) {p : Addr} (hne : g ≠ p.block) (u : Value) : GAt (w.setCell p u) g s r := by
  obtain ⟨⟨i, h1, h2⟩, h5⟩ := h
  exact ⟨⟨i, (Below.heap_setCell w p u g hne).trans h1, h2⟩, h5⟩
theorem GAt.far3 {w : World} {g : Nat} {s : ByteArray} {r : List Int} (h : GAt w g s r) {q : Nat} (hne : g ≠ q) {u0 u1 u2 : Value} : GAt (((w.setCell ⟨q, 0, none⟩ u0).setCell ⟨q, 1, none⟩ u1).setCell ⟨q, 2, none⟩ u2) g s r :=
  ((h.far (p := ⟨q, 0, none⟩) hne u0).far (p := ⟨q, 1, none⟩) hne u1).far (p := ⟨q, 2, none⟩) hne u2
theorem GBad.lt {w : World} {g : Nat} {s : ByteArray} {c : Int} {k : Nat} (h : GBad w g s c k) : g < w.heap.size := blk_lt h.cell
theorem GBad.belowB {w w1 : World} {B g : Nat} {s : ByteArray} {c : Int} {k : Nat} (h : GBad w g s c k) (hb : Below B w w1) (hg : g < B) : GBad w1 g s c k := ⟨(hb.block g hg).trans h.cell, h.small, h.ne⟩
theorem GBad.below {w w1 : World} {g : Nat} {s : ByteArray} {c : Int} {k : Nat} (h : GBad w g s c k) (hb : Below w.heap.size w w1) : GBad w1 g s c k := h.belowB hb h.lt
theorem GBad.far {w : World} {g : Nat} {s : ByteArray} {c : Int} {k : Nat} (h : GBad w g s c k) {p : Addr} (hne : g ≠ p.block) (u : Value) : GBad (w.setCell p u) g s c k := ⟨(Below.heap_setCell w p u g hne).trans h.cell, h.small, h.ne⟩
theorem GBad.far3 {w : World} {g : Nat} {s : ByteArray} {c : Int} {k : Nat} (h : GBad w g s c k) {q : Nat} (hne : g ≠ q) {u0 u1 u2 : Value} : GBad (((w.setCell ⟨q, 0, none⟩ u0).setCell ⟨q, 1, none⟩ u1).setCell ⟨q, 2, none⟩ u2) g s c k :=
  ((h.far (p := ⟨q, 0, none⟩) hne u0).far (p := ⟨q, 1, none⟩) hne u1).far (p := ⟨q, 2, none⟩) hne u2
theorem GAt.facts {w : World} {g : Nat} {s : ByteArray} {r : List Int} (h : GAt w g s r) : ∃ i : Int, w.cell? ⟨g, 0, none⟩ = some (.string s) ∧ w.cell? ⟨g, 1, none⟩ = some (.int .i64 i) ∧ w.cell? ⟨g, 2, none⟩ = some (.int .i64 0) ∧ w.frozen? ⟨g, 1, none⟩ = false ∧ 0 ≤ i ∧ i + (r.length : Int) = (s.size : Int) ∧ (s.size : Int) ≤ 256 := by
  obtain ⟨⟨i, h1, h2, h3, h4⟩, h5⟩ := h
  exact ⟨i, blk_cell h1 0, blk_cell h1 1, blk_cell h1 2, blk_frozen h1 1, h2, h3, by omega⟩
theorem GBad.facts {w : World} {g : Nat} {s : ByteArray} {c : Int} {k : Nat} (h : GBad w g s c k) : w.cell? ⟨g, 0, none⟩ = some (.string s) ∧ w.cell? ⟨g, 1, none⟩ = some (.int .i64 (s.size : Int)) ∧ w.cell? ⟨g, 2, none⟩ = some (.int .i64 c) ∧ w.cell? ⟨g, 3, none⟩ = some (.int .i64 ((s.size : Int) - (k : Int))) ∧ w.frozen? ⟨g, 1, none⟩ = false ∧ (s.size : Int) ≤ 256 := by
  obtain ⟨h1, h5, _⟩ := h
  exact ⟨blk_cell h1 0, blk_cell h1 1, blk_cell h1 2, blk_cell h1 3, blk_frozen h1 1, by omega⟩
theorem GAt.rng {w : World} {g : Nat} {s : ByteArray} {r : List Int} (h : GAt w g s r) : ∀ x, x ∈ r → 0 ≤ x ∧ x < 256 := by
  obtain ⟨⟨i, h1, h2, h3, h4⟩, h5⟩ := h
  intro x hx
  rw [← h4] at hx
  exact bI_rng s x (List.mem_of_mem_drop hx)
/-- A byte is left. -/
theorem GAt.char {w : World} {g : Nat} {s : ByteArray} {c : Int} {r : List Int} (h : GAt w g s (c :: r)) : ∃ i : Int, w.cell? ⟨g, 0, none⟩ = some (.string s) ∧ w.cell? ⟨g, 1, none⟩ = some (.int .i64 i) ∧ w.cell? ⟨g, 2, none⟩ = some (.int .i64 0) ∧ w.frozen? ⟨g, 1, none⟩ = false ∧ 0 ≤ i ∧ i + (r.length : Int) + 1 = (s.size : Int) ∧ (s.size : Int) ≤ 256 ∧
    (∀ W : World, (Instr.index 9 (.string s) (.int .i64 i)).run Try.prog W = .ok (.int .u8 c) W) ∧ GAt (w.setCell ⟨g, 1, none⟩ (.int .i64 (i + 1))) g s r ∧ 0 ≤ c ∧ c < 256 := by
  obtain ⟨⟨i, h1, h2, h3, h4⟩, h5⟩ := h
  obtain ⟨hi, hc⟩ := bI_get h4
  have hrng := bI_rng s c (List.mem_of_mem_drop (by rw [h4]; exact List.mem_cons_self ..))
  simp only [List.length_cons] at h3
  refine ⟨i, blk_cell h1 0, blk_cell h1 1, blk_cell h1 2, blk_frozen h1 1, h2, by omega, by omega, ?_, ⟨⟨i + 1, ?_, by omega, by omega, ?_⟩, h5⟩, hrng⟩
  · intro W
    rw [run_index_string W 9 s .i64 i Try.underlying9, dif_pos ⟨h2, by omega⟩, hc]
  · have := blk_set h1 1 (.int .i64 (i + 1))
    simpa using this
  · have e : (i + 1).toNat = i.toNat + 1 := by omega
    rw [e, ← List.drop_drop, h4]
    rfl
/-- What is left, as a text. -/
theorem GAt.tail_text {w : World} {g : Nat} {s : ByteArray} {r : List Int} (h : GAt w g s r) : ∃ (i : Int) (t : ByteArray), w.cell? ⟨g, 0, none⟩ = some (.string s) ∧ w.cell? ⟨g, 1, none⟩ = some (.int .i64 i) ∧ w.frozen? ⟨g, 1, none⟩ = false ∧ 0 ≤ i ∧ i + (r.length : Int) = (s.size : Int) ∧ (s.size : Int) ≤ 256 ∧
    (∀ W : World, (Instr.slice 9 (.string s) (some (.int .i64 i)) none none).run Try.prog W = .ok (.string t) W) ∧ bI t = r := by
  obtain ⟨⟨i, h1, h2, h3, h4⟩, h5⟩ := h
  refine ⟨i, s.extract i.toNat s.size, blk_cell h1 0, blk_cell h1 1, blk_frozen h1 1, h2, h3, by omega, ?_, ?_⟩
  · intro W
    exact run_slice_string_l W 9 s Try.underlying9 .i64 i h2 (by omega)
  · rw [bI_extract, h4, List.take_of_length_le (by omega)]
/-- Whether a text begins with another. -/
theorem prefix2_any (t p : ByteArray) (w : World) : Calls Try.prog 52 #[.string t, .string p] w fun e w' => e = .returned (.bool (decide (bI p <+: bI t))) ∧ ∃ q, w' = w.drewN q := by
  have h : strings_HasPrefix.f t p = some (decide (bI p <+: bI t)) := by
    unfold strings_HasPrefix.f stringslite_HasPrefix.f
    have hl := bI_len t
    have hp := bI_len p
    by_cases h0 : (t.size : Int) ≥ (p.size : Int)
    · rw [if_pos h0, if_pos (by omega), if_pos (by omega), bI_inj_list, bI_extract]
      show some ((((bI t).drop 0).take (((p.size : Int) : Int).toNat - 0)) == bI p) = _
      congr 1
      rw [Bool.eq_iff_iff, beq_iff_eq, decide_eq_true_eq, List.drop_zero, Nat.sub_zero, Int.toNat_natCast, ← hp]
      constructor
      · intro e; rw [← e]; exact List.take_prefix _ _
      · intro e; exact (List.prefix_iff_eq_take.mp e).symm
    · rw [if_neg h0]
      show some false = _
      congr 1
      symm
      rw [decide_eq_false_iff_not]
      intro e
      have := e.length_le
      omega
  refine (strings_HasPrefix.calls t p _ w h).mono ?_
  rintro e w' ⟨he, hd⟩
  exact ⟨he, hd.out⟩
theorem gover_any {w : World} {g : Nat} {s : ByteArray} {i : Int} (b : Bool) (f0 : w.cell? ⟨g, 0, none⟩ = some (.string s)) (f1 : w.cell? ⟨g, 1, none⟩ = some (.int .i64 i)) (hb : decide (i ≥ (s.size : Int)) = b) : Calls Try.prog 25 #[.pointer (some ⟨g, 0, none⟩)] w fun e w' => e = .returned (.bool b) ∧ ∃ q, w' = w.drewN q := by
  have HV := Lib.hid hb
  clear hb
  go_enter Try.func25, Try.ntmps25
  go_wp2
  repeat (go_quiet (fail); try go_wp2)
  go_ret
  exact ⟨by first | rfl | (rw [HV.out]; rfl), _, rfl⟩
theorem gover_at {w : World} {g : Nat} {s : ByteArray} {r : List Int} (h : GAt w g s r) : Calls Try.prog 25 #[.pointer (some ⟨g, 0, none⟩)] w fun e w' => e = .returned (.bool r.isEmpty) ∧ ∃ q, w' = w.drewN q := by
  obtain ⟨i, f0, f1, f2, f3, h1, h2, h3⟩ := h.facts
  refine gover_any _ f0 f1 ?_
  cases r with
  | nil => simp only [List.length_nil] at h2; simp; omega
  | cons c r => simp only [List.length_cons] at h2; simp; omega
theorem gover_bad {w : World} {g : Nat} {s : ByteArray} {c : Int} {k : Nat} (h : GBad w g s c k) : Calls Try.prog 25 #[.pointer (some ⟨g, 0, none⟩)] w fun e w' => e = .returned (.bool true) ∧ ∃ q, w' = w.drewN q := by
  obtain ⟨f0, f1, _⟩ := h.facts
  exact gover_any _ f0 f1 (by simp)
theorem gfail_any {w : World} {g : Nat} {s : ByteArray} {r : List Int} (h : GAt w g s r) {c p : Int} {k : Nat} (hc : c ≠ 0) (hp : p = (s.size : Int) - (k : Int)) : Calls Try.prog 53 #[.pointer (some ⟨g, 0, none⟩), .int .i64 c, .int .i64 p] w fun e w' => e = .returned (.tuple #[]) ∧ KeepBut w w' g none ∧ GBad w' g s c k := by
  obtain ⟨⟨i, h1, _⟩, h5⟩ := h
  refine (glob_reader_fail.calls g s i 0 0 c p s (s.size : Int) c p (w00 w) w ⟨h1, Nat.zero_le _⟩ (b00 w) rfl).mono ?_
  rintro e w' ⟨he, h2, h3, h4⟩
  exact ⟨he, keep00 h3 h4, ⟨by rw [← hp]; exact h2.1, h5, hc⟩⟩
theorem next_cons_f {s : ByteArray} {i c : Int} {r : List Int} (h0 : 0 ≤ i) (hs : s.size ≤ 256) (h : (bI s).drop i.toNat = c :: r) : glob_reader_next.f s i 0 0 = some (c, s, i + 1, 0, 0) := by
  obtain ⟨hi, hc⟩ := bI_get h
  have e1 : wrap64 (i + 1) = i + 1 := by unfold wrap64; omega
  have e2 : wrap64 (i + 1 - 1) = i := by unfold wrap64; omega
  have e3 : bt s i = c := by rw [bt, dif_pos hi, hc]
  have e4 : decide (i ≥ (s.size : Int)) = false := by simp; omega
  unfold glob_reader_next.f glob_reader_over.f
  simp only [Option.bind_some, e4, e1, e2, e3]
  rw [if_neg (by decide), if_pos h0, if_pos (by omega)]
theorem next_nil_f {s : ByteArray} {i : Int} (h : i = (s.size : Int)) : glob_reader_next.f s i 0 0 = some (0, s, (s.size : Int), 31, (s.size : Int)) := by
  subst h
  unfold glob_reader_next.f glob_reader_over.f glob_reader_fail.f
  simp
def BRes (w : World) (g : Nat) (s : ByteArray) (q : R (Int × Bool)) (e : Ending) (w' : World) : Prop :=
  match q with
  | .ok v r => e = .returned (.tuple #[.int .u8 v.1, .bool v.2]) ∧ KeepBut w w' g none ∧ GAt w' g s r
  | .err c k => ∃ b, e = .returned (.tuple #[.int .u8 0, .bool b]) ∧ KeepBut w w' g none ∧ GBad w' g s c k
theorem byte_any {w : World} {g : Nat} {s : ByteArray} {r : List Int} (h : GAt w g s r) : Calls Try.prog 26 #[.pointer (some ⟨g, 0, none⟩)] w (BRes w g s (itemG r)) := by
  obtain ⟨⟨i, h1, h2, h3, h4⟩, h5⟩ := h
  have hI : IsS67 (w00 w) w g s i 0 0 := ⟨h1, Nat.zero_le _⟩
  cases r with
  | nil =>
    simp only [List.length_nil] at h3
    have hf : glob_reader_byte.f s i 0 0 = some (0, false, s, (s.size : Int), 31, (s.size : Int)) := by
      unfold glob_reader_byte.f; rw [next_nil_f (by omega)]; rfl
    refine (glob_reader_byte.calls g s i 0 0 _ _ _ _ _ _ (w00 w) w hI (b00 w) hf).mono ?_
    rintro e w' ⟨he, k1, k2, k3⟩
    exact ⟨_, he, keep00 k2 k3, ⟨by simpa using k1.1, h5, by decide⟩⟩
  | cons c r =>
    have e1 := next_cons_f h2 h5 h4
    simp only [List.length_cons] at h3
    have hd : (bI s).drop (i + 1).toNat = r := by
      have e : (i + 1).toNat = i.toNat + 1 := by omega
      rw [e, ← List.drop_drop, h4]; rfl
    by_cases hc : c = 92
    · subst hc
      cases r with
      | nil =>
        simp only [List.length_nil] at h3
        have hf : glob_reader_byte.f s i 0 0 = some (0, true, s, (s.size : Int), 31, (s.size : Int)) := by
          unfold glob_reader_byte.f; rw [e1]; simp only [Option.bind_some]; rw [next_nil_f (by omega)]; rfl
        refine (glob_reader_byte.calls g s i 0 0 _ _ _ _ _ _ (w00 w) w hI (b00 w) hf).mono ?_
        rintro e w' ⟨he, k1, k2, k3⟩
        exact ⟨_, he, keep00 k2 k3, ⟨by simpa using k1.1, h5, by decide⟩⟩
      | cons d r =>
        have e2 := next_cons_f (by omega) h5 hd
        simp only [List.length_cons] at h3
        have hf : glob_reader_byte.f s i 0 0 = some (d, true, s, i + 1 + 1, 0, 0) := by
          unfold glob_reader_byte.f; rw [e1]; simp only [Option.bind_some]; rw [e2]; rfl
        refine (glob_reader_byte.calls g s i 0 0 _ _ _ _ _ _ (w00 w) w hI (b00 w) hf).mono ?_
        rintro e w' ⟨he, k1, k2, k3⟩
        refine ⟨he, keep00 k2 k3, ⟨⟨i + 1 + 1, k1.1, by omega, by omega, ?_⟩, h5⟩⟩
        have e : (i + 1 + 1).toNat = (i + 1).toNat + 1 := by omega
        rw [e, ← List.drop_drop, hd]; rfl
    · have hf : glob_reader_byte.f s i 0 0 = some (c, false, s, i + 1, 0, 0) := by
        unfold glob_reader_byte.f; rw [e1]; simp only [Option.bind_some]; rw [if_neg hc]
      have hq : itemG (c :: r) = .ok (c, false) r := by simp [itemG, hc]
      rw [hq]
      refine (glob_reader_byte.calls g s i 0 0 _ _ _ _ _ _ (w00 w) w hI (b00 w) hf).mono ?_
      rintro e w' ⟨he, k1, k2, k3⟩
      exact ⟨he, keep00 k2 k3, ⟨⟨i + 1, k1.1, by omega, by omega, hd⟩, h5⟩⟩
end Go.Proofs.Ytdgidcfmggmbiaa.Rx
