/- The walk of run. -/
import Derived.Test.YtdgidcfmggmbiaaNt
import Derived.Deep.CutRange
import Derived.Deep.RegionWith
import Derived.Deep.QuietTactic
namespace Go.Proofs.Ytdgidcfmggmbiaa.Nm
set_option linter.unusedVariables false
set_option linter.unusedSimpArgs false
open Go.RowKit Mem Re Go.Proofs.YtdgidcfmggmbiaaW.PrintWords

structure SD where
  sb : Nat
  fb : Nat
  lv : Value
  F : List Int
  L : List Int
def SD.At (d : SD) (W : World) (base : Nat) : Prop := SS W base d.sb d.F d.L d.lv d.fb
def SD.O (d : SD) (k : Nat) : Prop := Oss d.sb d.fb d.lv k

theorem SS.lt {w : World} {base sb : Nat} {F L : List Int} {lv : Value} {fb : Nat} (h : SS w base sb F L lv fb) : ∀ k, Oss sb fb lv k → k < w.heap.size := by
  rintro k (rfl | rfl | e)
  · exact h.blk.lt
  · exact h.fblk.lt
  · exact (h.row.lt k e).2

/-- In the middle of a run: the machine, two sets. -/
structure RW (w : World) (base b : Nat) (R : List (St × Option Nat)) (sv : Value) (st stp : Int) (A B : SD) (W : World) : Prop where
  s1 : A.At W base
  s2 : B.At W base
  dis : ∀ k, A.O k → ¬ B.O k
  f1 : ∀ k, A.O k → w.heap.size ≤ k
  f2 : ∀ k, B.O k → w.heap.size ≤ k
  pm : PM W base b R sv st 0 stp
  kp : Kp w W (fun k => k = b)
  blt : b < w.heap.size

section
variable {w : World} {base b : Nat} {R : List (St × Option Nat)} {sv : Value} {st stp : Int} {A B : SD} {W W' : World}
theorem RW.swap (h : RW w base b R sv st stp A B W) : RW w base b R sv st stp B A W := ⟨h.s2, h.s1, fun k c d => h.dis k d c, h.f2, h.f1, h.pm, h.kp, h.blt⟩
theorem RW.ch2 (h : RW w base b R sv st stp A B W) {B' : SD} (hs : B'.sb = B.sb) (hf : B'.fb = B.fb) (h2 : B'.At W' base) (hl : Lown W B'.lv B.lv) (hk : Kp W W' B.O) : RW w base b R sv st stp A B' W' := by
  have key : ∀ k, B'.O k → B.O k ∨ W.heap.size ≤ k := by
    rintro k (c | c | c)
    · exact .inl (.inl (by rw [c, hs]))
    · exact .inl (.inr (.inl (by rw [c, hf])))
    · rcases hl with e | ⟨q, e, hq⟩
      · exact .inl (.inr (.inr (by rw [← e]; exact c)))
      · rw [e] at c; injection c with c; subst c; exact .inr hq
  have hz := h.kp.size
  refine ⟨h.s1.kp hk (fun k c d => h.dis k d c), h2, fun k c d => ?_, h.f1, fun k c => ?_, h.pm.kp hk h.s2.oth, h.kp.trans hk (fun k hk c => by have := h.f2 k c; omega), h.blt⟩
  · rcases key k d with e | e
    · exact h.dis k c e
    · have := h.s1.lt k c; omega
  · rcases key k c with e | e
    · exact h.f2 k e
    · omega
theorem RW.kp0 (h : RW w base b R sv st stp A B W) (hk : Kp W W' (fun _ => False)) : RW w base b R sv st stp A B W' :=
  ⟨h.s1.kp hk (fun _ c => c.elim), h.s2.kp hk (fun _ c => c.elim), h.dis, h.f1, h.f2, h.pm.kp hk (oth_none W), h.kp.trans hk (fun _ _ c => c.elim), h.blt⟩
theorem RW.sto (h : RW w base b R sv st stp A B W) (v : Int) : RW w base b R sv st v A B (W.setCell ⟨b, 3, none⟩ (.int .i64 v)) := by
  have hq : Kp W (W.setCell ⟨b, 3, none⟩ (.int .i64 v)) (fun q => q = b) := Kp.set_ (p := ⟨b, 3, none⟩) (Kp.refl W (fun q => q = b)) (fun _ => rfl) _
  have hb := h.blt
  refine ⟨h.s1.kp hq (fun k e c => by have := h.f1 k c; omega), h.s2.kp hq (fun k e c => by have := h.f2 k c; omega), h.dis, h.f1, h.f2, ⟨by simpa using h.pm.blk.set_ 3 (.int .i64 v), h.pm.ge, own_kp h.pm.row hq (fun k e c => ?_), fun e he => (h.pm.sets e he).kp hq (fun q c cs hc => ?_)⟩, h.kp.set_ (fun _ => rfl) _, h.blt⟩
  · subst c; exact own_blk_ne h.pm.row h.pm.blk (by decide) e
  · subst c; exact (Blk.ne_ h.pm.blk hc (by decide)) rfl
end

theorem clear_rw {w : World} {base b : Nat} {R : List (St × Option Nat)} {sv : Value} {st stp : Int} {A B : SD} {W : World} (h : RW w base b R sv st stp A B W) (hO : SetOk (R.map (·.1)) B.F B.L) (hn : R.length ≤ 1000000) :
    Calls Try.prog 59 #[.pointer (some ⟨B.sb, 0, none⟩)] W fun e W' => e = .returned (.tuple #[]) ∧ ∃ B' : SD, B'.sb = B.sb ∧ RW w base b R sv st stp A B' W' ∧ B'.L = [] ∧ B'.F.length = R.length ∧ ∀ y : Int, 0 ≤ y → y < R.length → fa B'.F y = -1 := by
  have hl : B.F.length = R.length := by simpa using hO.len
  have hll : B.L.length ≤ 1000000 := by
    have := nodup_len R.length B.L hO.nd (fun x hx => by have := (hO.mem x).1 hx; simp at this; omega)
    omega
  refine (clear_any W base B.sb B.F B.L B.lv B.fb h.s2 (fun x hx => by have := (hO.mem x).1 hx; simp at this; omega) (by omega) hll).mono ?_
  rintro e W' ⟨he, F', lv', h1, h2, h3, h4, h5⟩
  refine ⟨he, ⟨B.sb, B.fb, lv', F', []⟩, rfl, h.ch2 rfl rfl h1 (.inl h4) h5, rfl, h2.trans hl, fun y y0 y1 => ?_⟩
  by_cases hy : y ∈ B.L
  · exact (h3 y y0 (by omega)).1 hy
  · show fa F' y = -1
    rw [(h3 y y0 (by omega)).2 hy]
    by_cases e : fa B.F y = -1
    · exact e
    · exact (hy ((hO.mem y).2 ⟨y0, by simpa using y1, e⟩)).elim

theorem meet_rw {w : World} {base b : Nat} {R : List (St × Option Nat)} {sv : Value} {st stp : Int} {A B : SD} {W : World} (h : RW w base b R sv st stp A B W) (hB : base ≤ W.heap.size) (hO : SetOk (R.map (·.1)) B.F B.L) (hn : R.length ≤ 1000000)
    (hM : ∀ (k : Nat) (s : St), (R.map (·.1))[k]? = some s → (-1 ≤ s.next ∧ s.next < (R.map (·.1)).length) ∧ (-1 ≤ s.other ∧ s.other < (R.map (·.1)).length)) (x a : Int) (hx : -1 ≤ x ∧ x < R.length) (ha : 0 ≤ a) :
    Calls Try.prog 58 #[.pointer (some ⟨b, 0, none⟩), .pointer (some ⟨B.sb, 0, none⟩), .int .i64 x, .int .i64 a] W fun e W' => e = .returned (.tuple #[]) ∧ ∃ B' : SD, B'.sb = B.sb ∧ RW w base b R sv st stp A B' W' ∧ SetOk (R.map (·.1)) B'.F B'.L ∧ Re.Met (R.map (·.1)) B.F B'.F x a := by
  refine (meet_any W base b R sv st 0 stp h.pm hB hn hM B.sb B.F B.L B.lv B.fb h.s2 hO x a hx ha).mono ?_
  rintro e W' ⟨he, F', L', lv', h1, h2, h3, h4, h5⟩
  exact ⟨he, ⟨B.sb, B.fb, lv', F', L'⟩, rfl, h.ch2 rfl rfl h1 h4 h5, h2, h3⟩

/-- The text's bytes. -/
def bS (s : ByteArray) (k : Nat) : Int := bt s (k : Int)

theorem bS_lt (s : ByteArray) (k : Nat) : 0 ≤ bS s k ∧ bS s k < 256 := by
  unfold bS bt
  split
  · have := (s[((k : Int)).toNat]).toNat_lt
    omega
  · omega

theorem fa_rep (n : Nat) (y : Int) : fa (List.replicate n (-1)) y = -1 := by
  unfold fa
  rw [List.getD_eq_getElem?_getD, List.getElem?_replicate]
  split <;> rfl

theorem setOk_rep (r : Re) : SetOk (mac r) (List.replicate (mac r).length (-1)) [] :=
  (next_nil (b := fun _ => 0) (len := 0) (anyw := false) (at0 := 0) (i := 0) (F := []) (ok := false) (frm := 0) (by simp) (fun y _ _ => fa_rep _ y)).set

/-- The two new sets. -/
theorem rw_new {w w0 w1 w2 : World} {base b : Nat} {R : List (St × Option Nat)} {sv : Value} {st stp : Int} {sb1 fb1 sb2 fb2 : Nat} (hz : w0.heap.size = w.heap.size) (hP : PM w0 base b R sv st 0 stp) (hk : Kp w w0 (fun k => k = b)) (hb : b < w.heap.size)
    (q1 : SS w1 base sb1 (List.replicate R.length (-1)) [] (.slice none 0 0) fb1) (q2 : w0.heap.size ≤ sb1) (q3 : w0.heap.size ≤ fb1) (q4 : Kp w0 w1 (fun _ => False))
    (p1 : SS w2 base sb2 (List.replicate R.length (-1)) [] (.slice none 0 0) fb2) (p2 : w1.heap.size ≤ sb2) (p3 : w1.heap.size ≤ fb2) (p4 : Kp w1 w2 (fun _ => False)) :
    RW w base b R sv st stp ⟨sb2, fb2, .slice none 0 0, List.replicate R.length (-1), []⟩ ⟨sb1, fb1, .slice none 0 0, List.replicate R.length (-1), []⟩ w2 := by
  have z1 := q4.size
  have g2 : ∀ k, SD.O ⟨sb2, fb2, .slice none 0 0, List.replicate R.length (-1), []⟩ k → w1.heap.size ≤ k := by
    rintro k (c | c | c)
    · rw [c]; exact p2
    · rw [c]; exact p3
    · cases c
  have g1 : ∀ k, SD.O ⟨sb1, fb1, .slice none 0 0, List.replicate R.length (-1), []⟩ k → w0.heap.size ≤ k := by
    rintro k (c | c | c)
    · rw [c]; exact q2
    · rw [c]; exact q3
    · cases c
  refine ⟨p1, q1.kp p4 (fun _ c => c.elim), fun k c d => ?_, fun k c => by have := g2 k c; omega, fun k c => by have := g1 k c; omega, (hP.kp q4 (oth_none _)).kp p4 (oth_none _), (hk.trans q4 (fun _ _ c => c.elim)).trans p4 (fun _ _ c => c.elim), hb⟩
  have := g2 k c
  have := q1.lt k d
  omega

theorem SS.form {w : World} {base sb : Nat} {F L : List Int} {lv : Value} {fb : Nat} (h : SS w base sb F L lv fb) : ∃ LA lc, lv = .slice LA L.length lc := by
  rcases h.row.2 with ⟨e, e2⟩ | ⟨g, cap, _, e, _⟩
  · rw [e, e2]; exact ⟨_, _, rfl⟩
  · exact ⟨_, _, e⟩

theorem SS.cells {w : World} {base sb : Nat} {F L : List Int} {lv : Value} {fb n : Nat} (h : SS w base sb F L lv fb) (hn : F.length = n) : w.cell? ⟨sb, 0, none⟩ = some lv ∧ w.cell? ⟨sb, 1, none⟩ = some (.slice (some ⟨fb, 0, none⟩) n n) ∧ ∀ X : Nat, X < n → w.cell? ⟨fb, X, none⟩ = some (.int .i64 (fa F X)) := by
  subst hn
  refine ⟨by simpa using h.blk.cell 0, by simpa using h.blk.cell 1, fun X hX => ?_⟩
  have := h.fblk.cell X
  rw [ints_getD hX (-1)] at this
  exact this

theorem PM.cells0 {w : World} {base b : Nat} {R : List (St × Option Nat)} {sv : Value} {st en stp : Int} (h : PM w base b R sv st en stp) :
    w.cell? ⟨b, 0, none⟩ = some sv ∧ w.cell? ⟨b, 1, none⟩ = some (.int .i64 st) ∧ w.cell? ⟨b, 2, none⟩ = some (.int .i64 en) ∧ w.cell? ⟨b, 3, none⟩ = some (.int .i64 stp) :=
  ⟨by simpa using h.blk.cell 0, by simpa using h.blk.cell 1, by simpa using h.blk.cell 2, by simpa using h.blk.cell 3⟩

theorem best_le {bb : Nat → Int} {len : Nat} {r : Re} {anyw : Bool} {at0 i : Nat} {ok : Bool} {frm to_ : Int} (h : Best bb len r anyw at0 (i + 1) ok frm to_) : ok = true → frm ≤ i := by
  intro hok
  obtain ⟨f, t, e1, e2, _, h1, h2, _⟩ := h.2 hok
  have := ((reach_mt r f t).2 h2).le
  omega

/-- What run answers. -/
def RunPost (w : World) (base b : Nat) (R : List (St × Option Nat)) (sv : Value) (st : Int) (r : Re) (s : ByteArray) (at0 : Nat) (anyw : Bool) (e : Ending) (w' : World) : Prop :=
  ∃ (ok : Bool) (frm to_ stp : Int), e = .returned (.tuple #[.int .i64 frm, .int .i64 to_, .bool ok]) ∧ Best (bS s) s.size r anyw at0 (s.size + 1) ok frm to_ ∧ (ok = false → frm = 0 ∧ to_ = 0) ∧ 0 ≤ stp ∧ stp ≤ ((R.length * (s.size - at0) : Nat) : Int) ∧ PM w' base b R sv st 0 stp ∧ Kp w w' (fun k => k = b)

/-- At a place. -/
structure At1 (w : World) (base b : Nat) (R : List (St × Option Nat)) (sv : Value) (r : Re) (s : ByteArray) (at0 : Nat) (anyw : Bool) (i : Nat) (ok : Bool) (frm to_ : Int) (A B : SD) (q : Int) (W : World) : Prop where
  ile : i ≤ s.size
  ige : at0 ≤ i
  q0 : 0 ≤ q
  q1 : q ≤ ((R.length * (i - at0) : Nat) : Int)
  rw_ : RW w base b R sv (Re.start r) q A B W
  run : RunI (bS s) s.size r anyw at0 i A.F A.L ok frm
  best : Best (bS s) s.size r anyw at0 i ok frm to_
  none_ : ok = false → frm = 0 ∧ to_ = 0
  other : SetOk (mac r) B.F B.L

/-- The round's end. -/
theorem at1_next {w : World} {base b : Nat} {R : List (St × Option Nat)} {sv : Value} {r : Re} {s : ByteArray} {at0 : Nat} {anyw : Bool} {i : Nat} {ok ok1 : Bool} {frm to_ frm1 to1 : Int} {A B B2 B3 : SD} {q q2 : Int} {W W' : World}
    (h : At1 w base b R sv r s at0 anyw i ok frm to_ A B q W) (hML : (mac r).length = R.length) (hal : A.L.length ≤ R.length) (hlt : i < s.size) (hR : RunI (bS s) s.size r anyw at0 i A.F A.L ok1 frm1) (hb : Best (bS s) s.size r anyw at0 (i + 1) ok1 frm1 to1) (hno : ok1 = false → frm1 = 0 ∧ to1 = 0)
    (hN : NextI (bS s) s.size r anyw at0 i A.F ok1 frm1 A.L B2.F B2.L) (hw : RW w base b R sv (Re.start r) q2 A B3 W') (hqa : q ≤ q2) (hqb : q2 ≤ q + A.L.length)
    (hlast : (anyw = true ∧ ok1 = false ∧ SetOk (mac r) B3.F B3.L ∧ Re.Met (mac r) B2.F B3.F (Re.start r) ((i + 1 : Nat) : Int)) ∨ (¬ (anyw = true ∧ ok1 = false) ∧ B3.F = B2.F ∧ B3.L = B2.L)) :
    At1 w base b R sv r s at0 anyw (i + 1) ok1 frm1 to1 B3 A q2 W' where
  ile := hlt
  ige := by have := h.ige; omega
  q0 := by have := h.q0; omega
  q1 := by
    have e1 := h.q1
    have e3 := h.ige
    have e2 : R.length * (i + 1 - at0) = R.length * (i - at0) + R.length := by rw [show i + 1 - at0 = (i - at0) + 1 by omega, Nat.mul_succ]
    rw [e2]
    omega
  rw_ := hw.swap
  run := next_run h.ige hR hN (best_le hb) hlast
  best := hb
  none_ := hno
  other := h.run.set

def OutRel (w : World) (base b : Nat) (R : List (St × Option Nat)) (sv : Value) (r : Re) (s : ByteArray) (at0 : Nat) (anyw : Bool) (t8 t9 t10 t11 t12 t13 : Value) (W : World) : Prop :=
  ∃ (i : Nat) (ok : Bool) (frm to_ : Int) (A B : SD) (q : Int), t8 = .int .i64 frm ∧ t9 = .int .i64 to_ ∧ t10 = .bool ok ∧ t11 = .pointer (some ⟨A.sb, 0, none⟩) ∧ t12 = .pointer (some ⟨B.sb, 0, none⟩) ∧ t13 = .int .i64 i ∧ At1 w base b R sv r s at0 anyw i ok frm to_ A B q W

set_option maxHeartbeats 4000000 in
set_option maxRecDepth 100000 in
theorem run_any (w : World) (base b : Nat) (R : List (St × Option Nat)) (sv : Value) (stp : Int) (r : Re) (s : ByteArray) (at0 : Nat) (anyw : Bool) (hP : PM w base b R sv (Re.start r) 0 stp) (hB : base ≤ w.heap.size) (hR : R.map (·.1) = mac r) (hn : R.length ≤ 1000000) (hs : s.size ≤ 1000000000) (hat : at0 ≤ s.size) :
    Calls Try.prog 43 #[.pointer (some ⟨b, 0, none⟩), .string s, .int .i64 (at0 : Int), .bool anyw] w (RunPost w base b R sv (Re.start r) r s at0 anyw) := by
  have hML : (mac r).length = R.length := by rw [← hR]; simp
  have hM : ∀ (k : Nat) (x : St), (R.map (·.1))[k]? = some x → (-1 ≤ x.next ∧ x.next < (R.map (·.1)).length) ∧ (-1 ≤ x.other ∧ x.other < (R.map (·.1)).length) := by
    rw [hR]; exact fun k x hx => mac_closed r k x hx
  have hpos := mac_pos r
  have hst := start_lt r
  rw [hML] at hpos hst
  have hblt := hP.blk.lt
  have b3 := hP.blk.cell 3
  have b3f := hP.blk.frozen 3
  simp at b3
  have hP0 : PM (w.setCell ⟨b, 3, none⟩ (.int .i64 0)) base b R sv (Re.start r) 0 0 := by
    have hq : Kp w (w.setCell ⟨b, 3, none⟩ (.int .i64 0)) (fun q => q = b) := Kp.set_ (p := ⟨b, 3, none⟩) (Kp.refl w (fun q => q = b)) (fun _ => rfl) _
    refine ⟨by simpa using hP.blk.set_ 3 (.int .i64 0), hP.ge, own_kp hP.row hq (fun k e c => ?_), fun e he => (hP.sets e he).kp hq (fun q c cs hc => ?_)⟩
    · subst c; exact own_blk_ne hP.row hP.blk (by decide) e
    · subst c; exact (Blk.ne_ hP.blk hc (by decide)) rfl
  have hk0 : Kp w (w.setCell ⟨b, 3, none⟩ (.int .i64 0)) (fun k => k = b) := Kp.set_ (p := ⟨b, 3, none⟩) (Kp.refl w (fun k => k = b)) (fun _ => rfl) _
  have hn1 := newSet_any (w.setCell ⟨b, 3, none⟩ (.int .i64 0)) base b R sv (Re.start r) 0 0 hP0 (Nat.le_trans hB hk0.size) hn hpos
  have hn2 : Hid (∀ w1, Kp (w.setCell ⟨b, 3, none⟩ (.int .i64 0)) w1 (fun _ => False) → Calls Try.prog 57 #[.pointer (some ⟨b, 0, none⟩)] w1 fun e w' => ∃ sb fb, e = .returned (.pointer (some ⟨sb, 0, none⟩)) ∧ SS w' base sb (List.replicate R.length (-1)) [] (.slice none 0 0) fb ∧ w1.heap.size ≤ sb ∧ w1.heap.size ≤ fb ∧ Kp w1 w' (fun _ => False)) := fun w1 hk =>
    newSet_any w1 base b R sv (Re.start r) 0 0 (hP0.kp hk (oth_none _)) (Nat.le_trans hB (Nat.le_trans hk0.size hk.size)) hn hpos
  have HP0 := Lib.hid hP0
  have HK0 := Lib.hid hk0
  have HM := Lib.hid hM
  have HR := Lib.hid hR
  clear hP hP0 hk0 hM hR
  go_enter Try.func43, Try.ntmps43
  go_wp2_with (first
    | (go_at_call 57; refine hn1.mono ?_; rintro e w1 ⟨sb1, fb1, rfl, q1, q2, q3, q4⟩; (have hn3 := hn2.out w1 q4; have Q1 := Lib.hid q1; have Q4 := Lib.hid q4; have Q2 := Lib.hid q2; have Q3 := Lib.hid q3; clear q1 q2 q3 q4 hn1 hn2))
    | (go_at_call 57; refine hn3.mono ?_; rintro e w2 ⟨sb2, fb2, rfl, q1, q2, q3, q4⟩; (have P1 := Lib.hid q1; have P4 := Lib.hid q4; have P2 := Lib.hid q2; have P3 := Lib.hid q3; have hnew := rw_new (by simp) HP0.out HK0.out hblt Q1.out Q2.out Q3.out Q4.out P1.out P2.out P3.out P4.out; have c1 := hnew.pm.blk.cell 1; simp at c1; have hme := meet_rw hnew (Nat.le_trans hB hnew.kp.size) (by rw [HR.out, ← hML]; exact setOk_rep r) hn HM.out (Re.start r) at0 (by omega) (by omega); clear q1 q2 q3 q4 hn3 hnew))
    | (go_at_call 58; refine hme.mono ?_; rintro e w3 ⟨rfl, D1, hd1, h1, h2, h3⟩; (rw [HR.out] at h2 h3; have hst2 := run_start (len := s.size) (b := bS s) (anyw := anyw) (fun y _ _ => fa_rep _ y) h2 h3; have HA : Hid (At1 w base b R sv r s at0 anyw at0 false 0 0 D1 ⟨sb2, fb2, .slice none 0 0, List.replicate R.length (-1), []⟩ 0 w3) := ⟨hat, Nat.le_refl _, Int.le_refl _, by simp, h1.swap, hst2.1, hst2.2, fun _ => ⟨rfl, rfl⟩, (by rw [← hML]; exact setOk_rep r)⟩; clear h1 h2 h3 hst2 hme)))
  go_loopw [8, 9, 10, 11, 12, 13] (fun t8 t9 t10 t11 t12 t13 wr => OutRel w base b R sv r s at0 anyw t8 t9 t10 t11 t12 t13 wr) (fun _ _ _ _ _ t13 _ => s.size - (intOf t13).toNat)
  case atStart => exact ⟨at0, false, 0, 0, D1, _, 0, rfl, rfl, rfl, by rw [hd1], rfl, rfl, HA.out⟩
  case round =>
    obtain ⟨i, ok, frm, to_, A, B, q, rfl, rfl, rfl, rfl, rfl, rfl, hA⟩ := hrel
    obtain ⟨asb, afb, alv, aF, aL⟩ := A
    have s1 : SS wr base asb aF aL alv afb := hA.rw_.s1
    obtain ⟨LA, lc, rfl⟩ := s1.form
    have hFl : aF.length = R.length := hA.run.set.len.trans hML
    obtain ⟨a0, a1, a2⟩ := s1.cells hFl
    have a20 := a2 0 hpos
    obtain ⟨b0, b1, b2, b3⟩ := hA.rw_.pm.cells0
    have hi := hA.ile
    have hq0 := hA.q0
    have hal : aL.length ≤ R.length := nodup_len _ _ hA.run.set.nd (fun x hx => by have := (hA.run.set.mem x).1 hx; rw [hML] at this; omega)
    have hq1 : q ≤ 1000000000000000 := by
      have e1 := hA.q1
      have e2 : R.length * (i - at0) ≤ 1000000 * 1000000000 := Nat.mul_le_mul hn (by omega)
      omega
    have HA := Lib.hid hA
    have HA2 := Lib.hid a2
    clear a2 hA s1 b3f
    obtain ⟨f0, hf0⟩ : ∃ f0, fa aF 0 = f0 := ⟨_, rfl⟩
    rw [show ((0 : Nat) : Int) = 0 from rfl, hf0] at a20
    go_wp2
    go_quiet (fail)
    go_upto_region 7 with fail
    go_cut [56] from 34 to 159 (fun s56 wc => s56 = .bool (decide (f0 ≠ -1 ∧ (ok = false ∨ f0 ≤ frm))) ∧ wc = wr.drewN nq)
    case first =>
      by_cases g1 : f0 = -1
      · have e1 : (f0 != -1) = false := by simpa using g1
        go_wp2
        go_meet
        case rel => exact ⟨by simp [g1], rfl⟩
      · have e1 : (f0 != -1) = true := by simpa using g1
        cases ok
        · go_wp2
          go_meet
          case rel => exact ⟨by simp [g1], rfl⟩
        · by_cases g2 : f0 ≤ frm
          · have e2 : decide (f0 ≤ frm) = true := by simpa using g2
            go_wp2
            go_meet
            case rel => exact ⟨by simp [g1, g2], rfl⟩
          · have e2 : decide (f0 ≤ frm) = false := by simpa using g2
            go_wp2
            go_meet
            case rel => exact ⟨by simp [g1, g2], rfl⟩
    case rest =>
      obtain ⟨rfl, rfl⟩ := hcut
      go_upto_if 56 with fail
      go_cut [8, 9, 10] from 34 to 159 (fun s8 s9 s10 wc => ∃ ok1 frm1 to1, s8 = .int .i64 frm1 ∧ s9 = .int .i64 to1 ∧ s10 = .bool ok1 ∧ Hid (RunI (bS s) s.size r anyw at0 i aF aL ok1 frm1) ∧ Hid (Best (bS s) s.size r anyw at0 (i + 1) ok1 frm1 to1) ∧ Hid (ok1 = false → frm1 = 0 ∧ to1 = 0) ∧ wc = wr.drewN nq)
      case first =>
        by_cases g1 : f0 ≠ -1 ∧ (ok = false ∨ f0 ≤ frm)
        · have e1 : decide (f0 ≠ -1 ∧ (ok = false ∨ f0 ≤ frm)) = true := by simpa using g1
          have hc := (run_check HA.out.run HA.out.best).1
          simp only [hf0] at hc
          have hc := Lib.hid (hc g1.1 g1.2)
          simp only [e1]
          go_wp2
          go_meet
          case rel => exact ⟨true, f0, i, rfl, rfl, rfl, hc.out.1, hc.out.2, (fun c => by cases c), rfl⟩
        · have e1 : decide (f0 ≠ -1 ∧ (ok = false ∨ f0 ≤ frm)) = false := by simpa using g1
          have hc := (run_check HA.out.run HA.out.best).2
          simp only [hf0] at hc
          have hc := Lib.hid (hc g1)
          simp only [e1]
          go_wp2
          go_meet
          case rel => exact ⟨ok, frm, to_, rfl, rfl, rfl, HA.out.run, hc.out, HA.out.none_, rfl⟩
      case rest =>
        obtain ⟨ok1, frm1, to1, rfl, rfl, rfl, HRI, HBE, HNO, rfl⟩ := hcut
        go_upto_region 9 with fail
        go_cut [77] from 34 to 159 (fun s77 wc => s77 = .bool (decide (i = s.size ∨ (aL = [] ∧ (ok1 = true ∨ anyw = false)))) ∧ wc = wr.drewN nq)
        case first =>
          by_cases g1 : i = s.size
          · have e1 : ((i : Int) == (s.size : Int)) = true := by simp [g1]
            go_wp2
            go_meet
            case rel => exact ⟨by simp [g1], rfl⟩
          · have e1 : ((i : Int) == (s.size : Int)) = false := by simp; omega
            by_cases g2 : aL = []
            · have e2 : ((aL.length : Int) == 0) = true := by simp [g2]
              cases ok1
              · cases anyw
                · go_wp2
                  go_meet
                  case rel => exact ⟨by simp [g2], rfl⟩
                · go_wp2
                  go_meet
                  case rel => exact ⟨by simp [g1], rfl⟩
              · go_wp2
                go_meet
                case rel => exact ⟨by simp [g2], rfl⟩
            · have e2 : ((aL.length : Int) == 0) = false := by simpa using g2
              go_wp2
              go_meet
              case rel => exact ⟨by simp [g1, g2], rfl⟩
        case rest =>
          obtain ⟨rfl, rfl⟩ := hcut
          by_cases hov : i = s.size ∨ (aL = [] ∧ (ok1 = true ∨ anyw = false))
          · have e1 : decide (i = s.size ∨ (aL = [] ∧ (ok1 = true ∨ anyw = false))) = true := by simpa using hov
            have HE := Lib.hid (run_over HA.out.ige hi HRI.out HBE.out hov)
            have HKD : Hid (Kp wr (wr.drewN nq) (fun _ => False)) := (Kp.refl wr _).drewN nq
            have hqq : Hid (q ≤ ((R.length * (s.size - at0) : Nat) : Int)) := by
              have e1 := HA.out.q1
              have e2 : R.length * (i - at0) ≤ R.length * (s.size - at0) := Nat.mul_le_mul_left _ (by omega)
              exact Int.le_trans e1 (by omega)
            rw [e1]
            go_wp2
            go_ret3
            exact ⟨ok1, frm1, to1, q, rfl, HE.out, HNO.out, HA.out.q0, hqq.out, (HA.out.rw_.kp0 HKD.out).pm, (HA.out.rw_.kp0 HKD.out).kp⟩
          · have e1 : decide (i = s.size ∨ (aL = [] ∧ (ok1 = true ∨ anyw = false))) = false := by simpa using hov
            have hlt : i < s.size := by
              rcases Nat.lt_or_ge i s.size with c | c
              · exact c
              · exact (hov (.inl (by omega))).elim
            rw [e1]
            clear hov e1
            have hcl := clear_rw (HA.out.rw_.kp0 ((Kp.refl wr _).drewN nq)) (by rw [HR.out]; exact HA.out.other) hn
            go_wp2_with (first
              | (go_at_call 59; refine hcl.mono ?_; rintro e W1 ⟨rfl, B1, hb1, h1, h2, h3, h4⟩; (obtain ⟨x0, x1, x2⟩ := (show SS W1 base asb aF aL (.slice LA aL.length lc) afb from h1.s1).cells hFl; have HX2 := Lib.hid x2; clear x2; have HW1 := Lib.hid h1; have HN1 : Hid (NextI (bS s) s.size r anyw at0 i aF ok1 frm1 [] B1.F B1.L) := (by rw [h2]; exact next_nil (h3.trans hML.symm) (by rw [hML]; exact h4)); clear h1 h2 h3 h4 hcl)))
            obtain ⟨gs, gc, rfl⟩ := own_form HA.out.rw_.pm.row (by omega)
            obtain ⟨wo, rfl⟩ : ∃ wo, wo = wr := ⟨_, rfl⟩
            go_loopw [88] (fun t88 wx => ∃ (k : Nat) (B2 : SD) (q2 : Int), t88 = .int .i64 k ∧ k ≤ aL.length ∧ B2.sb = B.sb ∧ Hid (RW w base b R (.slice (some ⟨gs, 0, none⟩) R.length gc) (Re.start r) q2 ⟨asb, afb, .slice LA aL.length lc, aF, aL⟩ B2 wx) ∧ Hid (NextI (bS s) s.size r anyw at0 i aF ok1 frm1 (aL.take k) B2.F B2.L) ∧ q ≤ q2 ∧ q2 ≤ q + k) (fun t88 _ => aL.length - (intOf t88).toNat)
            case atStart => exact ⟨0, B1, q, rfl, Nat.zero_le _, hb1, HW1, HN1, Int.le_refl _, by simp⟩
            case round =>
              obtain ⟨k, B2, q2, rfl, hk, hb2, HW2, HN2, hqa, hqb⟩ := hrel
              by_cases hkl : k < aL.length
              · have s1 : SS wr base asb aF aL (.slice LA aL.length lc) afb := HW2.out.s1
                obtain ⟨g, cap, eg⟩ := own_form s1.row (by omega)
                injection eg with eg1 _ eg3
                subst eg1 eg3
                have hmem : aL[k] ∈ aL := List.getElem_mem _
                obtain ⟨X, hX⟩ : ∃ X : Nat, aL[k] = (X : Int) := ⟨aL[k].toNat, by have := (HA.out.run.set.mem _).1 hmem; omega⟩
                have hXn : X < R.length := by
                  have e1 := (HA.out.run.set.mem _).1 hmem
                  rw [hX, hML] at e1
                  omega
                have l0 := own_cell s1.row (j := k) (u := .int .i64 (X : Int)) (by simp [hkl, hX])
                obtain ⟨y0, y1, y2⟩ := s1.cells hFl
                have y3 := y2 X hXn
                have hla : asb < wr.heap.size := s1.blk.lt
                have hlf : afb < wr.heap.size := s1.fblk.lt
                obtain ⟨v, hv⟩ : ∃ v, fa aF (X : Int) = v := ⟨_, rfl⟩
                rw [hv] at y3
                obtain ⟨s0, hs0⟩ : ∃ x, (mac r)[X]? = some x := ⟨_, List.getElem?_eq_getElem (by omega)⟩
                obtain ⟨p0, hp0⟩ := map_get (R := R) (k := X) (s := s0) (by rw [HR.out]; exact hs0)
                obtain ⟨z0, z1, z2, z3⟩ := HW2.out.pm.cells hp0
                obtain ⟨-, -, -, b3⟩ := HW2.out.pm.cells0
                have b3f := HW2.out.pm.blk.frozen 3
                obtain ⟨gc1, gc2⟩ := own_cap HW2.out.pm.row
                have hset := HW2.out.pm.sets _ (List.mem_of_getElem? hp0)
                have htk : Hid (aL.take (k + 1) = aL.take k ++ [(X : Int)]) := by unfold Hid; rw [List.take_succ_eq_append_getElem hkl, hX]
                have HXM : Hid ((X : Int) ∈ aL) := by rw [← hX]; exact hmem
                have HS0 : Hid ((mac r)[((X : Nat) : Int).toNat]? = some s0) := by rw [Int.toNat_natCast]; exact hs0
                clear y2 s1 hmem hX hs0
                cases p0 with
                | none =>
                  have he : s0.set = none := by
                    unfold SetAt at hset
                    cases hs : s0.set with
                    | none => rfl
                    | some f => simp only [hs] at hset; obtain ⟨_, c, _⟩ := hset; cases c
                  have HE := Lib.hid he
                  clear he
                  clear hset
                  go_wp2
                  go_roundw
                  case rel => exact ⟨k + 1, B2, q2, by go_num, by omega, hb2, HW2.out.kp0 ((Kp.refl wr _).alloc _), (by rw [htk.out]; exact next_skip HN2.out HS0.out (.inl HE.out)), hqa, by omega⟩
                  case measure => simp [intOf]; omega
                | some q0 =>
                  obtain ⟨f, hf, hqb0⟩ : ∃ f, s0.set = some f ∧ Blk wr q0 101 (setCells f) := by
                    unfold SetAt at hset
                    cases hs : s0.set with
                    | none => simp only [hs] at hset; cases hset
                    | some f => simp only [hs] at hset; obtain ⟨_, c, _, hb⟩ := hset; cases c; exact ⟨f, rfl, hb⟩
                  clear hset
                  go_upto_region 16 with fail
                  go_cut [115] from 89 to 142 (fun s115 wc => s115 = .bool (decide (ok1 = true ∧ frm1 < v)) ∧ wc = wr.alloc (.cells #[.pointer (some ⟨q0, 0, none⟩), .int .i64 s0.next, .int .i64 s0.other] 80))
                  case first =>
                    cases ok1
                    · go_wp2
                      go_meet
                      case rel => exact ⟨by simp, rfl⟩
                    · by_cases g1 : frm1 < v
                      · have e1 : decide (v > frm1) = true := by simpa using g1
                        go_wp2
                        go_meet
                        case rel => exact ⟨by simp [g1], rfl⟩
                      · have e1 : decide (v > frm1) = false := by simpa using g1
                        go_wp2
                        go_meet
                        case rel => exact ⟨by simp [g1], rfl⟩
                  case rest =>
                    obtain ⟨rfl, rfl⟩ := hcut
                    have HWA := Lib.hid (HW2.out.kp0 ((Kp.refl wr _).alloc (.cells #[.pointer (some ⟨q0, 0, none⟩), .int .i64 s0.next, .int .i64 s0.other] 80)))
                    by_cases hsk : ok1 = true ∧ frm1 < v
                    · have e1 : decide (ok1 = true ∧ frm1 < v) = true := by simpa using hsk
                      have hsk2 := Lib.hid hsk
                      rw [e1]
                      clear hsk
                      go_wp2
                      go_roundw
                      case rel => exact ⟨k + 1, B2, q2, by go_num, by omega, hb2, HWA.out, (by rw [htk.out]; exact next_skip HN2.out HS0.out (.inr (.inl (by rw [hv]; exact hsk2.out)))), hqa, by omega⟩
                      case measure => simp [intOf]; omega
                    · have e1 : decide (ok1 = true ∧ frm1 < v) = false := by simpa using hsk
                      rw [e1]
                      clear hsk e1
                      have HW17 := Lib.hid ((HW2.out.sto (q2 + 1)).kp0 ((Kp.refl _ _).alloc (.cells #[.pointer (some ⟨q0, 0, none⟩), .int .i64 s0.next, .int .i64 s0.other] 80)))
                      have hblw : b < wr.heap.size := HW2.out.pm.blk.lt
                      have hbx := Blk.new (wr.setCell ⟨b, 3, none⟩ (.int .i64 (q2 + 1))) 80 #[.pointer (some ⟨q0, 0, none⟩), .int .i64 s0.next, .int .i64 s0.other]
                      have hzz : (wr.setCell ⟨b, 3, none⟩ (.int .i64 (q2 + 1))).heap.size = wr.heap.size := by simp
                      rw [hzz] at hbx
                      clear hzz
                      have hx0 := hbx.cell 0
                      have hx1 := hbx.cell 1
                      simp at hx0 hx1
                      have hbt : ∀ h : i < s.size, ((s[i]'h).toNat : Int) = bt s (i : Int) := fun h => bt_at s (i : Int) h
                      have hbl : 0 ≤ bt s (i : Int) ∧ bt s (i : Int) < 256 := bS_lt s i
                      obtain ⟨hbl0, hbl1⟩ := hbl
                      have hqc := ((hqb0.far (p := ⟨b, 3, none⟩) (Blk.ne_ hqb0 HW2.out.pm.blk (by decide)) (.int .i64 (q2 + 1))).alloc (.cells #[.pointer (some ⟨q0, 0, none⟩), .int .i64 s0.next, .int .i64 s0.other] 80)).cell (bt s (i : Int)).toNat
                      rw [setCells_get f (bt s (i : Int)).toNat (by omega), Int.toNat_of_nonneg hbl0] at hqc
                      obtain ⟨-, a1', a2'⟩ := (show SS _ base asb aF aL _ afb from HW17.out.s1).cells hFl
                      have a3' := a2' X hXn
                      rw [hv] at a3'
                      clear a2' hbx
                      go_wp2
                      go_quiet (fail)
                      have HW18 := Lib.hid (HW17.out.kp0 ((Kp.refl _ _).drewN nq))
                      cases hfb : f (bt s (i : Int)) with
                      | false =>
                        rw [hfb] at hqc
                        have HFB := Lib.hid hfb
                        clear hfb
                        go_wp2
                        go_roundw
                        case rel => exact ⟨k + 1, B2, q2 + 1, by go_num, by omega, hb2, HW18.out, (by rw [htk.out]; exact next_skip HN2.out HS0.out (.inr (.inr ⟨f, hf, HFB.out⟩))), by omega, by omega⟩
                        case measure => simp [intOf]; omega
                      | true =>
                        rw [hfb] at hqc
                        have HFB := Lib.hid hfb
                        clear hfb
                        go_wp2
                        have hnx := (HM.out X s0 (by rw [HR.out]; exact HS0.out)).1
                        rw [show (R.map (·.1)).length = R.length by simp] at hnx
                        have hvv : 0 ≤ v := by
                          have c1 := (HA.out.run.set.mem (X : Int)).1 HXM.out
                          have c2 := HA.out.run.set.nn (X : Int) c1.1 c1.2.1 c1.2.2
                          rw [← hv]; exact c2
                        have hme := meet_rw (HW18.out.kp0 (Kp.refl _ _).drew) (Nat.le_trans hB (HW18.out.kp0 (Kp.refl _ _).drew).kp.size) (by rw [HR.out]; exact HN2.out.set) hn HM.out s0.next v hnx hvv
                        rw [hb2, HR.out] at hme
                        go_region_with (first
                          | (go_at_call 58; refine hme.mono ?_; rintro e W2 ⟨rfl, B3, hb3, h1, h2, h3⟩; (have H1 := Lib.hid h1; have H2 := Lib.hid h2; have H3 := Lib.hid h3; clear h1 h2 h3 hme)))
                        all_goals
                          go_wp2
                          go_roundw
                          case rel => exact ⟨k + 1, B3, q2 + 1, by go_num, by omega, hb3, H1.out, (by rw [htk.out]; exact next_meet hlt HRI.out HXM.out HN2.out HS0.out hf HFB.out H2.out (by rw [hv]; exact H3.out)), by omega, by omega⟩
                          case measure => simp [intOf]; omega
              · obtain rfl : k = aL.length := by omega
                rw [List.take_length] at HN2
                obtain ⟨-, b1, -, -⟩ := HW2.out.pm.cells0
                have hme := meet_rw HW2.out (Nat.le_trans hB HW2.out.kp.size) (by rw [HR.out]; exact HN2.out.set) hn HM.out (Re.start r) ((i : Int) + 1) (by omega) (by omega)
                rw [hb2, HR.out] at hme
                by_cases hno : anyw = true ∧ ok1 = false
                · obtain ⟨rfl, rfl⟩ := hno
                  go_wp2_with (first
                    | (go_at_call 58; refine hme.mono ?_; rintro e W2 ⟨rfl, B3, hb3, h1, h2, h3⟩; (have H1 := Lib.hid h1; have H2 := Lib.hid h2; have H3 := Lib.hid h3; clear h1 h2 h3 hme)))
                  go_roundw
                  case rel => exact ⟨i + 1, false, frm1, to1, B3, ⟨asb, afb, _, aF, aL⟩, q2, rfl, rfl, rfl, by rw [hb3], rfl, by go_num, at1_next HA.out hML hal hlt HRI.out HBE.out (fun _ => HNO.out trivial) HN2.out H1.out hqa hqb (.inl ⟨rfl, rfl, H2.out, H3.out⟩)⟩
                  case measure => simp [intOf]; omega
                · have hno2 := Lib.hid hno
                  cases anyw
                  · clear hno hme
                    go_wp2
                    go_roundw
                    case rel => exact ⟨i + 1, ok1, frm1, to1, B2, ⟨asb, afb, _, aF, aL⟩, q2, rfl, rfl, rfl, by rw [hb2], rfl, by go_num, at1_next HA.out hML hal hlt HRI.out HBE.out HNO.out HN2.out HW2.out hqa hqb (.inr ⟨hno2.out, rfl, rfl⟩)⟩
                    case measure => simp [intOf]; omega
                  · obtain rfl : ok1 = true := by
                      cases ok1
                      · exact (hno ⟨rfl, rfl⟩).elim
                      · rfl
                    clear hno hme
                    go_wp2
                    go_roundw
                    case rel => exact ⟨i + 1, true, frm1, to1, B2, ⟨asb, afb, _, aF, aL⟩, q2, rfl, rfl, rfl, by rw [hb2], rfl, by go_num, at1_next HA.out hML hal hlt HRI.out HBE.out HNO.out HN2.out HW2.out hqa hqb (.inr ⟨hno2.out, rfl, rfl⟩)⟩
                    case measure => simp [intOf]; omega

end Go.Proofs.Ytdgidcfmggmbiaa.Nm
