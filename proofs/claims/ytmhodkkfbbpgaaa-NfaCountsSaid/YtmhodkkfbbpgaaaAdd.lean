/- The machine's memory, and the walk of Prog.add. -/
import Derived.Test.YtmhodkkfbbpgaaaProg
import Derived.Test.YtmhodkkfbbpgaaaRe
import Derived.Test.YtmhodkkfbbpgaaaMem
import Derived.WalkKit
import Derived.WalkSpells
import Derived.WalkLawsBesides
import Derived.Deep.RegionLaw
import Derived.Deep.QuietTactic
import Derived.BigQuiet
import Derived.KernelRfl
namespace Go.Proofs.Ytmhodkkfbbpgaaa.Nm
set_option linter.unusedVariables false
set_option linter.unusedSimpArgs false
open Go.RowKit Mem Re

/-- A state's cells: its set's block, next, other. -/
def stCells (e : St × Option Nat) : List Value := [.pointer (e.2.map fun q => ⟨q, 0, none⟩), .int .i64 e.1.next, .int .i64 e.1.other]

def setCells (f : Int → Bool) : Array Value := ((List.range 256).map fun c : Nat => Value.bool (f (c : Int))).toArray

/-- A state's set in memory. -/
def SetAt (w : World) (base : Nat) (e : St × Option Nat) : Prop :=
  match e.1.set with
  | none => e.2 = none
  | some f => ∃ q, e.2 = some q ∧ base ≤ q ∧ Blk w q 65 (setCells f)

/-- A machine in memory: its block, its states. -/
structure PM (w : World) (base b : Nat) (R : List (St × Option Nat)) (sv : Value) (st en stp : Int) : Prop where
  blk : Blk w b 53 #[sv, .int .i64 st, .int .i64 en, .int .i64 stp]
  ge : base ≤ b
  row : w.ownsRow base 57 3 sv R.length (R.flatMap stCells)
  sets : ∀ e, e ∈ R → SetAt w base e

theorem infoSt : (Try.prog.info? 57).map (fun i => (i.zero, i.size, i.bytes)) = some (some (.agg #[.pointer none, .int .i64 0, .int .i64 0]), 3, 24) := by kernel_rfl

theorem add_any (w : World) (base b : Nat) (R : List (St × Option Nat)) (sv : Value) (st en stp : Int) (e0 : St × Option Nat) (h : PM w base b R sv st en stp) (hB : base ≤ w.heap.size) (hn : R.length ≤ 1000000) :
    Calls Try.prog 27 #[.pointer (some ⟨b, 0, none⟩), .agg (stCells e0).toArray] w fun e w' => e = .returned (.int .i64 R.length) ∧ ∃ sv', Blk w' b 53 #[sv', .int .i64 st, .int .i64 en, .int .i64 stp] ∧
      w'.ownsRow base 57 3 sv' (R.length + 1) (R.flatMap stCells ++ stCells e0) ∧ (sv'.ownBlock = sv.ownBlock ∨ ∃ k, sv'.ownBlock = some k ∧ w.heap.size ≤ k) ∧ Kp w w' (fun k => k = b ∨ sv.ownBlock = some k) := by
  obtain ⟨i0, hi0, hz0, hz1, hz2⟩ := info_parts infoSt
  have hblk := h.blk
  have hbs := hblk.lt
  have hrow := h.row
  unfold stCells at *
  generalize hp : Value.pointer (e0.2.map fun q => (⟨q, 0, none⟩ : Addr)) = pv at *
  have hc0 := hblk.cell 0
  have hf0 := hblk.frozen 0
  simp at hc0
  have hone : pv.oneCell' = true := by rw [← hp]; rfl
  have hone3 : Hid (∀ u ∈ (#[pv, .int .i64 e0.1.next, .int .i64 e0.1.other] : Array Value).toList, u.oneCell' = true) := by
    intro u hu
    simp at hu
    rcases hu with rfl | rfl | rfl
    · exact hone
    · rfl
    · rfl
  have hne := own_blk_ne hrow hblk (by decide)
  have HB : Hid (Blk w b 53 #[sv, .int .i64 st, .int .i64 en, .int .i64 stp]) := hblk
  have HR : Hid (w.ownsRow base 57 3 sv R.length (R.flatMap fun e => [.pointer (e.2.map fun q => (⟨q, 0, none⟩ : Addr)), .int .i64 e.1.next, .int .i64 e.1.other])) := hrow
  clear hone hrow hblk h
  go_enter Try.func27, Try.ntmps27
  go_wp2
  go_region_law ((refine step_append_cells _ rfl (.tmp 9) (.tmp 11) 51 rfl base 57 i0 _ 3 24 Try.underlying51 hi0 hz0 hz1 hz2 rfl (by decide) sv R.length _ (by simp [Act.eval]) (by repeat (first | exact HR.out | apply own_alloc | apply own_drew)) (w.heap.size + 1) 1 1 #[pv, .int .i64 e0.1.next, .int .i64 e0.1.other] 57 (by simp [Act.eval]) rfl (by first | exact Blk.last _ _ _ (by simp) | exact (Blk.last _ _ _ (by simp)).drew) hone3.out (by simp only [maxLen]; omega) (by omega) (by simp; omega) ?_; intro v1 w1 hown1 hg1 hat1; obtain ⟨g1, cap1, rfl⟩ := own_form hown1 (by omega); have hb1 := Blk.grown (show Blk _ _ _ _ by repeat (first | exact HB.out | apply Blk.alloc | apply Blk.drew)) hg1 (fun c => hne c.symm); have q0 := hb1.cell 0; have q1 := hb1.frozen 0; simp at q0; have HB1 : Hid (Blk w1 b 53 #[sv, .int .i64 st, .int .i64 en, .int .i64 stp]) := hb1; clear hb1))
  all_goals
    have hat : Hid (Value.ownBlock (Value.slice (some ⟨g1, 0, none⟩) (R.length + 1) cap1) = sv.ownBlock ∨ ∃ k, Value.ownBlock (Value.slice (some ⟨g1, 0, none⟩) (R.length + 1) cap1) = some k ∧ w.heap.size ≤ k) := hat1.imp id fun e => ⟨_, e, by simp; omega⟩
    have hk : Hid (Kp w w1 (fun k => k = b ∨ sv.ownBlock = some k)) := by
      refine Kp.grown (w' := _) ?_ hg1 (fun k _ e => .inr e)
      repeat (first | exact Kp.refl _ _ | apply Kp.alloc | apply Kp.drew)
    have HO1 : Hid (w1.ownsRow base 57 3 (Value.slice (some ⟨g1, 0, none⟩) (R.length + 1) cap1) (R.length + 1) ((R.flatMap fun e => [.pointer (e.2.map fun q => (⟨q, 0, none⟩ : Addr)), .int .i64 e.1.next, .int .i64 e.1.other]) ++ [pv, .int .i64 e0.1.next, .int .i64 e0.1.other])) := hown1
    clear hat1 hg1 hown1 HB HR hone3 hc0 hf0
    go_wp2
    go_ret
    have hb2 := HB1.out.set_ 0 (Value.slice (some ⟨g1, 0, none⟩) (R.length + 1) cap1)
    have hnb : ∀ k, Value.ownBlock (Value.slice (some ⟨g1, 0, none⟩) (R.length + 1) cap1) = some k → k ≠ b := by
      intro k e he
      subst he
      exact own_blk_ne HO1.out HB1.out (by decide) e
    refine ⟨rfl, _, hb2, own_kp HO1.out (Kp.set_ (p := ⟨b, 0, none⟩) (Kp.refl w1 (fun k => k = b)) (fun _ => rfl) _) hnb, hat.out, hk.out.set_ (fun _ => .inl rfl) _⟩

/-- Only blocks of other types than a machine's are let go. -/
def Oth (w : World) (ex : Nat → Prop) : Prop := ∀ k, ex k → ∀ t cs, Blk w k t cs → t ≠ 53 ∧ t ≠ 57 ∧ t ≠ 65

theorem SetAt.kp {w w' : World} {base : Nat} {e : St × Option Nat} {ex : Nat → Prop} (h : SetAt w base e) (hk : Kp w w' ex) (hx : ∀ q, ex q → ∀ cs, ¬ Blk w q 65 cs) : SetAt w' base e := by
  unfold SetAt at *
  cases he : e.1.set with
  | none => rw [he] at h; exact h
  | some f =>
    rw [he] at h
    obtain ⟨q, h1, h2, h3⟩ := h
    exact ⟨q, h1, h2, h3.kp hk fun c => hx q c _ h3⟩

theorem PM.kp {w w' : World} {base b : Nat} {R : List (St × Option Nat)} {sv : Value} {st en stp : Int} {ex : Nat → Prop} (h : PM w base b R sv st en stp) (hk : Kp w w' ex) (hx : Oth w ex) : PM w' base b R sv st en stp where
  blk := h.blk.kp hk fun c => (hx b c _ _ h.blk).1 rfl
  ge := h.ge
  row := by
    refine own_kp h.row hk fun k e c => ?_
    rcases h.row.2 with ⟨h1, _⟩ | ⟨g, cap, cur, h1, _, hh, _⟩
    · rw [h1] at e; simp [Value.ownBlock] at e
    · rw [h1] at e
      have : g = k := by simpa [Value.ownBlock] using e
      subst this
      exact (hx g c _ _ hh).2.1 rfl
  sets := fun e he => (h.sets e he).kp hk fun q c cs hb => (hx q c _ _ hb).2.2 rfl

theorem oth_none (w : World) : Oth w (fun _ => False) := fun _ c => c.elim

theorem PM.alloc {w : World} {base b : Nat} {R : List (St × Option Nat)} {sv : Value} {st en stp : Int} (h : PM w base b R sv st en stp) (o : Obj) : PM (w.alloc o) base b R sv st en stp :=
  h.kp ((Kp.refl w (fun _ => False)).alloc o) (oth_none w)
theorem PM.drew {w : World} {base b : Nat} {R : List (St × Option Nat)} {sv : Value} {st en stp : Int} (h : PM w base b R sv st en stp) : PM w.drew base b R sv st en stp :=
  h.kp ((Kp.refl w (fun _ => False)).drew) (oth_none w)
theorem PM.drewN {w : World} {base b : Nat} {R : List (St × Option Nat)} {sv : Value} {st en stp : Int} (h : PM w base b R sv st en stp) (n : Nat) : PM (w.drewN n) base b R sv st en stp :=
  h.kp ((Kp.refl w (fun _ => False)).drewN n) (oth_none w)

/-- What a call on a machine changes: its block, its states' row. -/
def Own (b : Nat) (sv : Value) (k : Nat) : Prop := k = b ∨ sv.ownBlock = some k

theorem add_pm (w : World) (base b : Nat) (R : List (St × Option Nat)) (sv : Value) (st en stp : Int) (e0 : St × Option Nat) (h : PM w base b R sv st en stp) (h0 : SetAt w base e0) (hB : base ≤ w.heap.size) (hn : R.length ≤ 1000000) :
    Calls Try.prog 27 #[.pointer (some ⟨b, 0, none⟩), .agg (stCells e0).toArray] w fun e w' => e = .returned (.int .i64 R.length) ∧ ∃ sv', PM w' base b (R ++ [e0]) sv' st en stp ∧ (sv'.ownBlock = sv.ownBlock ∨ ∃ k, sv'.ownBlock = some k ∧ w.heap.size ≤ k) ∧ Kp w w' (Own b sv) := by
  refine (add_any w base b R sv st en stp e0 h hB hn).mono fun e w' hh => ⟨hh.1, ?_⟩
  obtain ⟨_, sv', hb, ho, hat, hk⟩ := hh
  have hnb := own_blk_ne h.row h.blk (by decide)
  have hx : ∀ q, (q = b ∨ sv.ownBlock = some q) → ∀ cs, ¬ Blk w q 65 cs := by
    rintro q (rfl | hq) cs hc
    · exact (Blk.ne_ h.blk hc (by decide)) rfl
    · exact own_blk_ne h.row hc (by decide) hq
  refine ⟨sv', ⟨hb, h.ge, by simpa using ho, fun e he => ?_⟩, hat, hk⟩
  rcases List.mem_append.1 he with he | he
  · exact (h.sets e he).kp hk hx
  · simp at he
    subst he
    exact h0.kp hk hx

end Go.Proofs.Ytmhodkkfbbpgaaa.Nm
