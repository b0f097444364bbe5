/- Plain: the printed trees as regular ones: what is asked of them, how large they are. The machine's memory, and the walk of Prog.add. The walk of Prog.build at a set. The walk of Prog.build at every right tree. The walk of Prog.build at a Star and a Plus, and at every right tree. The walks of newSet, clear and meet. -/
import Derived.Test.YtdgidcfmggmbiaaPRxx0
import Derived.Test.YtdgidcfmggmbiaaMm
import Derived.Test.YtdgidcfmggmbiaaProg
import Derived.WalkKit
import Derived.WalkSpells
import Derived.WalkLawsBesides
import Derived.Deep.RegionLaw
import Derived.Deep.QuietTactic
import Derived.BigQuiet
import Derived.KernelRfl
import Derived.Deep.LoopGhost
import Derived.Lib.Hide
import Derived.Laws.MakeOwn
namespace Go.Proofs.Ytdgidcfmggmbiaa.Tree
set_option linter.unusedVariables false
set_option linter.unusedSimpArgs false
open Go.Proofs.Ytdgidcfmggmbiaa.PRx Re

abbrev Nd := S30
abbrev Rg := S98

def inR (rs : List Rg) (c : Int) : Bool := rs.any fun r => decide (r.f0 ≤ c) && decide (c ≤ r.f1)

mutual
def re : Nd → Re
  | ⟨k, rs, kids⟩ => if k = 1 then .set (inR rs) else if k = 2 then .cat (reL kids) else if k = 3 then .alt (reL kids) else reK k kids
def reL : List Nd → List Re
  | [] => []
  | x :: l => re x :: reL l
def reK (k : Int) : List Nd → Re
  | [] => .alt []
  | x :: _ => if k = 4 then .star (re x) else if k = 5 then .plus (re x) else .maybe (re x)
end

/-- Numbers of their kinds. -/
def okR (r : Rg) : Prop := (0 ≤ r.f0 ∧ r.f0 ≤ 255) ∧ 0 ≤ r.f1 ∧ r.f1 ≤ 255
mutual
def okT : Nd → Prop
  | ⟨k, rs, kids⟩ => (-9223372036854775808 ≤ k ∧ k ≤ 9223372036854775807) ∧ (∀ r, r ∈ rs → okR r) ∧ okL kids
def okL : List Nd → Prop
  | [] => True
  | x :: l => okT x ∧ okL l
end

-- Right kinds, and kids where they must be.
mutual
def rightT : Nd → Prop
  | ⟨k, _, kids⟩ => (1 ≤ k ∧ k ≤ 6) ∧ (4 ≤ k → kids ≠ []) ∧ rightL kids
def rightL : List Nd → Prop
  | [] => True
  | x :: l => rightT x ∧ rightL l
end

mutual
def sz : Nd → Nat
  | ⟨_, _, kids⟩ => 1 + szL kids
def szL : List Nd → Nat
  | [] => 0
  | x :: l => sz x + szL l
end

theorem sz_pos (x : Nd) : 0 < sz x := by cases x; simp only [sz]; omega
theorem okL_mem {l : List Nd} (h : okL l) : ∀ x, x ∈ l → okT x := by
  induction l with
  | nil => intro x hx; simp at hx
  | cons y l ih =>
    simp only [okL] at h
    intro x hx
    rcases List.mem_cons.1 hx with rfl | hx
    · exact h.1
    · exact ih h.2 x hx
theorem rightL_mem {l : List Nd} (h : rightL l) : ∀ x, x ∈ l → rightT x := by
  induction l with
  | nil => intro x hx; simp at hx
  | cons y l ih =>
    simp only [rightL] at h
    intro x hx
    rcases List.mem_cons.1 hx with rfl | hx
    · exact h.1
    · exact ih h.2 x hx
theorem szL_mem {l : List Nd} : ∀ x, x ∈ l → sz x ≤ szL l := by
  induction l with
  | nil => intro x hx; simp at hx
  | cons y l ih =>
    intro x hx
    simp only [szL]
    rcases List.mem_cons.1 hx with rfl | hx
    · omega
    · have := ih x hx; omega
theorem szL_drop (l : List Nd) (k : Nat) (h : k < l.length) : szL (l.drop k) = sz l[k] + szL (l.drop (k + 1)) := by
  rw [List.drop_eq_getElem_cons h]; simp only [szL]
theorem reL_drop (l : List Nd) (k : Nat) (h : k < l.length) : reL (l.drop k) = re l[k] :: reL (l.drop (k + 1)) := by
  rw [List.drop_eq_getElem_cons h]; simp only [reL]
theorem szL_drop_le (l : List Nd) (k : Nat) : szL (l.drop k) ≤ szL l := by
  induction l generalizing k with
  | nil => simp
  | cons x l ih =>
    cases k with
    | zero => simp
    | succ k => have := ih k; simp only [List.drop_succ_cons, szL]; omega
theorem len_le_szL (l : List Nd) : l.length ≤ szL l := by
  induction l with
  | nil => simp
  | cons x l ih => have := sz_pos x; simp only [szL, List.length_cons]; omega

-- How many states are made.
mutual
theorem bld_len (x : Nd) (tgt : Int) (M : List St) : (bld (re x) tgt M).1.length + 1 ≤ M.length + 2 * sz x := by
  obtain ⟨k, rs, kids⟩ := x
  simp only [re, sz]
  split
  · simp only [bld, List.length_append, List.length_cons, List.length_nil]; omega
  · split
    · simp only [bld]
      have := bldC_len kids tgt M
      omega
    · split
      · simp only [bld]
        have := bldA_len kids tgt M
        split
        · simp only [List.length_append, List.length_cons, List.length_nil]; omega
        · omega
      · cases kids with
        | nil => simp only [reK, bld, bldA]; simp; omega
        | cons y l =>
          simp only [reK, szL]
          split
          · simp only [bld, List.length_set]
            have := bld_len y M.length (M ++ [⟨none, 0, tgt⟩])
            simp only [List.length_append, List.length_cons, List.length_nil] at this
            omega
          · split
            · simp only [bld, List.length_set]
              have := bld_len y M.length (M ++ [⟨none, 0, tgt⟩])
              simp only [List.length_append, List.length_cons, List.length_nil] at this
              omega
            · simp only [bld, List.length_append, List.length_cons, List.length_nil]
              have := bld_len y tgt M
              omega
theorem bldC_len (l : List Nd) (tgt : Int) (M : List St) : (bldC (reL l) tgt M).1.length ≤ M.length + 2 * szL l := by
  cases l with
  | nil => simp [reL, bldC]
  | cons x l =>
    simp only [reL, bldC, szL]
    have h1 := bldC_len l tgt M
    have h2 := bld_len x (bldC (reL l) tgt M).2 (bldC (reL l) tgt M).1
    omega
theorem bldA_len (l : List Nd) (tgt : Int) (M : List St) : (bldA (reL l) tgt M).1.length ≤ M.length + 2 * szL l := by
  cases l with
  | nil => simp [reL, bldA]
  | cons x l =>
    simp only [reL, bldA, szL, List.length_append, List.length_cons, List.length_nil]
    have h1 := bldA_len l tgt M
    have h2 := bld_len x tgt (bldA (reL l) tgt M).1
    omega
end
end Go.Proofs.Ytdgidcfmggmbiaa.Tree
namespace Go.Proofs.Ytdgidcfmggmbiaa.Nm
set_option linter.unusedVariables false
set_option linter.unusedSimpArgs false
open Go.RowKit Mem Re

/-- A state's cells: its set's block, next, other. -/
def stCells (e : St × Option Nat) : List Value := [.pointer (e.2.map fun q => ⟨q, 0, none⟩), .int .i64 e.1.next, .int .i64 e.1.other]

def setCells (f : Int → Bool) : Array Value := ((List.range 256).map fun c : Nat => Value.bool (f (c : Int))).toArray

/-- A state's set in memory. -/
def SetAt (w : World) (base : Nat) (e : St × Option Nat) : Prop :=
  match e.1.set with
  | none => e.2 = none
  | some f => ∃ q, e.2 = some q ∧ base ≤ q ∧ Blk w q 101 (setCells f)

/-- A machine in memory: its block, its states. -/
structure PM (w : World) (base b : Nat) (R : List (St × Option Nat)) (sv : Value) (st en stp : Int) : Prop where
  blk : Blk w b 76 #[sv, .int .i64 st, .int .i64 en, .int .i64 stp]
  ge : base ≤ b
  row : w.ownsRow base 80 3 sv R.length (R.flatMap stCells)
  sets : ∀ e, e ∈ R → SetAt w base e

theorem infoSt : (Try.prog.info? 80).map (fun i => (i.zero, i.size, i.bytes)) = some (some (.agg #[.pointer none, .int .i64 0, .int .i64 0]), 3, 24) := by kernel_rfl

theorem add_any (w : World) (base b : Nat) (R : List (St × Option Nat)) (sv : Value) (st en stp : Int) (e0 : St × Option Nat) (h : PM w base b R sv st en stp) (hB : base ≤ w.heap.size) (hn : R.length ≤ 1000000) :
    Calls Try.prog 32 #[.pointer (some ⟨b, 0, none⟩), .agg (stCells e0).toArray] w fun e w' => e = .returned (.int .i64 R.length) ∧ ∃ sv', Blk w' b 76 #[sv', .int .i64 st, .int .i64 en, .int .i64 stp] ∧
      w'.ownsRow base 80 3 sv' (R.length + 1) (R.flatMap stCells ++ stCells e0) ∧ (sv'.ownBlock = sv.ownBlock ∨ ∃ k, sv'.ownBlock = some k ∧ w.heap.size ≤ k) ∧ Kp w w' (fun k => k = b ∨ sv.ownBlock = some k) := by
  obtain ⟨i0, hi0, hz0, hz1, hz2⟩ := info_parts infoSt
  have hblk := h.blk
  have hbs := hblk.lt
  have hrow := h.row
  unfold stCells at *
  generalize hp : Value.pointer (e0.2.map fun q => (⟨q, 0, none⟩ : Addr)) = pv at *
  have hc0 := hblk.cell 0
  have hf0 := hblk.frozen 0
  simp at hc0
  have hone : pv.oneCell' = true := by rw [← hp]; rfl
  have hone3 : Hid (∀ u ∈ (#[pv, .int .i64 e0.1.next, .int .i64 e0.1.other] : Array Value).toList, u.oneCell' = true) := by
    intro u hu
    simp at hu
    rcases hu with rfl | rfl | rfl
    · exact hone
    · rfl
    · rfl
  have hne := own_blk_ne hrow hblk (by decide)
  have HB : Hid (Blk w b 76 #[sv, .int .i64 st, .int .i64 en, .int .i64 stp]) := hblk
  have HR : Hid (w.ownsRow base 80 3 sv R.length (R.flatMap fun e => [.pointer (e.2.map fun q => (⟨q, 0, none⟩ : Addr)), .int .i64 e.1.next, .int .i64 e.1.other])) := hrow
  clear hone hrow hblk h
  go_enter Try.func32, Try.ntmps32
  go_wp2
  go_region_law ((refine step_append_cells _ rfl (.tmp 9) (.tmp 11) 74 rfl base 80 i0 _ 3 24 Try.underlying74 hi0 hz0 hz1 hz2 rfl (by decide) sv R.length _ (by simp [Act.eval]) (by repeat (first | exact HR.out | apply own_alloc | apply own_drew)) (w.heap.size + 1) 1 1 #[pv, .int .i64 e0.1.next, .int .i64 e0.1.other] 80 (by simp [Act.eval]) rfl (by first | exact Blk.last _ _ _ (by simp) | exact (Blk.last _ _ _ (by simp)).drew) hone3.out (by simp only [maxLen]; omega) (by omega) (by simp; omega) ?_; intro v1 w1 hown1 hg1 hat1; obtain ⟨g1, cap1, rfl⟩ := own_form hown1 (by omega); have hb1 := Blk.grown (show Blk _ _ _ _ by repeat (first | exact HB.out | apply Blk.alloc | apply Blk.drew)) hg1 (fun c => hne c.symm); have q0 := hb1.cell 0; have q1 := hb1.frozen 0; simp at q0; have HB1 : Hid (Blk w1 b 76 #[sv, .int .i64 st, .int .i64 en, .int .i64 stp]) := hb1; clear hb1))
  all_goals
    have hat : Hid (Value.ownBlock (Value.slice (some ⟨g1, 0, none⟩) (R.length + 1) cap1) = sv.ownBlock ∨ ∃ k, Value.ownBlock (Value.slice (some ⟨g1, 0, none⟩) (R.length + 1) cap1) = some k ∧ w.heap.size ≤ k) := hat1.imp id fun e => ⟨_, e, by simp; omega⟩
    have hk : Hid (Kp w w1 (fun k => k = b ∨ sv.ownBlock = some k)) := by
      refine Kp.grown (w' := _) ?_ hg1 (fun k _ e => .inr e)
      repeat (first | exact Kp.refl _ _ | apply Kp.alloc | apply Kp.drew)
    have HO1 : Hid (w1.ownsRow base 80 3 (Value.slice (some ⟨g1, 0, none⟩) (R.length + 1) cap1) (R.length + 1) ((R.flatMap fun e => [.pointer (e.2.map fun q => (⟨q, 0, none⟩ : Addr)), .int .i64 e.1.next, .int .i64 e.1.other]) ++ [pv, .int .i64 e0.1.next, .int .i64 e0.1.other])) := hown1
    clear hat1 hg1 hown1 HB HR hone3 hc0 hf0
    go_wp2
    go_ret
    have hb2 := HB1.out.set_ 0 (Value.slice (some ⟨g1, 0, none⟩) (R.length + 1) cap1)
    have hnb : ∀ k, Value.ownBlock (Value.slice (some ⟨g1, 0, none⟩) (R.length + 1) cap1) = some k → k ≠ b := by
      intro k e he
      subst he
      exact own_blk_ne HO1.out HB1.out (by decide) e
    refine ⟨rfl, _, hb2, own_kp HO1.out (Kp.set_ (p := ⟨b, 0, none⟩) (Kp.refl w1 (fun k => k = b)) (fun _ => rfl) _) hnb, hat.out, hk.out.set_ (fun _ => .inl rfl) _⟩

/-- Only blocks of other types than a machine's are let go. -/
def Oth (w : World) (ex : Nat → Prop) : Prop := ∀ k, ex k → ∀ t cs, Blk w k t cs → t ≠ 76 ∧ t ≠ 80 ∧ t ≠ 101

theorem SetAt.kp {w w' : World} {base : Nat} {e : St × Option Nat} {ex : Nat → Prop} (h : SetAt w base e) (hk : Kp w w' ex) (hx : ∀ q, ex q → ∀ cs, ¬ Blk w q 101 cs) : SetAt w' base e := by
  unfold SetAt at *
  cases he : e.1.set with
  | none => rw [he] at h; exact h
  | some f =>
    rw [he] at h
    obtain ⟨q, h1, h2, h3⟩ := h
    exact ⟨q, h1, h2, h3.kp hk fun c => hx q c _ h3⟩

theorem PM.kp {w w' : World} {base b : Nat} {R : List (St × Option Nat)} {sv : Value} {st en stp : Int} {ex : Nat → Prop} (h : PM w base b R sv st en stp) (hk : Kp w w' ex) (hx : Oth w ex) : PM w' base b R sv st en stp where
  blk := h.blk.kp hk fun c => (hx b c _ _ h.blk).1 rfl
  ge := h.ge
  row := by
    refine own_kp h.row hk fun k e c => ?_
    rcases h.row.2 with ⟨h1, _⟩ | ⟨g, cap, cur, h1, _, hh, _⟩
    · rw [h1] at e; simp [Value.ownBlock] at e
    · rw [h1] at e
      have : g = k := by simpa [Value.ownBlock] using e
      subst this
      exact (hx g c _ _ hh).2.1 rfl
  sets := fun e he => (h.sets e he).kp hk fun q c cs hb => (hx q c _ _ hb).2.2 rfl

theorem oth_none (w : World) : Oth w (fun _ => False) := fun _ c => c.elim

theorem PM.alloc {w : World} {base b : Nat} {R : List (St × Option Nat)} {sv : Value} {st en stp : Int} (h : PM w base b R sv st en stp) (o : Obj) : PM (w.alloc o) base b R sv st en stp :=
  h.kp ((Kp.refl w (fun _ => False)).alloc o) (oth_none w)
theorem PM.drew {w : World} {base b : Nat} {R : List (St × Option Nat)} {sv : Value} {st en stp : Int} (h : PM w base b R sv st en stp) : PM w.drew base b R sv st en stp :=
  h.kp ((Kp.refl w (fun _ => False)).drew) (oth_none w)
theorem PM.drewN {w : World} {base b : Nat} {R : List (St × Option Nat)} {sv : Value} {st en stp : Int} (h : PM w base b R sv st en stp) (n : Nat) : PM (w.drewN n) base b R sv st en stp :=
  h.kp ((Kp.refl w (fun _ => False)).drewN n) (oth_none w)

/-- What a call on a machine changes: its block, its states' row. -/
def Own (b : Nat) (sv : Value) (k : Nat) : Prop := k = b ∨ sv.ownBlock = some k

theorem add_pm (w : World) (base b : Nat) (R : List (St × Option Nat)) (sv : Value) (st en stp : Int) (e0 : St × Option Nat) (h : PM w base b R sv st en stp) (h0 : SetAt w base e0) (hB : base ≤ w.heap.size) (hn : R.length ≤ 1000000) :
    Calls Try.prog 32 #[.pointer (some ⟨b, 0, none⟩), .agg (stCells e0).toArray] w fun e w' => e = .returned (.int .i64 R.length) ∧ ∃ sv', PM w' base b (R ++ [e0]) sv' st en stp ∧ (sv'.ownBlock = sv.ownBlock ∨ ∃ k, sv'.ownBlock = some k ∧ w.heap.size ≤ k) ∧ Kp w w' (Own b sv) := by
  refine (add_any w base b R sv st en stp e0 h hB hn).mono fun e w' hh => ⟨hh.1, ?_⟩
  obtain ⟨_, sv', hb, ho, hat, hk⟩ := hh
  have hnb := own_blk_ne h.row h.blk (by decide)
  have hx : ∀ q, (q = b ∨ sv.ownBlock = some q) → ∀ cs, ¬ Blk w q 101 cs := by
    rintro q (rfl | hq) cs hc
    · exact (Blk.ne_ h.blk hc (by decide)) rfl
    · exact own_blk_ne h.row hc (by decide) hq
  refine ⟨sv', ⟨hb, h.ge, by simpa using ho, fun e he => ?_⟩, hat, hk⟩
  rcases List.mem_append.1 he with he | he
  · exact (h.sets e he).kp hk hx
  · simp at he
    subst he
    exact h0.kp hk hx

end Go.Proofs.Ytdgidcfmggmbiaa.Nm
namespace Go.Proofs.Ytdgidcfmggmbiaa.Nm
set_option linter.unusedVariables false
set_option linter.unusedSimpArgs false
open Go.RowKit Mem Re Tree Go.Proofs.Ytdgidcfmggmbiaa.PRx Go.Proofs.YtdgidcfmggmbiaaW.PrintWords Go.Proofs.YtdgidcfmggmbiaaW.PrintLast Go.Proofs.YtdgidcfmggmbiaaW.PrintMore

theorem getD_lt {α : Type} {l : List α} {k : Nat} {d : α} (h : k < l.length) : l.getD k d = l[k] := by rw [List.getD_eq_getElem?_getD, List.getElem?_eq_getElem h]; rfl

theorem inR_succ (rs : List Rg) (k : Nat) (h : k < rs.length) : inR (rs.take (k + 1)) = fun z => inR (rs.take k) z || (decide ((rd_T98 rs k).f0 ≤ z) && decide (z ≤ (rd_T98 rs k).f1)) := by
  funext z
  unfold rd_T98 inR
  rw [Int.toNat_natCast, getD_lt h, List.take_succ_eq_append_getElem h, List.any_append]
  simp only [List.any_cons, List.any_nil, Bool.or_false]

theorem setCells_size (f : Int → Bool) : (setCells f).size = 256 := by simp [setCells]
theorem setCells_get (f : Int → Bool) (c : Nat) (h : c < 256) : (setCells f)[c]? = some (.bool (f c)) := by simp [setCells, h]
theorem setCells_set (f g : Int → Bool) (c : Nat) (h : ∀ z : Nat, z < 256 → g z = if z = c then true else f z) : (setCells f).setIfInBounds c (.bool true) = setCells g := by
  apply Array.ext_getElem?
  intro i
  rw [Array.getElem?_setIfInBounds, setCells_size]
  by_cases hi : i < 256
  · rw [setCells_get f i hi, setCells_get g i hi, h i hi]
    by_cases e : c = i
    · subst e; simp [hi]
    · rw [if_neg e, if_neg (fun x => e x.symm)]
  · rw [Array.getElem?_eq_none (by rw [setCells_size]; omega), Array.getElem?_eq_none (by rw [setCells_size]; omega)]
    split
    · split
      · omega
      · rfl
    · rfl
theorem setCells_congr {f g : Int → Bool} (h : ∀ z : Nat, z < 256 → f z = g z) : setCells f = setCells g := by
  unfold setCells
  congr 1
  apply List.map_congr_left
  intro c hc
  rw [h c (by simpa using hc)]

theorem setCells_zero : (Array.replicate 256 (Value.bool false)) = setCells (fun _ => false) := by
  apply Array.ext
  · simp [setCells]
  · intro i h1 h2; simp [setCells]

theorem zeroSet (w : World) : (zeroValue 101).run Try.prog w = .ok (.agg (setCells fun _ => false)) w := by kernel_rfl

def PostB (W w : World) (b : Nat) (R : List (St × Option Nat)) (sv : Value) (st en stp : Int) (res : List St × Int) (e : Ending) (w' : World) : Prop :=
  e = .returned (.int .i64 res.2) ∧ ∃ R' sv', PM w' W.heap.size b R' sv' st en stp ∧ R'.map (·.1) = res.1 ∧ (sv'.ownBlock = sv.ownBlock ∨ ∃ k, sv'.ownBlock = some k ∧ w.heap.size ≤ k) ∧ Kp w w' (Own b sv)

set_option maxHeartbeats 1000000 in
set_option maxRecDepth 100000 in
theorem build_set (W : World) (rs : List Rg) (A1 A2 : Option Addr) (n2 c1 c2 : Nat) (hr1 : Kd.C k98 W A1 rs.length rs) (hrs : ∀ r, r ∈ rs → okR r)
    (w : World) (hb : Below W.heap.size W w) (b : Nat) (R : List (St × Option Nat)) (sv : Value) (st en stp : Int) (h : PM w W.heap.size b R sv st en stp) (tgt : Int) (hn : R.length ≤ 1000000) :
    Calls Try.prog 33 #[.pointer (some ⟨b, 0, none⟩), .agg #[.int .i64 1, .slice A1 rs.length c1, .slice A2 n2 c2], .int .i64 tgt] w (PostB W w b R sv st en stp (bld (.set (inR rs)) tgt (R.map (·.1)))) := by
  have hlen : rs.length ≤ 9223372036854775807 := Kd.C_max hr1
  have HB : Hid (Below W.heap.size W w) := hb
  have HM : Hid (PM w W.heap.size b R sv st en stp) := h
  have HR : Hid (Kd.C k98 W A1 rs.length rs) := hr1
  have hz := zeroSet
  clear hb h hr1
  go_enter Try.func33, Try.ntmps33
  go_wp2
  have hq0 : Blk ((w.alloc (Obj.cells #[Value.int IntKind.i64 1, Value.slice A1 rs.length c1, Value.slice A2 n2 c2] 30)).alloc (Obj.cells (setCells fun _ => false) 101)) (w.heap.size + 1) 101 (setCells fun _ => false) := Blk.last _ _ _ (by simp)
  go_loopw [23] (fun i wr => ∃ k : Nat, k ≤ rs.length ∧ i = .int .i64 k ∧ Blk wr (w.heap.size + 1) 101 (setCells (inR (rs.take k))) ∧ Kp w wr (fun _ => False)) (fun i _ => rs.length - (intOf i).toNat)
  case atStart => exact ⟨0, Nat.zero_le _, rfl, by rw [show inR (rs.take 0) = fun _ => false from rfl]; exact hq0, ((Kp.refl w _).alloc _).alloc _⟩
  case round =>
    obtain ⟨k, hk, rfl, hB, hK⟩ := hrel
    by_cases hlt : k < rs.length
    · have hbw : Below W.heap.size W wr := HB.out.trans ((hK.below (B := w.heap.size) (Nat.le_refl _) (fun _ c => c.elim)).mono HB.out.size)
      obtain ⟨ad, rfl, hx0, hx1⟩ := at_T98 (Kd.C_below HR.out hbw) (k : Int) (by omega) (by omega)
      have hokr := hrs (rd_T98 rs k) (by unfold rd_T98; rw [Int.toNat_natCast, getD_lt hlt]; exact List.getElem_mem hlt)
      have htake : Hid (inR (rs.take (k + 1)) = fun z => inR (rs.take k) z || (decide ((rd_T98 rs k).f0 ≤ z) && decide (z ≤ (rd_T98 rs k).f1))) := inR_succ rs k hlt
      unfold okR at hokr
      generalize (rd_T98 rs k).f0 = lo at *
      generalize (rd_T98 rs k).f1 = hi at *
      obtain ⟨⟨hlo0, hlo1⟩, hhi0, hhi1⟩ := hokr
      rw [Int.toNat_natCast] at hx0 hx1
      have HBr : Hid (Blk wr (w.heap.size + 1) 101 (setCells (inR (rs.take k)))) := hB
      have hKr : Hid (Kp w wr (fun _ => False)) := hK
      have hsz := hB.lt
      have hwl : wrap64 lo = lo := by unfold wrap64; omega
      have hwh : wrap64 hi = hi := by unfold wrap64; omega
      obtain ⟨LO, rfl⟩ : ∃ LO : Nat, lo = LO := ⟨lo.toNat, by omega⟩
      obtain ⟨HI, rfl⟩ : ∃ HI : Nat, hi = HI := ⟨hi.toNat, by omega⟩
      clear hB hK hbw hrs hz
      go_wp2
      have hr0 : Blk (wr.alloc (Obj.cells #[Value.int IntKind.u8 (LO : Int), Value.int IntKind.u8 (HI : Int)] 98)) wr.heap.size 98 #[Value.int IntKind.u8 (LO : Int), Value.int IntKind.u8 (HI : Int)] := Blk.new _ _ _
      have hs0 := HBr.out.alloc (Obj.cells #[Value.int IntKind.u8 (LO : Int), Value.int IntKind.u8 (HI : Int)] 98)
      have hk0 := hKr.out.alloc (Obj.cells #[Value.int IntKind.u8 (LO : Int), Value.int IntKind.u8 (HI : Int)] 98)
      obtain ⟨wo, rfl⟩ : ∃ wo : World, wo = wr := ⟨_, rfl⟩
      obtain ⟨rb, hrb⟩ : ∃ rb, rb = wo.heap.size := ⟨_, rfl⟩
      rw [← hrb]
      rw [← hrb] at hr0
      go_loopw [10] (fun c wq => ∃ m : Nat, LO ≤ m ∧ (m ≤ HI + 1 ∨ m = LO) ∧ c = .int .i64 m ∧ Blk wq (w.heap.size + 1) 101 (setCells fun z => inR (rs.take k) z || (decide ((LO : Int) ≤ z) && decide (z < m))) ∧ Blk wq rb 98 #[Value.int IntKind.u8 (LO : Int), Value.int IntKind.u8 (HI : Int)] ∧ Kp w wq (fun _ => False)) (fun c _ => 256 - (intOf c).toNat)
      case atStart => exact ⟨LO, Nat.le_refl _, .inr rfl, rfl, by rw [setCells_congr (g := inR (rs.take k)) (fun z _ => by simp; omega)]; exact hs0, hr0, hk0⟩
      case round =>
        obtain ⟨m, hm1, hm2, rfl, hS, hRB, hKq⟩ := hrel
        have g0 := hRB.cell 0
        have g1 := hRB.cell 1
        simp at g0 g1
        have hfS := hS.frozen m
        have hcS := hS.cell m
        have HS : Hid (Blk wr (w.heap.size + 1) 101 (setCells fun z => inR (rs.take k) z || (decide ((LO : Int) ≤ z) && decide (z < m)))) := hS
        have HRB : Hid (Blk wr rb 98 #[Value.int IntKind.u8 (LO : Int), Value.int IntKind.u8 (HI : Int)]) := hRB
        have HK : Hid (Kp w wr (fun _ => False)) := hKq
        clear hS hRB hKq hr0 hs0 hk0 hrb
        by_cases hle : m ≤ HI
        · rw [setCells_get _ m (by omega)] at hcS
          obtain ⟨old, hold⟩ : ∃ old, (inR (rs.take k) (m : Int) || (decide ((LO : Int) ≤ (m : Int)) && decide ((m : Int) < (m : Int)))) = old := ⟨_, rfl⟩
          rw [hold] at hcS
          clear hold
          go_wp2
          go_roundw
          case rel =>
            have e := HS.out.set_ m (.bool true)
            rw [setCells_set _ (fun z => inR (rs.take k) z || (decide ((LO : Int) ≤ z) && decide (z < ((m + 1 : Nat) : Int)))) m (fun z hz => ?_)] at e
            · exact ⟨m + 1, by omega, .inl (by omega), by go_num, e, HRB.out.far (p := ⟨w.heap.size + 1, m, none⟩) (HRB.out.ne_ HS.out (by decide)) _, HK.out.set_ (p := ⟨w.heap.size + 1, m, none⟩) (fun c => by simp at c; omega) _⟩
            · by_cases hzm : z = m
              · subst hzm; simp; omega
              · rw [if_neg hzm]
                congr 2
                rw [decide_eq_decide]
                omega
          case measure => simp [intOf]; omega
        · go_wp2
          go_roundw
          case rel =>
            refine ⟨k + 1, by omega, by go_num, ?_, HK.out⟩
            rw [htake.out, ← setCells_congr (f := fun z => inR (rs.take k) z || (decide ((LO : Int) ≤ z) && decide (z < (m : Int)))) (fun z _ => ?_)]
            · exact HS.out
            · congr 1
              rw [Bool.eq_iff_iff]
              simp only [Bool.and_eq_true, decide_eq_true_eq]
              omega
          case measure => simp [intOf]; omega
    · obtain rfl : k = rs.length := by omega
      rw [List.take_length] at hB
      have hPM := HM.out.kp hK (oth_none w)
      have hset : SetAt wr W.heap.size (⟨some (inR rs), tgt, -1⟩, some (w.heap.size + 1)) := ⟨_, rfl, by have := HB.out.size; omega, hB⟩
      have hc := add_pm wr W.heap.size b R sv st en stp (⟨some (inR rs), tgt, -1⟩, some (w.heap.size + 1)) hPM hset (by have := HB.out.size; have := hK.size; omega) hn
      simp only [stCells, Option.map_some] at hc
      have HK : Hid (Kp w wr (fun _ => False)) := hK
      clear hB hK hPM hset hz hrs
      go_wp2_with (go_at_call 32; refine hc.mono ?_; rintro e w' ⟨rfl, sv1, hPM1, hat1, hK1⟩)
      go_ret
      refine ⟨by simp [bld], R ++ [(⟨some (inR rs), tgt, -1⟩, some (w.heap.size + 1))], sv1, hPM1, by simp [bld], ?_, ?_⟩
      · exact hat1.imp id fun ⟨k, e, hk⟩ => ⟨k, e, Nat.le_trans HK.out.size hk⟩
      · exact (HK.out.mono (fun _ _ c => c.elim)).trans hK1 (fun _ _ c => c)

end Go.Proofs.Ytdgidcfmggmbiaa.Nm
namespace Go.Proofs.Ytdgidcfmggmbiaa.Nm
set_option linter.unusedVariables false
set_option linter.unusedSimpArgs false
open Go.RowKit Mem Re Tree Go.Proofs.Ytdgidcfmggmbiaa.PRx Go.Proofs.YtdgidcfmggmbiaaW.PrintWords Go.Proofs.YtdgidcfmggmbiaaW.PrintLast Go.Proofs.YtdgidcfmggmbiaaW.PrintMore

theorem PM.not_own {w : World} {base b : Nat} {R : List (St × Option Nat)} {sv : Value} {st en stp : Int} (h : PM w base b R sv st en stp) {g : Nat} {t : TypeId} {cs : Array Value} (hg : Blk w g t cs) (h1 : t ≠ 76) (h2 : t ≠ 80) : ¬ Own b sv g := by
  rintro (rfl | e)
  · exact h.blk.ne_ hg (fun e => h1 e.symm) rfl
  · exact own_blk_ne h.row hg (fun e => h2 e.symm) e

/-- On the way: res are the states so far; bx is the node's own block. -/
def BRel (W w : World) (b : Nat) (sv : Value) (st en stp : Int) (bx : Nat) (box : Array Value) (res : List St) (wr : World) : Prop :=
  ∃ R' sv', PM wr W.heap.size b R' sv' st en stp ∧ R'.map (·.1) = res ∧ (sv'.ownBlock = sv.ownBlock ∨ ∃ k, sv'.ownBlock = some k ∧ w.heap.size ≤ k) ∧ Kp w wr (Own b sv) ∧ Blk wr bx 30 box

theorem own_back {w : World} {b : Nat} {sv sv' : Value} (h : sv'.ownBlock = sv.ownBlock ∨ ∃ k, sv'.ownBlock = some k ∧ w.heap.size ≤ k) : ∀ k, k < w.heap.size → Own b sv' k → Own b sv k := by
  rintro k hk (rfl | e)
  · exact .inl rfl
  · rcases h with h | ⟨k', h1, h2⟩
    · exact .inr (h.symm.trans e)
    · rw [h1] at e
      injection e with e
      omega

theorem BRel.start {W w : World} {b : Nat} {R : List (St × Option Nat)} {sv : Value} {st en stp : Int} (h : PM w W.heap.size b R sv st en stp) (box : Array Value) : BRel W w b sv st en stp w.heap.size box (R.map (·.1)) (w.alloc (.cells box 30)) :=
  ⟨R, sv, h.alloc _, rfl, .inl rfl, (Kp.refl _ _).alloc _, Blk.new _ _ _⟩

theorem BRel.step {W w wr w' : World} {b bx : Nat} {box : Array Value} {R' : List (St × Option Nat)} {sv sv' : Value} {st en stp : Int} {res : List St} {R2 : List (St × Option Nat)} {sv2 : Value} (hM : PM wr W.heap.size b R' sv' st en stp) (hat : sv'.ownBlock = sv.ownBlock ∨ ∃ k, sv'.ownBlock = some k ∧ w.heap.size ≤ k) (hK : Kp w wr (Own b sv)) (hx : Blk wr bx 30 box)
    (hM2 : PM w' W.heap.size b R2 sv2 st en stp) (he : R2.map (·.1) = res) (hat2 : sv2.ownBlock = sv'.ownBlock ∨ ∃ k, sv2.ownBlock = some k ∧ wr.heap.size ≤ k) (hK2 : Kp wr w' (Own b sv')) : BRel W w b sv st en stp bx box res w' := by
  refine ⟨R2, sv2, hM2, he, ?_, hK.trans hK2 (own_back hat), hx.kp hK2 (hM.not_own hx (by decide) (by decide))⟩
  rcases hat2 with e | ⟨k, e, hk⟩
  · rw [e]; exact hat
  · exact .inr ⟨k, e, Nat.le_trans hK.size hk⟩

theorem BRel.alloc {W w wr : World} {b bx : Nat} {box : Array Value} {sv : Value} {st en stp : Int} {res : List St} (h : BRel W w b sv st en stp bx box res wr) (o : Obj) : BRel W w b sv st en stp bx box res (wr.alloc o) := by
  obtain ⟨R', sv', h1, h2, h3, h4, h5⟩ := h
  exact ⟨R', sv', h1.alloc o, h2, h3, h4.alloc o, h5.alloc o⟩

theorem BRel.below {W w wr : World} {b bx : Nat} {box : Array Value} {R : List (St × Option Nat)} {sv : Value} {st en stp : Int} {res : List St} (hb : Below W.heap.size W w) (hM : PM w W.heap.size b R sv st en stp) (h : BRel W w b sv st en stp bx box res wr) : Below W.heap.size W wr := by
  obtain ⟨_, _, _, _, _, h4, _⟩ := h
  refine hb.trans (h4.below hb.size ?_)
  rintro k (rfl | e)
  · exact hM.ge
  · exact (hM.row.lt k e).1

/-- What is known of a call of build. -/
def BuildOk (W : World) (x : Nd) : Prop :=
  ∀ (A1 A2 : Option Addr) (c1 c2 : Nat), Kd.C k98 W A1 x.f1.length x.f1 → Kd.C k30 W A2 x.f2.length x.f2 →
  ∀ (w : World) (b : Nat) (R : List (St × Option Nat)) (sv : Value) (st en stp tgt : Int), Below W.heap.size W w → PM w W.heap.size b R sv st en stp → R.length + 2 * sz x ≤ 1000000 →
    Calls Try.prog 33 #[.pointer (some ⟨b, 0, none⟩), .agg #[.int .i64 x.f0, .slice A1 x.f1.length c1, .slice A2 x.f2.length c2], .int .i64 tgt] w (PostB W w b R sv st en stp (bld (re x) tgt (R.map (·.1))))

set_option maxHeartbeats 1000000 in
set_option maxRecDepth 100000 in
theorem build_cat (W : World) (rs : List Rg) (kids : List Nd) (ih : ∀ y, y ∈ kids → BuildOk W y) : BuildOk W ⟨2, rs, kids⟩ := by
  intro A1 A2 c1 c2 hr1 hr2 w b R sv st en stp tgt hb hM hsz
  have HB : Hid (Below W.heap.size W w) := hb
  have HM : Hid (PM w W.heap.size b R sv st en stp) := hM
  have HR : Hid (Kd.C k30 W A2 kids.length kids) := hr2
  have HI : Hid (∀ y, y ∈ kids → BuildOk W y) := ih
  have hkl := len_le_szL kids
  simp only [sz] at hsz
  have hklb : kids.length ≤ 1000000 := by omega
  have hres : Hid (bld (re ⟨2, rs, kids⟩) tgt (R.map (·.1)) = bldC (reL kids) tgt (R.map (·.1))) := by unfold Hid; simp [re, bld]
  clear hb hM hr1 hr2 ih
  rw [hres.out]
  go_enter Try.func33, Try.ntmps33
  go_wp2
  go_loopw [2, 11] (fun t i wr => ∃ k : Nat, k ≤ kids.length ∧ i = .int .i64 ((k : Int) - 1) ∧ t = .int .i64 (bldC (reL (kids.drop k)) tgt (R.map (·.1))).2 ∧ BRel W w b sv st en stp w.heap.size #[.int .i64 2, .slice A1 rs.length c1, .slice A2 kids.length c2] (bldC (reL (kids.drop k)) tgt (R.map (·.1))).1 wr) (fun _ i _ => (intOf i + 1).toNat)
  case atStart => exact ⟨kids.length, Nat.le_refl _, rfl, by simp [reL, bldC], by simpa [reL, bldC] using BRel.start HM.out _⟩
  case round =>
    obtain ⟨k, hk, rfl, rfl, hrel⟩ := hrel
    by_cases hk0 : 0 < k
    · obtain ⟨j, rfl⟩ : ∃ j, k = j + 1 := ⟨k - 1, by omega⟩
      have hdrop := reL_drop kids j (by omega)
      have hbw := hrel.below HB.out HM.out
      obtain ⟨R', sv', hM', hmap, hat, hK, hbx⟩ := hrel
      obtain ⟨ad, B1, d1, B2, d2, rfl, g0, g1, g2, _, p1, _, p2⟩ := at_T30 HR.out (j : Int) (by omega) (by omega)
      have hmem : rd_T30 kids (j : Int) ∈ kids := by unfold rd_T30; rw [Int.toNat_natCast, getD_lt (by omega)]; exact List.getElem_mem _
      have hy : kids[j] = rd_T30 kids (j : Int) := by unfold rd_T30; rw [Int.toNat_natCast, getD_lt (by omega)]
      have hszy := szL_mem _ hmem
      have hszd := szL_drop kids j (by omega)
      have hszl : szL (kids.drop j) ≤ szL kids := szL_drop_le kids j
      have hlenb := bldC_len (kids.drop (j + 1)) tgt (R.map (·.1))
      have hlR : R'.length = (bldC (reL (kids.drop (j + 1))) tgt (R.map (·.1))).1.length := by rw [← hmap]; simp
      rw [hy] at hdrop hszd
      rw [List.length_map] at hlenb
      have hc := HI.out _ hmem B1 B2 d1 d2 p1 p2 wr b R' sv' st en stp (bldC (reL (kids.drop (j + 1))) tgt (R.map (·.1))).2 hbw hM' (by omega)
      have g0 := (hbw.cell (World.block_lt_of_cell? W _ g0)).trans g0
      have g1 := (hbw.cell (World.block_lt_of_cell? W _ g1)).trans g1
      have g2 := (hbw.cell (World.block_lt_of_cell? W _ g2)).trans g2
      rw [Int.toNat_natCast] at g0 g1 g2
      have b2 := hbx.cell 2
      simp at b2
      have hE : Hid (bldC (reL (kids.drop j)) tgt (R.map (·.1)) = bld (re (rd_T30 kids (j : Int))) (bldC (reL (kids.drop (j + 1))) tgt (R.map (·.1))).2 (R'.map (·.1))) := by
        unfold Hid; rw [hdrop, bldC, hmap]
      generalize rd_T30 kids (j : Int) = y at *
      generalize (bldC (reL (kids.drop (j + 1))) tgt (R.map (·.1))).2 = t2 at *
      have HS : Hid (∀ R2 sv2 w', PM w' W.heap.size b R2 sv2 st en stp → R2.map (·.1) = (bldC (reL (kids.drop j)) tgt (R.map (·.1))).1 → (sv2.ownBlock = sv'.ownBlock ∨ ∃ k, sv2.ownBlock = some k ∧ wr.heap.size ≤ k) → Kp wr w' (Own b sv') → BRel W w b sv st en stp w.heap.size #[.int .i64 2, .slice A1 rs.length c1, .slice (some ad) kids.length c2] (bldC (reL (kids.drop j)) tgt (R.map (·.1))).1 w') :=
        fun R2 sv2 w' h1 h2 h3 h4 => BRel.step hM' hat hK hbx h1 h2 h3 h4
      have HJ : Hid (j + 1 ≤ kids.length) := hk
      clear hdrop hbw hM' hmap hat hK hbx p1 p2 hmem hy hszy hszd hszl hlenb hlR hsz hk hk0
      have hj := HJ.out
      go_wp2_with (go_at_call 33; refine hc.mono ?_; rintro e w' ⟨rfl, R2, sv2, h1, h2, h3, h4⟩)
      go_roundw
      case rel => exact ⟨j, by omega, by go_num, by rw [hE.out], HS.out R2 sv2 _ h1 (by rw [h2, hE.out]) h3 h4⟩
      case measure => simp [intOf]
    · obtain rfl : k = 0 := by omega
      rw [List.drop_zero] at hrel
      rw [List.drop_zero]
      obtain ⟨R', sv', hM', hmap, hat, hK, hbx⟩ := hrel
      have HP : Hid (∃ R' sv', PM wr W.heap.size b R' sv' st en stp ∧ R'.map (·.1) = (bldC (reL kids) tgt (R.map (·.1))).1 ∧ (sv'.ownBlock = sv.ownBlock ∨ ∃ k, sv'.ownBlock = some k ∧ w.heap.size ≤ k) ∧ Kp w wr (Own b sv)) := ⟨R', sv', hM', hmap, hat, hK⟩
      clear hM' hmap hat hK hbx
      go_wp2
      go_ret
      exact ⟨rfl, HP.out⟩

theorem setAt_none (w : World) (base : Nat) (a c : Int) : SetAt w base (⟨none, a, c⟩, none) := rfl

set_option maxHeartbeats 1000000 in
set_option maxRecDepth 100000 in
theorem build_alt (W : World) (rs : List Rg) (kids : List Nd) (ih : ∀ y, y ∈ kids → BuildOk W y) : BuildOk W ⟨3, rs, kids⟩ := by
  intro A1 A2 c1 c2 hr1 hr2 w b R sv st en stp tgt hb hM hsz
  have HB : Hid (Below W.heap.size W w) := hb
  have HM : Hid (PM w W.heap.size b R sv st en stp) := hM
  have HR : Hid (Kd.C k30 W A2 kids.length kids) := hr2
  have HI : Hid (∀ y, y ∈ kids → BuildOk W y) := ih
  have hkl := len_le_szL kids
  simp only [sz] at hsz
  have hklb : kids.length ≤ 1000000 := by omega
  have hres : bld (re ⟨3, rs, kids⟩) tgt (R.map (·.1)) = if (bldA (reL kids) tgt (R.map (·.1))).2 = -1 then ((bldA (reL kids) tgt (R.map (·.1))).1 ++ [⟨none, -1, -1⟩], ((bldA (reL kids) tgt (R.map (·.1))).1.length : Int)) else bldA (reL kids) tgt (R.map (·.1)) := by simp [re, bld]
  rw [hres]
  obtain ⟨res, hE0⟩ : ∃ res, (if (bldA (reL kids) tgt (R.map (·.1))).2 = -1 then ((bldA (reL kids) tgt (R.map (·.1))).1 ++ [⟨none, -1, -1⟩], ((bldA (reL kids) tgt (R.map (·.1))).1.length : Int)) else bldA (reL kids) tgt (R.map (·.1))) = res := ⟨_, rfl⟩
  rw [hE0]
  have HE := Lib.hid hE0
  clear hb hM hr1 hr2 ih hres hE0
  go_enter Try.func33, Try.ntmps33
  go_wp2
  go_loopw [12, 13] (fun t i wr => ∃ k : Nat, k ≤ kids.length ∧ i = .int .i64 ((k : Int) - 1) ∧ t = .int .i64 (bldA (reL (kids.drop k)) tgt (R.map (·.1))).2 ∧ BRel W w b sv st en stp w.heap.size #[.int .i64 3, .slice A1 rs.length c1, .slice A2 kids.length c2] (bldA (reL (kids.drop k)) tgt (R.map (·.1))).1 wr) (fun _ i _ => (intOf i + 1).toNat)
  case atStart => exact ⟨kids.length, Nat.le_refl _, rfl, by simp [reL, bldA], by simpa [reL, bldA] using BRel.start HM.out _⟩
  case round =>
    obtain ⟨k, hk, rfl, rfl, hrel⟩ := hrel
    by_cases hk0 : 0 < k
    · obtain ⟨j, rfl⟩ : ∃ j, k = j + 1 := ⟨k - 1, by omega⟩
      have hdrop := reL_drop kids j (by omega)
      have hbw := hrel.below HB.out HM.out
      obtain ⟨R', sv', hM', hmap, hat, hK, hbx⟩ := hrel
      obtain ⟨ad, B1, d1, B2, d2, rfl, g0, g1, g2, _, p1, _, p2⟩ := at_T30 HR.out (j : Int) (by omega) (by omega)
      have hmem : rd_T30 kids (j : Int) ∈ kids := by unfold rd_T30; rw [Int.toNat_natCast, getD_lt (by omega)]; exact List.getElem_mem _
      have hy : kids[j] = rd_T30 kids (j : Int) := by unfold rd_T30; rw [Int.toNat_natCast, getD_lt (by omega)]
      have hszy := szL_mem _ hmem
      have hszd := szL_drop kids j (by omega)
      have hszl : szL (kids.drop j) ≤ szL kids := szL_drop_le kids j
      have hlenb := bldA_len (kids.drop (j + 1)) tgt (R.map (·.1))
      have hlena := bldA_len (kids.drop j) tgt (R.map (·.1))
      have hlR : R'.length = (bldA (reL (kids.drop (j + 1))) tgt (R.map (·.1))).1.length := by rw [← hmap]; simp
      rw [hy] at hdrop hszd
      rw [List.length_map] at hlenb hlena
      have hc := HI.out _ hmem B1 B2 d1 d2 p1 p2 wr b R' sv' st en stp tgt hbw hM' (by omega)
      have g0 := (hbw.cell (World.block_lt_of_cell? W _ g0)).trans g0
      have g1 := (hbw.cell (World.block_lt_of_cell? W _ g1)).trans g1
      have g2 := (hbw.cell (World.block_lt_of_cell? W _ g2)).trans g2
      rw [Int.toNat_natCast] at g0 g1 g2
      have b2 := hbx.cell 2
      simp at b2
      have hE : Hid (bldA (reL (kids.drop j)) tgt (R.map (·.1)) = ((bld (re (rd_T30 kids (j : Int))) tgt (R'.map (·.1))).1 ++ [⟨none, (bld (re (rd_T30 kids (j : Int))) tgt (R'.map (·.1))).2, (bldA (reL (kids.drop (j + 1))) tgt (R.map (·.1))).2⟩], ((bld (re (rd_T30 kids (j : Int))) tgt (R'.map (·.1))).1.length : Int))) := by
        unfold Hid; rw [hdrop, bldA, hmap]
      have hl2 : (bld (re (rd_T30 kids (j : Int))) tgt (R'.map (·.1))).1.length ≤ 1000000 := by
        rw [hE.out] at hlena
        simp only [List.length_append, List.length_cons, List.length_nil] at hlena
        omega
      have HW : Hid (W.heap.size ≤ wr.heap.size) := hbw.size
      generalize rd_T30 kids (j : Int) = y at *
      generalize (bldA (reL (kids.drop (j + 1))) tgt (R.map (·.1))).2 = t2 at *
      generalize bld (re y) tgt (R'.map (·.1)) = BB at *
      have HS : Hid (∀ R2 sv2 w', PM w' W.heap.size b R2 sv2 st en stp → R2.map (·.1) = (bldA (reL (kids.drop j)) tgt (R.map (·.1))).1 → (sv2.ownBlock = sv'.ownBlock ∨ ∃ k, sv2.ownBlock = some k ∧ wr.heap.size ≤ k) → Kp wr w' (Own b sv') → BRel W w b sv st en stp w.heap.size #[.int .i64 3, .slice A1 rs.length c1, .slice (some ad) kids.length c2] (bldA (reL (kids.drop j)) tgt (R.map (·.1))).1 w') :=
        fun R2 sv2 w' h1 h2 h3 h4 => BRel.step hM' hat hK hbx h1 h2 h3 h4
      have HJ : Hid (j + 1 ≤ kids.length) := hk
      clear hdrop hbw hM' hmap hat hK hbx p1 p2 hmem hy hszy hszd hszl hlenb hlena hlR hsz hk hk0
      have hj := HJ.out
      go_wp2_with (first
        | (go_at_call 33; refine hc.mono ?_; rintro e w1 ⟨rfl, R2, sv2, h1, h2, h3, h4⟩; (have H2 : Hid (R2.map (·.1) = BB.1) := h2; have H1 : Hid (PM w1 W.heap.size b R2 sv2 st en stp) := h1; have H3 := Lib.hid h3; have H4 := Lib.hid h4; have ha := add_pm w1 W.heap.size b R2 sv2 st en stp (⟨none, BB.2, t2⟩, none) h1 (setAt_none _ _ _ _) (Nat.le_trans HW.out h4.size) (by have e := congrArg List.length h2; rw [List.length_map] at e; omega); simp only [stCells, Option.map_none] at ha; clear h1 h2 h3 h4))
        | (go_at_call 32; refine ha.mono ?_; rintro e w2 ⟨rfl, sv3, q1, q2, q3⟩))
      go_roundw
      case rel =>
        refine ⟨j, by omega, by go_num, ?_, HS.out (R2 ++ [(⟨none, BB.2, t2⟩, none)]) sv3 _ q1 ?_ ?_ (H4.out.trans q3 (own_back (H3.out)))⟩
        · rw [hE.out, ← H2.out, List.length_map]
        · rw [hE.out, List.map_append, H2.out]; rfl
        · rcases q2 with e | ⟨k, e, hk⟩
          · rw [e]; exact H3.out
          · exact .inr ⟨k, e, Nat.le_trans H4.out.size hk⟩
      case measure => simp [intOf]
    · obtain rfl : k = 0 := by omega
      rw [List.drop_zero] at hrel
      rw [List.drop_zero]
      have hlena := bldA_len kids tgt (R.map (·.1))
      have hbw := hrel.below HB.out HM.out
      have HW : Hid (W.heap.size ≤ wr.heap.size) := hbw.size
      have hE0 := HE.out
      clear HE
      generalize bldA (reL kids) tgt (R.map (·.1)) = BA at *
      obtain ⟨R', sv', hM', hmap, hat, hK, hbx⟩ := hrel
      have hlR : R'.length = BA.1.length := by rw [← hmap]; simp
      have HP : Hid (∃ R' sv', PM wr W.heap.size b R' sv' st en stp ∧ R'.map (·.1) = BA.1 ∧ (sv'.ownBlock = sv.ownBlock ∨ ∃ k, sv'.ownBlock = some k ∧ w.heap.size ≤ k) ∧ Kp w wr (Own b sv)) := ⟨R', sv', hM', hmap, hat, hK⟩
      by_cases hm1 : BA.2 = -1
      · rw [if_pos hm1] at hE0
        subst hE0
        rw [hm1]
        have ha := add_pm wr W.heap.size b R' sv' st en stp (⟨none, -1, -1⟩, none) hM' (setAt_none _ _ _ _) HW.out (by rw [hlR]; rw [List.length_map] at hlena; omega)
        simp only [stCells, Option.map_none] at ha
        have H2 := Lib.hid hmap
        have H3 := Lib.hid hat
        have H4 := Lib.hid hK
        clear hM' hmap hat hK hbx hm1 hlR hlena hbw HP
        go_wp2_with (go_at_call 32; refine ha.mono ?_; rintro e w2 ⟨rfl, sv3, q1, q2, q3⟩)
        go_ret
        refine ⟨by have e := congrArg List.length H2.out; rw [List.length_map] at e; show Ending.returned (.int .i64 (R'.length : Int)) = _; rw [e], R' ++ [(⟨none, -1, -1⟩, none)], sv3, q1, by rw [List.map_append, H2.out]; rfl, ?_, H4.out.trans q3 (own_back H3.out)⟩
        rcases q2 with e | ⟨k, e, hk⟩
        · rw [e]; exact H3.out
        · exact .inr ⟨k, e, Nat.le_trans H4.out.size hk⟩
      · rw [if_neg hm1] at hE0
        subst hE0
        have hm2 : (BA.2 == -1) = false := by simpa using hm1
        clear hM' hmap hat hK hbx hm1 hlR hlena hbw
        go_wp2
        go_ret
        exact ⟨rfl, HP.out⟩

set_option maxHeartbeats 1000000 in
set_option maxRecDepth 100000 in
theorem build_maybe (W : World) (rs : List Rg) (y : Nd) (kids : List Nd) (ih : BuildOk W y) : BuildOk W ⟨6, rs, y :: kids⟩ := by
  intro A1 A2 c1 c2 hr1 hr2 w b R sv st en stp tgt hb hM hsz
  have hc2 : Kd.C k30 W A2 (y :: kids).length (y :: kids) := hr2
  obtain ⟨ad, B1, d1, B2, d2, rfl, g0, g1, g2, _, p1, _, p2⟩ := at_T30 hc2 0 (by omega) (by simp)
  have hy : rd_T30 (y :: kids) 0 = y := rfl
  rw [hy] at g0 g1 g2 p1 p2
  have HB : Hid (Below W.heap.size W w) := hb
  have HM : Hid (PM w W.heap.size b R sv st en stp) := hM
  simp only [sz, szL] at hsz
  have hlen := bld_len y tgt (R.map (·.1))
  rw [List.length_map] at hlen
  have hres : bld (re ⟨6, rs, y :: kids⟩) tgt (R.map (·.1)) = ((bld (re y) tgt (R.map (·.1))).1 ++ [⟨none, (bld (re y) tgt (R.map (·.1))).2, tgt⟩], ((bld (re y) tgt (R.map (·.1))).1.length : Int)) := by simp [re, reK, bld]
  rw [hres]
  have hc := ih B1 B2 d1 d2 p1 p2 (w.alloc (.cells #[.int .i64 6, .slice A1 rs.length c1, .slice (some ad) (y :: kids).length c2] 30)) b R sv st en stp tgt (hb.trans (((Below.refl _ _).alloc (Nat.le_refl _) _).mono hb.size)) (hM.alloc _) (by omega)
  have hbA : Below W.heap.size W (w.alloc (.cells #[.int .i64 6, .slice A1 rs.length c1, .slice (some ad) (y :: kids).length c2] 30)) := hb.trans (((Below.refl _ _).alloc (Nat.le_refl _) _).mono hb.size)
  have e0 : ad.add ((0 : Int).toNat * 3) = ad := by simp [Addr.add]
  rw [e0] at g0 g1 g2
  have g0 := (hbA.cell (World.block_lt_of_cell? W _ g0)).trans g0
  have g1 := (hbA.cell (World.block_lt_of_cell? W _ g1)).trans g1
  have g2 := (hbA.cell (World.block_lt_of_cell? W _ g2)).trans g2
  have HW : Hid (W.heap.size ≤ w.heap.size) := hb.size
  generalize bld (re y) tgt (R.map (·.1)) = BB at *
  simp only [List.length_cons] at g0 g1 g2 hc
  clear hb hM hr1 hr2 hc2 ih p1 p2 hres hbA e0 hy
  go_enter Try.func33, Try.ntmps33
  go_wp2_with (first
    | (go_at_call 33; refine hc.mono ?_; rintro e w1 ⟨rfl, R2, sv2, h1, h2, h3, h4⟩; (have H2 : Hid (R2.map (·.1) = BB.1) := h2; have H1 : Hid (PM w1 W.heap.size b R2 sv2 st en stp) := h1; have H3 := Lib.hid h3; have H4 := Lib.hid h4; have ha := add_pm w1 W.heap.size b R2 sv2 st en stp (⟨none, BB.2, tgt⟩, none) h1 (setAt_none _ _ _ _) (Nat.le_trans HW.out (Nat.le_trans (by simp) h4.size)) (by have e := congrArg List.length h2; rw [List.length_map] at e; omega); simp only [stCells, Option.map_none] at ha; clear h1 h2 h3 h4))
    | (go_at_call 32; refine ha.mono ?_; rintro e w2 ⟨rfl, sv3, q1, q2, q3⟩))
  go_ret
  refine ⟨by have e := congrArg List.length H2.out; rw [List.length_map] at e; show Ending.returned (.int .i64 (R2.length : Int)) = _; rw [e], R2 ++ [(⟨none, BB.2, tgt⟩, none)], sv3, q1, by rw [List.map_append, H2.out]; rfl, ?_, ?_⟩
  · rcases q2 with e | ⟨k, e, hk⟩
    · rw [e]
      exact H3.out.imp id fun ⟨k, e, hk⟩ => ⟨k, e, Nat.le_trans (by simp) hk⟩
    · exact .inr ⟨k, e, Nat.le_trans (Nat.le_trans (by simp) H4.out.size) hk⟩
  · refine (((Kp.refl w (Own b sv)).alloc _).trans H4.out (fun _ _ c => c)).trans q3 (own_back (H3.out.imp id fun ⟨k, e, hk⟩ => ⟨k, e, Nat.le_trans (by simp) hk⟩))

end Go.Proofs.Ytdgidcfmggmbiaa.Nm
namespace Go.Proofs.Ytdgidcfmggmbiaa.Nm
set_option linter.unusedVariables false
set_option linter.unusedSimpArgs false
open Go.RowKit Mem Re Tree Go.Proofs.Ytdgidcfmggmbiaa.PRx Go.Proofs.YtdgidcfmggmbiaaW.PrintWords Go.Proofs.YtdgidcfmggmbiaaW.PrintLast Go.Proofs.YtdgidcfmggmbiaaW.PrintMore

theorem own_set {w : World} {base : Nat} {e : TypeId} {size g n cap : Nat} {xs : List Value} (h : w.ownsRow base e size (.slice (some ⟨g, 0, none⟩) n cap) n xs) {j : Nat} (hj : j < xs.length) (u : Value) :
    (w.setCell ⟨g, j, none⟩ u).ownsRow base e size (.slice (some ⟨g, 0, none⟩) n cap) n (xs.set j u) := by
  refine ⟨by rw [List.length_set]; exact h.1, ?_⟩
  rcases h.2 with ⟨h1, _⟩ | ⟨g', cap', cur, h1, hb, hh, hn, hm, hc, ht⟩
  · cases h1
  · injection h1 with h1 _ h2
    injection h1 with h1
    injection h1 with h1
    subst h1 h2
    have hs := Blk.set_ (t := e) hh j u
    refine .inr ⟨g, cap, cur.setIfInBounds j u, rfl, hb, hs, hn, hm, by simpa using hc, ?_⟩
    rw [Array.toList_setIfInBounds, List.take_set, ht]

theorem own_cell {w : World} {base : Nat} {e : TypeId} {size g n cap : Nat} {xs : List Value} (h : w.ownsRow base e size (.slice (some ⟨g, 0, none⟩) n cap) n xs) {j : Nat} {u : Value} (hu : xs[j]? = some u) : w.cell? ⟨g, j, none⟩ = some u := by
  have := h.cells (g := g) rfl j u hu
  have hadd : (⟨g, 0, none⟩ : Addr).add j = ⟨g, j, none⟩ := by unfold Addr.add; split <;> simp_all
  rwa [hadd] at this

theorem own_frozen {w : World} {base : Nat} {e : TypeId} {size g n cap : Nat} {xs : List Value} (h : w.ownsRow base e size (.slice (some ⟨g, 0, none⟩) n cap) n xs) (j : Nat) : w.frozen? ⟨g, j, none⟩ = false := by
  rcases h.2 with ⟨h1, _⟩ | ⟨g', cap', cur, h1, hb, hh, _⟩
  · cases h1
  · injection h1 with h1 _ h2
    injection h1 with h1
    injection h1 with h1
    subst h1
    exact Blk.frozen (t := e) hh j

theorem own_cap {w : World} {base : Nat} {e : TypeId} {size g n cap : Nat} {xs : List Value} (h : w.ownsRow base e size (.slice (some ⟨g, 0, none⟩) n cap) n xs) : n ≤ cap ∧ cap ≤ maxLen := by
  rcases h.2 with ⟨h1, _⟩ | ⟨g', cap', cur, h1, hb, hh, hn, hm, _⟩
  · cases h1
  · injection h1 with h1 _ h2
    subst h2
    exact ⟨hn, hm⟩

theorem stc_len (R : List (St × Option Nat)) : (R.flatMap stCells).length = R.length * 3 := by
  induction R with
  | nil => rfl
  | cons e R ih => simp only [List.flatMap_cons, List.length_append, ih, List.length_cons, stCells, List.length_nil]; omega

theorem stc_get (R : List (St × Option Nat)) (k j : Nat) (hj : j < 3) : (R.flatMap stCells)[k * 3 + j]? = (R[k]?.bind fun e => (stCells e)[j]?) := by
  induction R generalizing k with
  | nil => simp
  | cons e R ih =>
    have hl : (stCells e).length = 3 := rfl
    rw [List.flatMap_cons]
    cases k with
    | zero => rw [List.getElem?_append_left (by omega)]; simp
    | succ k =>
      rw [List.getElem?_append_right (by omega), show (k + 1) * 3 + j - (stCells e).length = k * 3 + j by omega, ih]
      simp

theorem stc_set (R : List (St × Option Nat)) (k : Nat) (v : Int) (s : St) (p : Option Nat) (h : R[k]? = some (s, p)) : (R.flatMap stCells).set (k * 3 + 1) (.int .i64 v) = (R.set k (⟨s.set, v, s.other⟩, p)).flatMap stCells := by
  induction R generalizing k with
  | nil => simp at h
  | cons e R ih =>
    have hl : (stCells e).length = 3 := rfl
    rw [List.flatMap_cons]
    cases k with
    | zero =>
      simp at h
      subst h
      rw [List.set_append_left _ _ (by omega)]
      rfl
    | succ k =>
      rw [List.set_append_right _ _ (by omega), show (k + 1) * 3 + 1 - (stCells e).length = k * 3 + 1 by omega, ih k (by simpa using h)]
      rfl

/-- The body's machine begins as what was there. -/
theorem bld_pre (r : Re) (M : List St) (x : St) (k : Nat) (hk : k ≤ M.length) : (bld r M.length (M ++ [x])).1[k]? = (M ++ [x])[k]? :=
  (frag (b := fun _ => 0) (len := 0) r M.length (M ++ [x]) (by omega) (by simp; omega)).1.pre k (by simp; omega)

/-- Next is set. -/
theorem pm_set {w : World} {base b : Nat} {R : List (St × Option Nat)} {g cap : Nat} {st en stp : Int} (h : PM w base b R (.slice (some ⟨g, 0, none⟩) R.length cap) st en stp) {k : Nat} {o : Int} {p : Option Nat} {x : Int} (hk : R[k]? = some (⟨none, x, o⟩, p)) (v : Int) :
    PM (w.setCell ⟨g, k * 3 + 1, none⟩ (.int .i64 v)) base b (R.set k (⟨none, v, o⟩, p)) (.slice (some ⟨g, 0, none⟩) R.length cap) st en stp := by
  have hkl : k < R.length := (List.getElem?_eq_some_iff.1 hk).1
  have hne := own_blk_ne h.row h.blk (by decide)
  have hbg : b ≠ g := fun e => hne (by rw [e]; rfl)
  refine ⟨h.blk.far (p := ⟨g, k * 3 + 1, none⟩) hbg _, h.ge, ?_, fun e he => ?_⟩
  · have := own_set h.row (j := k * 3 + 1) (by rw [stc_len]; omega) (.int .i64 v)
    rw [stc_set R k v _ _ hk] at this
    rw [List.length_set]
    exact this
  · have hK : Kp w (w.setCell ⟨g, k * 3 + 1, none⟩ (.int .i64 v)) (fun q => q = g) := Kp.set_ (p := ⟨g, k * 3 + 1, none⟩) (Kp.refl w (fun q => q = g)) (fun _ => rfl) _
    have hx : ∀ q, q = g → ∀ cs, ¬ Blk w q 101 cs := by
      rintro q rfl cs hc
      exact own_blk_ne h.row hc (by decide) rfl
    rcases List.mem_or_eq_of_mem_set he with he | rfl
    · exact (h.sets e he).kp hK hx
    · have h0 := h.sets _ (List.mem_of_getElem? hk)
      unfold SetAt at h0 ⊢
      exact h0

theorem own_trans {sv sv1 sv2 : Value} {n n1 : Nat} (h1 : sv1.ownBlock = sv.ownBlock ∨ ∃ k, sv1.ownBlock = some k ∧ n ≤ k) (h2 : sv2.ownBlock = sv1.ownBlock ∨ ∃ k, sv2.ownBlock = some k ∧ n1 ≤ k) (hn : n ≤ n1) : sv2.ownBlock = sv.ownBlock ∨ ∃ k, sv2.ownBlock = some k ∧ n ≤ k := by
  rcases h2 with e | ⟨k, e, hk⟩
  · rw [e]; exact h1
  · exact .inr ⟨k, e, Nat.le_trans hn hk⟩

theorem map_get {R : List (St × Option Nat)} {k : Nat} {s : St} (h : (R.map (·.1))[k]? = some s) : ∃ p, R[k]? = some (s, p) := by
  rw [List.getElem?_map] at h
  cases hr : R[k]? with
  | none => rw [hr] at h; cases h
  | some e =>
    rw [hr] at h
    simp at h
    exact ⟨e.2, by rw [← h]⟩

set_option maxHeartbeats 1000000 in
set_option maxRecDepth 100000 in
theorem build_loop (W : World) (kd : Int) (hkd : kd = 4 ∨ kd = 5) (rs : List Rg) (y : Nd) (kids : List Nd) (ih : BuildOk W y) : BuildOk W ⟨kd, rs, y :: kids⟩ := by
  intro A1 A2 c1 c2 hr1 hr2 w b R sv st en stp tgt hb hM hsz
  have hc2 : Kd.C k30 W A2 (y :: kids).length (y :: kids) := hr2
  obtain ⟨ad, B1, d1, B2, d2, rfl, g0, g1, g2, _, p1, _, p2⟩ := at_T30 hc2 0 (by omega) (by simp)
  have hy : rd_T30 (y :: kids) 0 = y := rfl
  rw [hy] at g0 g1 g2 p1 p2
  have HB : Hid (Below W.heap.size W w) := hb
  have HM : Hid (PM w W.heap.size b R sv st en stp) := hM
  simp only [sz, szL] at hsz
  have hpre : (bld (re y) (R.length : Int) (R.map (·.1) ++ [⟨none, 0, tgt⟩])).1[R.length]? = some ⟨none, 0, tgt⟩ := by
    have q := bld_pre (re y) (R.map (·.1)) ⟨none, 0, tgt⟩ R.length (by simp)
    rw [List.length_map] at q
    have e := get_append_at (M := R.map (·.1)) (x := ⟨none, 0, tgt⟩)
    rw [List.length_map] at e
    rw [q, e]
  have hlen := bld_len y (R.length : Int) (R.map (·.1) ++ [⟨none, 0, tgt⟩])
  rw [List.length_append, List.length_map] at hlen
  simp only [List.length_cons, List.length_nil] at hlen
  have hres : bld (re ⟨kd, rs, y :: kids⟩) tgt (R.map (·.1)) = ((bld (re y) (R.length : Int) (R.map (·.1) ++ [⟨none, 0, tgt⟩])).1.set R.length ⟨none, (bld (re y) (R.length : Int) (R.map (·.1) ++ [⟨none, 0, tgt⟩])).2, tgt⟩, if kd = 4 then (R.length : Int) else (bld (re y) (R.length : Int) (R.map (·.1) ++ [⟨none, 0, tgt⟩])).2) := by
    rcases hkd with rfl | rfl <;> simp [re, reK, bld]
  rw [hres]
  have hbA : Below W.heap.size W (w.alloc (.cells #[.int .i64 kd, .slice A1 rs.length c1, .slice (some ad) (y :: kids).length c2] 30)) := hb.trans (((Below.refl _ _).alloc (Nat.le_refl _) _).mono hb.size)
  have e0 : ad.add ((0 : Int).toNat * 3) = ad := by simp [Addr.add]
  rw [e0] at g0 g1 g2
  have hc : ∀ (w1 : World) (sv1 : Value), Below W.heap.size W w1 → PM w1 W.heap.size b (R ++ [(⟨none, 0, tgt⟩, none)]) sv1 st en stp → Calls Try.prog 33 #[.pointer (some ⟨b, 0, none⟩), .agg #[.int .i64 y.f0, .slice B1 y.f1.length d1, .slice B2 y.f2.length d2], .int .i64 (R.length : Int)] w1 (PostB W w1 b (R ++ [(⟨none, 0, tgt⟩, none)]) sv1 st en stp (bld (re y) (R.length : Int) (R.map (·.1) ++ [⟨none, 0, tgt⟩]))) := by
    intro w1 sv1 q1 q2
    have := ih B1 B2 d1 d2 p1 p2 w1 b _ sv1 st en stp (R.length : Int) q1 q2 (by simp; omega)
    rw [List.map_append] at this
    exact this
  generalize bld (re y) (R.length : Int) (R.map (·.1) ++ [⟨none, 0, tgt⟩]) = BB at *
  have ha0 := add_pm (w.alloc (.cells #[.int .i64 kd, .slice A1 rs.length c1, .slice (some ad) (y :: kids).length c2] 30)) W.heap.size b R sv st en stp (⟨none, 0, tgt⟩, none) (hM.alloc _) (setAt_none _ _ _ _) hbA.size (by omega)
  have hbx : Blk (w.alloc (.cells #[.int .i64 kd, .slice A1 rs.length c1, .slice (some ad) (y :: kids).length c2] 30)) w.heap.size 30 #[.int .i64 kd, .slice A1 rs.length c1, .slice (some ad) (y :: kids).length c2] := Blk.new _ _ _
  have hMA := hM.alloc (.cells #[.int .i64 kd, .slice A1 rs.length c1, .slice (some ad) (y :: kids).length c2] 30)
  simp only [List.length_cons] at g0 g1 g2 ha0 hbA hbx hMA
  simp only [stCells, Option.map_none] at ha0
  have HO : Hid (∀ k, Own b sv k → W.heap.size ≤ k) := fun k c => by
    rcases c with rfl | c
    · exact hM.ge
    · exact (hM.row.lt k c).1
  have G0 := Lib.hid g0
  have G1 := Lib.hid g1
  have G2 := Lib.hid g2
  have HBA := Lib.hid hbA
  have HX := Lib.hid hbx
  have HMA := Lib.hid hMA
  have HC := Lib.hid hc
  have HL := Lib.hid hlen
  have HP := Lib.hid hpre
  have HZ := Lib.hid hsz
  have hk4 : (kd == 1) = false ∧ (kd == 2) = false ∧ (kd == 3) = false ∧ (kd == 6) = false := by rcases hkd with rfl | rfl <;> decide
  obtain ⟨k1, k2, k3, k6⟩ := hk4
  obtain ⟨b4, k4⟩ : ∃ b4, (kd == 4) = b4 := ⟨_, rfl⟩
  obtain ⟨r2, hr2⟩ : ∃ r2, (if kd = 4 then (R.length : Int) else BB.2) = r2 := ⟨_, rfl⟩
  have HR2 : Hid (r2 = if b4 = true then (R.length : Int) else BB.2) := by unfold Hid; rw [← hr2, ← k4]; simp
  rw [hr2]
  clear hb hM hr1 hr2 hc2 ih p1 p2 hres e0 hy g0 g1 g2 hbA hbx hMA hc hlen hpre hsz hkd
  cases b4
  all_goals
    go_enter Try.func33, Try.ntmps33
    go_wp2_with (first
      | (go_at_call 32; refine ha0.mono ?_; rintro e w1 ⟨rfl, sv1, q1, q2, q3⟩; (have Q1 := Lib.hid q1; have Q2 := Lib.hid q2; have Q3 := Lib.hid q3; have HB1 := Lib.hid (HBA.out.trans (q3.below (B := W.heap.size) HBA.out.size HO.out)); have x1 := HX.out.kp q3 (HMA.out.not_own HX.out (by decide) (by decide)); have HX1 := Lib.hid x1; have x2 := x1.cell 2; simp at x2; have g0 := (HB1.out.cell (World.block_lt_of_cell? W _ G0.out)).trans G0.out; have g1 := (HB1.out.cell (World.block_lt_of_cell? W _ G1.out)).trans G1.out; have g2 := (HB1.out.cell (World.block_lt_of_cell? W _ G2.out)).trans G2.out; have hc := HC.out w1 sv1 HB1.out Q1.out; clear q1 q2 q3 x1))
      | (go_at_call 33; refine hc.mono ?_; rintro e w2 ⟨rfl, R2, sv2, h1, h2, h3, h4⟩; (obtain ⟨p, hp⟩ := map_get (h2 ▸ HP.out : (R2.map (·.1))[R.length]? = some ⟨none, 0, tgt⟩); have hlt : R.length < R2.length := (List.getElem?_eq_some_iff.1 hp).1; obtain ⟨gg, cap, rfl⟩ := own_form h1.row (by omega); have hcap := own_cap h1.row; obtain ⟨cap1, cap2⟩ := hcap; have m0 := h1.blk.cell 0; simp at m0; have m1 := own_cell h1.row (j := R.length * 3 + 1) (u := .int .i64 0) (by rw [stc_get _ _ _ (by omega), hp]; rfl); have m2 := own_frozen h1.row (R.length * 3 + 1); have x3 := HX1.out.kp h4 (Q1.out.not_own HX1.out (by decide) (by decide)); have x4 := (x3.far (p := ⟨gg, R.length * 3 + 1, none⟩) (fun c => own_blk_ne h1.row x3 (by decide) (by rw [c]; rfl)) (.int .i64 BB.2)).cell 0; simp at x4; have HPM := Lib.hid (pm_set h1 hp BB.2); have HMAP : Hid ((R2.set R.length (⟨none, BB.2, tgt⟩, p)).map (·.1) = BB.1.set R.length ⟨none, BB.2, tgt⟩) := (by unfold Hid; rw [List.map_set, h2]); have H3 := Lib.hid h3; have HK : Hid (Kp w (w2.setCell ⟨gg, R.length * 3 + 1, none⟩ (.int .i64 BB.2)) (Own b sv)) := ((((Kp.refl w (Own b sv)).alloc _).trans Q3.out (fun _ _ c => c)).trans h4 (own_back (Q2.out.imp id fun ⟨k, e, hk⟩ => ⟨k, e, Nat.le_trans (by simp) hk⟩))).set_ (p := ⟨gg, R.length * 3 + 1, none⟩) (fun hl => own_back (own_trans (n := w.heap.size) (Q2.out.imp id fun ⟨k, e, hk⟩ => ⟨k, e, Nat.le_trans (by simp) hk⟩) h3 (Nat.le_trans (by simp) Q3.out.size)) _ hl (.inr rfl)) _; clear h1 h2 h3 h4 hp x3)))
    go_ret
    refine ⟨by rw [HR2.out]; rfl, _, _, HPM.out, HMAP.out, own_trans (n := w.heap.size) (Q2.out.imp id fun ⟨k, e, hk⟩ => ⟨k, e, Nat.le_trans (by simp) hk⟩) H3.out (Nat.le_trans (by simp) Q3.out.size), HK.out⟩

/-- At every right tree. -/
theorem build_all (W : World) : ∀ (n : Nat) (x : Nd), sz x ≤ n → rightT x → okT x → BuildOk W x := by
  intro n
  induction n with
  | zero => intro x hx; have := sz_pos x; omega
  | succ n ih =>
    intro x hx hr ho
    obtain ⟨k, rs, kids⟩ := x
    simp only [rightT] at hr
    simp only [okT] at ho
    simp only [sz] at hx
    have hkids : ∀ y, y ∈ kids → BuildOk W y := fun y hy => ih y (by have := szL_mem y hy; omega) (rightL_mem hr.2.2 y hy) (okL_mem ho.2.2 y hy)
    have hk : k = 1 ∨ k = 2 ∨ k = 3 ∨ k = 4 ∨ k = 5 ∨ k = 6 := by have := hr.1; omega
    rcases hk with rfl | rfl | rfl | hk
    · intro A1 A2 c1 c2 hr1 hr2 w b R sv st en stp tgt hb hM hsz
      have := build_set W rs A1 A2 kids.length c1 c2 hr1 ho.2.1 w hb b R sv st en stp hM tgt (by omega)
      have e : re ⟨1, rs, kids⟩ = .set (inR rs) := by simp [re]
      rw [e]
      exact this
    · exact build_cat W rs kids hkids
    · exact build_alt W rs kids hkids
    · cases kids with
      | nil => exact (hr.2.1 (by omega) rfl).elim
      | cons y l =>
        have hy := hkids y List.mem_cons_self
        rcases hk with rfl | rfl | rfl
        · exact build_loop W 4 (.inl rfl) rs y l hy
        · exact build_loop W 5 (.inr rfl) rs y l hy
        · exact build_maybe W rs y l hy

end Go.Proofs.Ytdgidcfmggmbiaa.Nm
namespace Go.Proofs.Ytdgidcfmggmbiaa.Nm
set_option linter.unusedVariables false
set_option linter.unusedSimpArgs false
open Go.RowKit Mem Re

def ints (l : List Int) : Array Value := (l.map (Value.int .i64)).toArray
theorem ints_get {l : List Int} {k : Nat} (h : k < l.length) : (ints l)[k]? = some (.int .i64 l[k]) := by simp [ints, h]
theorem ints_getD {l : List Int} {k : Nat} (h : k < l.length) (d : Int) : (ints l)[k]? = some (.int .i64 (l.getD k d)) := by rw [ints_get h, getD_lt h]
theorem ints_set (l : List Int) (k : Nat) (v : Int) : (ints l).setIfInBounds k (.int .i64 v) = ints (l.set k v) := by simp [ints, List.map_set]
theorem made_zero (n : Nat) : madeCells #[.int .i64 0] n = ints (List.replicate n 0) := by
  apply Array.ext_getElem?
  intro i
  by_cases hi : i < n
  · rw [ints_get (by simpa using hi)]
    simp [madeCells, hi, Nat.mod_one]
  · rw [Array.getElem?_eq_none (by rw [size_madeCells]; omega), Array.getElem?_eq_none (by simp [ints]; omega)]

/-- A set of states in memory. -/
structure SS (w : World) (base sb : Nat) (F L : List Int) (lv : Value) (fb : Nat) : Prop where
  blk : Blk w sb 107 #[lv, .slice (some ⟨fb, 0, none⟩) F.length F.length]
  ge : base ≤ sb
  row : w.ownsRow base 3 1 lv L.length (L.map (Value.int .i64))
  fblk : Blk w fb 3 (ints F)
  fge : base ≤ fb
  ne_ : lv.ownBlock ≠ some fb

theorem infoInt : (Try.prog.info? 3).map (fun i => (i.zero, i.size, i.bytes)) = some (some (.int .i64 0), 1, 8) := by kernel_rfl

theorem make_ints (n : Nat) (hn : n ≤ 1000000) (w : World) : (Instr.makeSlice 105 (.int .i64 (n : Int)) (.int .i64 (n : Int))).run Try.prog w = .ok (.slice (some ⟨w.heap.size, 0, none⟩) n n) (w.alloc (.cells (ints (List.replicate n 0)) 3)) := by
  obtain ⟨i0, hi0, hz0, hz1, hz2⟩ := info_parts infoInt
  have := run_make (P := Try.prog) w 105 3 i0 (.int .i64 0) Try.underlying105 hi0 hz0 .i64 .i64 (n : Int) (n : Int) (by omega) (Int.le_refl _) (by rw [hz2]; omega) (by omega)
  rw [this, hz1, Int.toNat_natCast, Nat.mul_one]
  show _ = Result.ok _ (w.alloc (.cells (ints (List.replicate n 0)) 3))
  rw [← made_zero]
  rfl

set_option maxHeartbeats 1000000 in
theorem newSet_any (w : World) (base b : Nat) (R : List (St × Option Nat)) (sv : Value) (st en stp : Int) (h : PM w base b R sv st en stp) (hB : base ≤ w.heap.size) (hn : R.length ≤ 1000000) (hp : 0 < R.length) :
    Calls Try.prog 57 #[.pointer (some ⟨b, 0, none⟩)] w fun e w' => ∃ sb fb, e = .returned (.pointer (some ⟨sb, 0, none⟩)) ∧ SS w' base sb (List.replicate R.length (-1)) [] (.slice none 0 0) fb ∧ w.heap.size ≤ sb ∧ w.heap.size ≤ fb ∧ Kp w w' (fun _ => False) := by
  obtain ⟨g, cap, rfl⟩ := own_form h.row hp
  have m0 := h.blk.cell 0
  simp at m0
  have hbs := h.blk.lt
  have hcp := own_cap h.row
  obtain ⟨cap1, cap2⟩ := hcp
  have hmk := make_ints R.length hn
  clear h
  go_enter Try.func57, Try.ntmps57
  go_wp2
  generalize hn0 : R.length = n at *
  have hf0 : Blk ((w.alloc (.cells (ints (List.replicate n 0)) 3)).alloc (.cells #[.slice none 0 0, .slice (some ⟨w.heap.size, 0, none⟩) n n] 107)) w.heap.size 3 (ints (List.replicate n 0)) := (Blk.new _ _ _).alloc _
  have hs0 : Blk ((w.alloc (.cells (ints (List.replicate n 0)) 3)).alloc (.cells #[.slice none 0 0, .slice (some ⟨w.heap.size, 0, none⟩) n n] 107)) (w.heap.size + 1) 107 #[.slice none 0 0, .slice (some ⟨w.heap.size, 0, none⟩) n n] := Blk.last _ _ _ (by simp)
  go_loopw [18] (fun i wr => ∃ k : Nat, k ≤ n ∧ i = .int .i64 k ∧ Blk wr w.heap.size 3 (ints (List.replicate k (-1) ++ List.replicate (n - k) 0)) ∧ Blk wr (w.heap.size + 1) 107 #[.slice none 0 0, .slice (some ⟨w.heap.size, 0, none⟩) n n] ∧ Kp w wr (fun _ => False)) (fun i _ => n - (intOf i).toNat)
  case atStart => exact ⟨0, Nat.zero_le _, rfl, by simpa using hf0, hs0, ((Kp.refl w _).alloc _).alloc _⟩
  case round =>
    obtain ⟨k, hk, rfl, hF, hS, hK⟩ := hrel
    by_cases hlt : k < n
    · have f0 := hF.cell k
      rw [ints_get (by simp; omega)] at f0
      have f1 := hF.frozen k
      have s1 := hS.cell 1
      simp at s1
      generalize (List.replicate k (-1) ++ List.replicate (n - k) 0 : List Int)[k]'(by simp; omega) = old at f0
      have HF := Lib.hid hF
      have HS := Lib.hid hS
      have HK := Lib.hid hK
      clear hF hS hK hf0 hs0 hmk
      go_wp2
      go_roundw
      case rel =>
        refine ⟨k + 1, by omega, by go_num, ?_, HS.out.far (p := ⟨w.heap.size, k, none⟩) (by simp) _, HK.out.set_ (p := ⟨w.heap.size, k, none⟩) (fun c => by simp at c) _⟩
        have e := HF.out.set_ k (.int .i64 (-1))
        rw [ints_set] at e
        have e2 : (List.replicate k (-1) ++ List.replicate (n - k) 0 : List Int).set k (-1) = List.replicate (k + 1) (-1) ++ List.replicate (n - (k + 1)) 0 := by
          rw [List.set_append_right _ _ (by simp), List.length_replicate, Nat.sub_self, show n - k = (n - (k + 1)) + 1 by omega, List.replicate_succ (n := n - (k + 1)), List.set_cons_zero, List.replicate_succ', List.append_assoc]
          rfl
        rw [e2] at e
        exact e
      case measure => simp [intOf]; omega
    · obtain rfl : k = n := by omega
      rw [Nat.sub_self, List.replicate_zero, List.append_nil] at hF
      have HP : Hid (SS wr base (w.heap.size + 1) (List.replicate k (-1)) [] (.slice none 0 0) w.heap.size ∧ Kp w wr (fun _ => False)) := ⟨⟨by simpa using hS, by omega, World.ownsRow_nil _ _ _ _, hF, hB, by simp [Value.ownBlock]⟩, hK⟩
      clear hF hS hK hf0 hs0 hmk
      go_wp2
      go_ret
      refine ⟨w.heap.size + 1, w.heap.size, rfl, ?_, by omega, Nat.le_refl _, HP.out.2⟩
      rw [hn0]
      exact HP.out.1

/-- What a call on a set changes. -/
def Oss (sb fb : Nat) (lv : Value) (k : Nat) : Prop := k = sb ∨ k = fb ∨ lv.ownBlock = some k

theorem SS.oth {w : World} {base sb : Nat} {F L : List Int} {lv : Value} {fb : Nat} (h : SS w base sb F L lv fb) : Oth w (Oss sb fb lv) := by
  rintro k c t cs hb
  have key : ∀ t', t ≠ t' → ∀ t'', t ≠ t'' → True := fun _ _ _ _ => trivial
  rcases c with rfl | rfl | c
  · refine ⟨?_, ?_, ?_⟩ <;> (intro e; subst e; exact (h.blk.ne_ hb (by decide)) rfl)
  · refine ⟨?_, ?_, ?_⟩ <;> (intro e; subst e; exact (h.fblk.ne_ hb (by decide)) rfl)
  · refine ⟨?_, ?_, ?_⟩ <;> (intro e; subst e; exact own_blk_ne h.row hb (by decide) c)

theorem SS.kp {w w' : World} {base sb : Nat} {F L : List Int} {lv : Value} {fb : Nat} {ex : Nat → Prop} (h : SS w base sb F L lv fb) (hk : Kp w w' ex) (hx : ∀ k, ex k → ¬ Oss sb fb lv k) : SS w' base sb F L lv fb where
  blk := h.blk.kp hk (fun c => hx _ c (.inl rfl))
  ge := h.ge
  row := own_kp h.row hk (fun k e c => hx _ c (.inr (.inr e)))
  fblk := h.fblk.kp hk (fun c => hx _ c (.inr (.inl rfl)))
  fge := h.fge
  ne_ := h.ne_

set_option maxHeartbeats 1000000 in
theorem clear_any (w : World) (base sb : Nat) (F L : List Int) (lv : Value) (fb : Nat) (h : SS w base sb F L lv fb) (hL : ∀ x, x ∈ L → 0 ≤ x ∧ x < F.length) (hn : F.length ≤ 1000000) (hln : L.length ≤ 1000000) :
    Calls Try.prog 59 #[.pointer (some ⟨sb, 0, none⟩)] w fun e w' => e = .returned (.tuple #[]) ∧ ∃ F' lv', SS w' base sb F' [] lv' fb ∧ F'.length = F.length ∧ (∀ y : Int, 0 ≤ y → y < F.length → (y ∈ L → fa F' y = -1) ∧ (y ∉ L → fa F' y = fa F y)) ∧ lv'.ownBlock = lv.ownBlock ∧ Kp w w' (Oss sb fb lv) := by
  obtain ⟨LA, lc, hlv⟩ : ∃ LA lc, lv = .slice LA L.length lc := by
    rcases h.row.2 with ⟨e, e2⟩ | ⟨g, cap, _, e, _⟩
    · rw [e, e2]; exact ⟨_, _, rfl⟩
    · exact ⟨_, _, e⟩
  subst hlv
  have b0 := h.blk.cell 0
  have b1 := h.blk.cell 1
  simp at b0 b1
  have hcut : ∀ W : World, w.heap.size ≤ W.heap.size → W.ownsRow base 3 1 (.slice LA L.length lc) L.length (L.map (Value.int .i64)) → W.ownsRow base 3 1 (.slice LA 0 lc) 0 [] := by
    intro W _ h
    refine ⟨by simp, ?_⟩
    rcases h.2 with ⟨e, e2⟩ | ⟨g, cap, cur, e, q1, q2, q3, q4, q5, q6⟩
    · injection e with e1 _ e3
      exact .inl ⟨by rw [e1, e3], rfl⟩
    · injection e with e1 _ e3
      exact .inr ⟨g, cap, cur, by rw [e1, e3], q1, q2, Nat.zero_le _, q4, q5, by simp⟩
  have hown : (Value.slice LA 0 lc).ownBlock = (Value.slice LA L.length lc).ownBlock := by cases LA <;> rfl
  have HCUT := Lib.hid hcut
  have HOWN := Lib.hid hown
  have HS := Lib.hid h
  have HL := Lib.hid hL
  clear h hL hcut hown
  go_enter Try.func59, Try.ntmps59
  go_wp2
  go_loopw [9] (fun i wr => ∃ k : Nat, k ≤ L.length ∧ i = .int .i64 k ∧ ∃ F', SS wr base sb F' L (.slice LA L.length lc) fb ∧ F'.length = F.length ∧ (∀ y : Int, 0 ≤ y → y < F.length → (y ∈ L.take k → fa F' y = -1) ∧ (y ∉ L.take k → fa F' y = fa F y)) ∧ Kp w wr (Oss sb fb (.slice LA L.length lc))) (fun i _ => L.length - (intOf i).toNat)
  case atStart => exact ⟨0, Nat.zero_le _, rfl, F, HS.out, rfl, fun y _ _ => ⟨fun h => by simp at h, fun _ => rfl⟩, Kp.refl _ _⟩
  case round =>
    obtain ⟨k, hk, rfl, F', hSS, hlen, hF, hK⟩ := hrel
    by_cases hlt : k < L.length
    · obtain ⟨g, cap, e⟩ := own_form hSS.row (by omega)
      injection e with e1 _ e3
      subst e1 e3
      have l0 := own_cell hSS.row (j := k) (u := .int .i64 L[k]) (by simp [hlt])
      have hx := HL.out L[k] (List.getElem_mem _)
      obtain ⟨x, hxe⟩ : ∃ x : Nat, L[k] = (x : Int) := ⟨L[k].toNat, by omega⟩
      rw [hxe] at hx l0
      have c0 := hSS.blk.cell 0
      have c1 := hSS.blk.cell 1
      simp at c0 c1
      rw [hlen] at c1
      have f0 := hSS.fblk.cell x
      rw [ints_get (by omega)] at f0
      have f1 := hSS.fblk.frozen x
      generalize F'[x]'(by omega) = old at f0
      have hxl : x < F.length := by omega
      have HNEW : Hid (SS (wr.setCell ⟨fb, x, none⟩ (.int .i64 (-1))) base sb (F'.set x (-1)) L (.slice (some ⟨g, 0, none⟩) L.length lc) fb) := by
        have hq : Kp wr (wr.setCell ⟨fb, x, none⟩ (.int .i64 (-1))) (fun q => q = fb) := Kp.set_ (p := ⟨fb, x, none⟩) (Kp.refl wr (fun q => q = fb)) (fun _ => rfl) _
        refine ⟨by rw [List.length_set]; exact hSS.blk.far (p := ⟨fb, x, none⟩) (hSS.blk.ne_ hSS.fblk (by decide)) _, hSS.ge, own_kp hSS.row hq (fun k e c => hSS.ne_ (by rw [e, c])), ?_, hSS.fge, hSS.ne_⟩
        have := hSS.fblk.set_ x (.int .i64 (-1))
        rwa [ints_set] at this
      have HF : Hid (∀ y : Int, 0 ≤ y → y < F.length → (y ∈ L.take (k + 1) → fa (F'.set x (-1)) y = -1) ∧ (y ∉ L.take (k + 1) → fa (F'.set x (-1)) y = fa F y)) := by
        intro y y0 y1
        have hs := fa_set (F := F') (x := (x : Int)) (a := -1) (by omega) (by omega) y0
        rw [Int.toNat_natCast] at hs
        rw [hs, List.take_succ_eq_append_getElem hlt, hxe]
        obtain ⟨a1, a2⟩ := hF y y0 y1
        constructor
        · intro hm
          split
          · rfl
          · rename_i hne
            rcases List.mem_append.1 hm with hm | hm
            · exact a1 hm
            · simp at hm; exact (hne hm).elim
        · intro hm
          simp only [List.mem_append, List.mem_singleton, not_or] at hm
          rw [if_neg hm.2]
          exact a2 hm.1
      have HK := Lib.hid hK
      have HLN := Lib.hid hlen
      clear hSS hlen hF hK hx hxe
      go_wp2
      go_roundw
      case rel => exact ⟨k + 1, by omega, by go_num, F'.set x (-1), HNEW.out, by rw [List.length_set]; exact HLN.out, HF.out, HK.out.set_ (p := ⟨fb, x, none⟩) (fun _ => .inr (.inl rfl)) _⟩
      case measure => simp [intOf]; omega
    · obtain rfl : k = L.length := by omega
      rw [List.take_length] at hF
      have c0 := hSS.blk.cell 0
      simp at c0
      have c1 := hSS.blk.frozen 0
      have HP : Hid (∃ F' lv', SS (wr.setCell ⟨sb, 0, none⟩ (.slice LA 0 lc)) base sb F' [] lv' fb ∧ F'.length = F.length ∧ (∀ y : Int, 0 ≤ y → y < F.length → (y ∈ L → fa F' y = -1) ∧ (y ∉ L → fa F' y = fa F y)) ∧ lv'.ownBlock = (Value.slice LA L.length lc).ownBlock ∧ Kp w (wr.setCell ⟨sb, 0, none⟩ (.slice LA 0 lc)) (Oss sb fb (.slice LA L.length lc))) := by
        have hq : Kp wr (wr.setCell ⟨sb, 0, none⟩ (.slice LA 0 lc)) (fun q => q = sb) := Kp.set_ (p := ⟨sb, 0, none⟩) (Kp.refl wr (fun q => q = sb)) (fun _ => rfl) _
        refine ⟨F', .slice LA 0 lc, ⟨by simpa using hSS.blk.set_ 0 (.slice LA 0 lc), hSS.ge, own_kp (HCUT.out wr hK.size hSS.row) hq ?_, hSS.fblk.far (p := ⟨sb, 0, none⟩) (hSS.fblk.ne_ hSS.blk (by decide)) _, hSS.fge, by rw [HOWN.out]; exact hSS.ne_⟩, hlen, hF, HOWN.out, hK.set_ (p := ⟨sb, 0, none⟩) (fun _ => .inl rfl) _⟩
        intro q e c
        rw [HOWN.out] at e
        subst c
        exact own_blk_ne hSS.row hSS.blk (by decide) e
      clear hSS hlen hF hK
      go_wp2
      go_end0
      exact ⟨rfl, HP.out⟩

end Go.Proofs.Ytdgidcfmggmbiaa.Nm
