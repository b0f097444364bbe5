/- The walks of Compile, Longest, Find, Steps. Plain: what the printed functions over trees yield: depth, count, right, wrong, few, Check. No program in sight. Nodes that the laws make themselves: tree, of; a node's value that is read. Plain: the document's example: what its tree matches in its texts. And the walk of alive. -/
import Derived.Test.YtdgidcfmggmbiaaNu
import Derived.Test.YtdgidcfmggmbiaaPRxx2
import Derived.Test.YtdgidcfmggmbiaaMn
import Derived.IntWalk
namespace Go.Proofs.Ytdgidcfmggmbiaa.Nm
set_option linter.unusedVariables false
set_option linter.unusedSimpArgs false
open Go.RowKit Mem Re Tree Go.Proofs.Ytdgidcfmggmbiaa.PRx Go.Proofs.YtdgidcfmggmbiaaW.PrintWords Go.Proofs.YtdgidcfmggmbiaaW.PrintLast Go.Proofs.YtdgidcfmggmbiaaW.PrintMore

/-- A machine of r. -/
def Mach (w : World) (base b : Nat) (r : Re) (stp : Int) : Prop :=
  ∃ R sv, PM w base b R sv (Re.start r) 0 stp ∧ R.map (·.1) = mac r ∧ R.length ≤ 1000000 ∧ base ≤ w.heap.size

theorem PM.kpb {w w' : World} {base b b' : Nat} {R : List (St × Option Nat)} {sv : Value} {st en stp : Int} {cs : Array Value} (h : PM w base b R sv st en stp) (hk : Kp w w' (fun k => k = b')) (h' : Blk w b' 76 cs) (hne : b ≠ b') : PM w' base b R sv st en stp where
  blk := h.blk.kp hk hne
  ge := h.ge
  row := own_kp h.row hk fun k e c => by subst c; exact own_blk_ne h.row h' (by decide) e
  sets := fun e he => (h.sets e he).kp hk fun q c cs hb => by subst c; exact (Blk.ne_ h' hb (by decide)) rfl

theorem Mach.blk {w : World} {base b : Nat} {r : Re} {stp : Int} (h : Mach w base b r stp) : ∃ cs, Blk w b 76 cs := by
  obtain ⟨R, sv, h, _⟩ := h
  exact ⟨_, h.blk⟩
theorem Mach.kpb {w w' : World} {base base' b b' : Nat} {r r' : Re} {stp stp' : Int} (h : Mach w base b r stp) (hk : Kp w w' (fun k => k = b')) (h' : Mach w base' b' r' stp') (hne : b ≠ b') : Mach w' base b r stp := by
  obtain ⟨cs, hb⟩ := h'.blk
  obtain ⟨R, sv, h1, h2, h3, h4⟩ := h
  exact ⟨R, sv, h1.kpb hk hb hne, h2, h3, Nat.le_trans h4 hk.size⟩
theorem Mach.below {w w' : World} {base b : Nat} {r : Re} {stp : Int} (h : Mach w base b r stp) (hk : Below w.heap.size w w') : Mach w' base b r stp := by
  obtain ⟨R, sv, h1, h2, h3, h4⟩ := h
  exact ⟨R, sv, h1.kp (Kp.of_below (ex := fun _ => False) hk (fun k a c => by omega)) (oth_none w), h2, h3, Nat.le_trans h4 hk.size⟩
theorem Mach.lt {w : World} {base b : Nat} {r : Re} {stp : Int} (h : Mach w base b r stp) : b < w.heap.size := by
  obtain ⟨cs, hb⟩ := h.blk
  exact hb.lt

/-- What Longest answers. -/
def LongP (s : ByteArray) (r : Re) (a v : Int) : Prop :=
  (0 ≤ a ∧ a ≤ s.size → (v = -1 ∧ ∀ j, ¬ mt (bS s) s.size r a.toNat j) ∨ (∃ j : Nat, v = j ∧ j ≤ s.size ∧ mt (bS s) s.size r a.toNat j ∧ ∀ j', mt (bS s) s.size r a.toNat j' → j' ≤ j)) ∧ (¬ (0 ≤ a ∧ a ≤ s.size) → v = -1)

theorem mt_le (s : ByteArray) (r : Re) {i j : Nat} (h : mt (bS s) s.size r i j) (hi : i ≤ s.size) : i ≤ j ∧ j ≤ s.size :=
  ⟨((reach_mt r i j).2 h).le, ((reach_mt r i j).2 h).le_len hi⟩

theorem longP_of (s : ByteArray) (r : Re) (a : Nat) (ha : a ≤ s.size) (ok : Bool) (f t : Int) (h : Best (bS s) s.size r false a (s.size + 1) ok f t) : LongP s r a (if ok = true then t else -1) := by
  refine ⟨fun _ => ?_, fun c => (c ⟨by omega, by omega⟩).elim⟩
  rw [Int.toNat_natCast]
  cases ok with
  | false =>
    refine .inl ⟨rfl, fun j hm => h.1 rfl a j ⟨Nat.le_refl _, fun _ => rfl⟩ (by have := mt_le s r hm ha; omega) hm⟩
  | true =>
    obtain ⟨f', t', _, e2, h1, h2, h3, h4⟩ := h.2 rfl
    have hf : f' = a := h1.2 rfl
    subst hf
    refine .inr ⟨t', e2, by omega, h3, fun j' hm => ?_⟩
    rcases h4 f' j' ⟨Nat.le_refl _, fun _ => rfl⟩ (by have := mt_le s r hm ha; omega) hm with c | c <;> omega

/-- What Find answers. -/
def FindP (s : ByteArray) (r : Re) (f t : Int) (ok : Bool) : Prop := Best (bS s) s.size r true 0 (s.size + 1) ok f t ∧ (ok = false → f = 0 ∧ t = 0)

theorem find_any (w : World) (base b : Nat) (r : Re) (stp : Int) (s : ByteArray) (hM : Mach w base b r stp) (hs : s.size ≤ 1000000000) :
    Calls Try.prog 19 #[.pointer (some ⟨b, 0, none⟩), .string s] w fun e w' => ∃ f t ok stp', e = .returned (.tuple #[.int .i64 f, .int .i64 t, .bool ok]) ∧ FindP s r f t ok ∧ 0 ≤ stp' ∧ stp' ≤ (((mac r).length * s.size : Nat) : Int) ∧ Mach w' base b r stp' ∧ Kp w w' (fun k => k = b) := by
  obtain ⟨R, sv, hP, hR, hn, hB⟩ := hM
  have hML : (mac r).length = R.length := by rw [← hR]; simp
  have hr := run_any w base b R sv stp r s 0 true hP hB hR hn hs (Nat.zero_le _)
  have HR := Lib.hid hR
  clear hP hR
  go_enter Try.func19, Try.ntmps19
  go_wp2_with (first
    | (go_at_call 43; refine hr.mono ?_; rintro e w1 ⟨ok, frm, to_, stp1, rfl, q1, q2, q3, q4, q5, q6⟩; (have Q1 : Hid (FindP s r frm to_ ok) := ⟨q1, q2⟩; have Q4 : Hid (stp1 ≤ (((mac r).length * s.size : Nat) : Int)) := (by rw [hML]; exact q4); have Q5 : Hid (Mach w1 base b r stp1) := ⟨R, sv, q5, HR.out, hn, Nat.le_trans hB q6.size⟩; have Q6 := Lib.hid q6; have Q3 := Lib.hid q3; clear q1 q2 q4 q5 q6 hr)))
  go_ret3
  exact ⟨_, _, _, _, rfl, Q1.out, Q3.out, Q4.out, Q5.out, Q6.out⟩

theorem PM.stend {w : World} {base b : Nat} {R : List (St × Option Nat)} {sv : Value} {st en stp : Int} (h : PM w base b R sv st en stp) (j : Nat) (v : Int) (hj : j = 1 ∨ j = 2) : PM (w.setCell ⟨b, j, none⟩ (.int .i64 v)) base b R sv (if j = 1 then v else st) (if j = 2 then v else en) stp := by
  have hq : Kp w (w.setCell ⟨b, j, none⟩ (.int .i64 v)) (fun q => q = b) := Kp.set_ (p := ⟨b, j, none⟩) (Kp.refl w (fun q => q = b)) (fun _ => rfl) _
  refine ⟨?_, h.ge, own_kp h.row hq (fun k e c => ?_), fun e he => (h.sets e he).kp hq (fun q c cs hc => ?_)⟩
  · rcases hj with rfl | rfl
    · simpa using h.blk.set_ 1 (.int .i64 v)
    · simpa using h.blk.set_ 2 (.int .i64 v)
  · subst c; exact own_blk_ne h.row h.blk (by decide) e
  · subst c; exact (Blk.ne_ h.blk hc (by decide)) rfl

theorem zeroProg (w : World) : (zeroValue 76).run Try.prog w = .ok (.agg #[.slice none 0 0, .int .i64 0, .int .i64 0, .int .i64 0]) w := by kernel_rfl

set_option maxHeartbeats 2000000 in
set_option maxRecDepth 100000 in
theorem compile_bad (w : World) (x : Nd) (A1 A2 : Option Addr) (c1 c2 : Nat) (hr1 : Kd.C k98 w A1 x.f1.length x.f1) (hc1 : x.f1.length ≤ c1) (hr2 : Kd.C k30 w A2 x.f2.length x.f2) (hc2 : x.f2.length ≤ c2)
    (k1 k2 : Nat) (c : Int) (hc : nfa_count.f k1 x.f0 x.f1 x.f2 1 = some c) (hcb : c ≤ 1000) (hr : nfa_right.f k2 x.f0 x.f1 x.f2 = some false) :
    Calls Try.prog 15 #[.agg #[.int .i64 x.f0, .slice A1 x.f1.length c1, .slice A2 x.f2.length c2]] w fun e w' => e = .returned (.tuple #[.pointer none, .int .i64 1]) ∧ Below w.heap.size w w' := by
  have hbw : Below w.heap.size w (w.alloc (.cells #[.int .i64 x.f0, .slice A1 x.f1.length c1, .slice A2 x.f2.length c2] 30)) := (Below.refl _ _).alloc (Nat.le_refl _) _
  have h1 := nfa_count.calls k1 x.f0 A1 c1 x.f1 A2 c2 x.f2 1 c (w.alloc (.cells #[.int .i64 x.f0, .slice A1 x.f1.length c1, .slice A2 x.f2.length c2] 30)) (Kd.C_below hr1 hbw) hc1 (Kd.C_below hr2 hbw) hc2 hc
  have h2 : Hid (∀ w2, Below w.heap.size w w2 → Calls Try.prog 31 #[.agg #[.int .i64 x.f0, .slice A1 x.f1.length c1, .slice A2 x.f2.length c2]] w2 fun e w' => e = .returned (.bool false) ∧ Below w2.heap.size w2 w') := fun w2 hb =>
    nfa_right.calls k2 x.f0 A1 c1 x.f1 A2 c2 x.f2 false w2 (Kd.C_below hr1 hb) hc1 (Kd.C_below hr2 hb) hc2 hr
  have hbx : Blk (w.alloc (.cells #[.int .i64 x.f0, .slice A1 x.f1.length c1, .slice A2 x.f2.length c2] 30)) w.heap.size 30 #[.int .i64 x.f0, .slice A1 x.f1.length c1, .slice A2 x.f2.length c2] := Blk.new _ _ _
  have HBW := Lib.hid hbw
  have HBX := Lib.hid hbx
  have e1 : decide (c > 1000) = false := by simp; omega
  clear hr1 hr2 hc hr hbw hbx
  go_enter Try.func15, Try.ntmps15
  go_wp2_with (first
    | (go_at_call 30; refine h1.mono ?_; rintro e w2 ⟨rfl, q1⟩; (have Q1 := Lib.hid (HBW.out.trans (q1.mono (by simp))); have q2 := HBX.out.below q1 (by simp); have x0 := q2.cell 0; have x1 := q2.cell 1; have x2 := q2.cell 2; simp at x0 x1 x2; have h3 := h2.out w2 Q1.out; clear q1 q2 h1))
    | (go_at_call 31; refine h3.mono ?_; rintro e w3 ⟨rfl, q1⟩; (have Q3 := Lib.hid (Q1.out.trans (q1.mono Q1.out.size)); clear q1 h3)))
  go_ret2
  exact ⟨rfl, Q3.out⟩

set_option maxHeartbeats 2000000 in
set_option maxRecDepth 100000 in
theorem compile_ok (w : World) (x : Nd) (A1 A2 : Option Addr) (c1 c2 : Nat) (hr1 : Kd.C k98 w A1 x.f1.length x.f1) (hc1 : x.f1.length ≤ c1) (hr2 : Kd.C k30 w A2 x.f2.length x.f2) (hc2 : x.f2.length ≤ c2)
    (k1 k2 : Nat) (c : Int) (hc : nfa_count.f k1 x.f0 x.f1 x.f2 1 = some c) (hcb : c ≤ 1000) (hr : nfa_right.f k2 x.f0 x.f1 x.f2 = some true) (hrt : rightT x) (hok : okT x) (hsz : sz x ≤ 1000) :
    Calls Try.prog 15 #[.agg #[.int .i64 x.f0, .slice A1 x.f1.length c1, .slice A2 x.f2.length c2]] w fun e w' => ∃ b, e = .returned (.tuple #[.pointer (some ⟨b, 0, none⟩), .int .i64 0]) ∧ Mach w' w.heap.size b (re x) 0 ∧ w.heap.size ≤ b ∧ Below w.heap.size w w' := by
  have hbw : Below w.heap.size w (w.alloc (.cells #[.int .i64 x.f0, .slice A1 x.f1.length c1, .slice A2 x.f2.length c2] 30)) := (Below.refl _ _).alloc (Nat.le_refl _) _
  have h1 := nfa_count.calls k1 x.f0 A1 c1 x.f1 A2 c2 x.f2 1 c (w.alloc (.cells #[.int .i64 x.f0, .slice A1 x.f1.length c1, .slice A2 x.f2.length c2] 30)) (Kd.C_below hr1 hbw) hc1 (Kd.C_below hr2 hbw) hc2 hc
  have h2 : Hid (∀ w2, Below w.heap.size w w2 → Calls Try.prog 31 #[.agg #[.int .i64 x.f0, .slice A1 x.f1.length c1, .slice A2 x.f2.length c2]] w2 fun e w' => e = .returned (.bool true) ∧ Below w2.heap.size w2 w') := fun w2 hb =>
    nfa_right.calls k2 x.f0 A1 c1 x.f1 A2 c2 x.f2 true w2 (Kd.C_below hr1 hb) hc1 (Kd.C_below hr2 hb) hc2 hr
  have HBUILD : Hid (BuildOk w x) := build_all w (sz x) x (Nat.le_refl _) hrt hok
  have HR1 := Lib.hid hr1
  have HR2 := Lib.hid hr2
  have hbx : Blk (w.alloc (.cells #[.int .i64 x.f0, .slice A1 x.f1.length c1, .slice A2 x.f2.length c2] 30)) w.heap.size 30 #[.int .i64 x.f0, .slice A1 x.f1.length c1, .slice A2 x.f2.length c2] := Blk.new _ _ _
  have HBW := Lib.hid hbw
  have HBX := Lib.hid hbx
  have e1 : decide (c > 1000) = false := by simp; omega
  clear hr1 hr2 hc hr hbw hbx
  go_enter Try.func15, Try.ntmps15
  go_wp2_with (first
    | (go_at_call 30; refine h1.mono ?_; rintro e w2 ⟨rfl, q1⟩; (have Q1 := Lib.hid (HBW.out.trans (q1.mono (by simp))); have q2 := HBX.out.below q1 (by simp); have x0 := q2.cell 0; have x1 := q2.cell 1; have x2 := q2.cell 2; simp at x0 x1 x2; have QX := Lib.hid q2; have h3 := h2.out w2 Q1.out; clear q1 q2 h1))
    | (go_at_call 31; refine h3.mono ?_; rintro e w3 ⟨rfl, q1⟩; (have Q3 := Lib.hid (Q1.out.trans (q1.mono Q1.out.size)); have QX3 := Lib.hid (QX.out.below q1 QX.out.lt); have P0 : PM (w3.alloc (.cells #[.slice none 0 0, .int .i64 0, .int .i64 0, .int .i64 0] 76)) w.heap.size w3.heap.size [] (.slice none 0 0) 0 0 0 := ⟨Blk.new _ _ _, Q3.out.size, World.ownsRow_nil _ _ _ _, (fun e he => by simp at he)⟩; have h4 := add_pm _ w.heap.size w3.heap.size [] (.slice none 0 0) 0 0 0 (⟨none, -1, -1⟩, none) P0 (setAt_none _ _ _ _) (Nat.le_trans Q3.out.size (by simp)) (by simp); simp only [stCells, Option.map_none] at h4; clear q1 h3 P0))
    | (go_at_call 32; refine h4.mono ?_; rintro e w4 ⟨rfl, sv4, q1, q2, q3⟩; (have p2 := q1.blk.cell 2; have p2f := q1.blk.frozen 2; simp at p2; have Q4 := Lib.hid q1; have Q5 := Lib.hid q2; have Q6 := Lib.hid q3; clear q1 q2 q3 h4)))
  have K4 : Kp w w4 (fun k => w.heap.size ≤ k) := ((Kp.of_below Q3.out (fun k _ c => c)).alloc _).trans Q6.out (fun k hk c => by
    rcases c with rfl | c
    · exact Q3.out.size
    · cases c)
  have K5 := (K4.set_ (p := ⟨w3.heap.size, 2, none⟩) (fun _ => Q3.out.size) (.int .i64 0)).drew
  have B5 : Below w.heap.size w ((w4.setCell ⟨w3.heap.size, 2, none⟩ (.int .i64 0)).drew) := K5.below (Nat.le_refl _) (fun k c => c)
  have P5 := (Q4.out.stend 2 0 (.inr rfl)).drew
  simp only [if_true, if_false, show ¬ ((2 : Nat) = 1) by decide] at P5
  have hbd := HBUILD.out A1 A2 c1 c2 HR1.out HR2.out _ w3.heap.size _ sv4 0 0 0 0 B5 P5 (by simp; omega)
  have hne : w.heap.size ≠ w3.heap.size := by have := QX3.out.lt; omega
  have hxb := (((QX3.out.alloc (.cells #[.slice none 0 0, .int .i64 0, .int .i64 0, .int .i64 0] 76)).kp Q6.out (fun c => by
    rcases c with c | c
    · exact hne c
    · cases c)).far (p := ⟨w3.heap.size, 2, none⟩) hne (.int .i64 0))
  have x0 := hxb.cell 0
  have x1 := hxb.cell 1
  have x2 := hxb.cell 2
  simp at x0 x1 x2
  have y2 := (Q4.out.stend 2 0 (.inr rfl)).blk.cell 2
  simp at y2
  simp only [List.nil_append, List.map_cons, List.map_nil] at hbd
  have K5' := Lib.hid K5
  have Q3s : Hid (w.heap.size ≤ w3.heap.size) := Q3.out.size
  clear K4 K5 B5 P5 hxb
  go_region_with (first
    | (go_at_call 33; refine hbd.mono ?_; rintro e w6 ⟨rfl, R6, sv6, q1, q2, q3, q4⟩; (have z1 := q1.blk.cell 1; have z1f := q1.blk.frozen 1; simp at z1; have Z1 := Lib.hid q1; have Z2 := Lib.hid q2; have Z4 := Lib.hid q4; clear q1 q2 q3 q4)))
  all_goals
    go_wp2
    go_ret2
    have K7 := (K5'.out.trans Z4.out (fun k hk c => by
      rcases c with rfl | c
      · exact Q3s.out
      · exact (Q4.out.row.lt k c).1)).set_ (p := ⟨w3.heap.size, 1, none⟩) (fun _ => Q3s.out) (.int .i64 (bld (re x) 0 [⟨none, -1, -1⟩]).2)
    have P7 := Z1.out.stend 1 (bld (re x) 0 [⟨none, -1, -1⟩]).2 (.inl rfl)
    simp only [if_true, if_false, show ¬ ((1 : Nat) = 2) by decide] at P7
    have hl := bld_len x 0 [⟨none, -1, -1⟩]
    rw [← Z2.out] at hl
    simp only [List.length_map, List.length_cons, List.length_nil] at hl
    exact ⟨w3.heap.size, rfl, ⟨R6, sv6, P7, Z2.out, by omega, K7.size⟩, Q3s.out, K7.below (Nat.le_refl _) (fun k c => c)⟩

end Go.Proofs.Ytdgidcfmggmbiaa.Nm
namespace Go.Proofs.Ytdgidcfmggmbiaa.Fac
set_option linter.unusedVariables false
set_option linter.unusedSimpArgs false
open Go.RowKit Go.Proofs.Ytdgidcfmggmbiaa.PRx Tree Go.Proofs.YtdgidcfmggmbiaaW.PrintWords

/-- With enough fuel it yields r. -/
def Ev {α : Type} (f : Nat → Option α) (r : α) : Prop := ∃ k0, ∀ k, k0 ≤ k → f k = some r

theorem Ev.ret {α : Type} (r : α) : Ev (fun _ => some r) r := ⟨0, fun _ _ => rfl⟩
theorem Ev.succ {α : Type} {f : Nat → Option α} {r : α} (h : Ev (fun k => f (k + 1)) r) : Ev f r := by
  obtain ⟨k0, h⟩ := h
  refine ⟨k0 + 1, fun k hk => ?_⟩
  obtain ⟨j, rfl⟩ : ∃ j, k = j + 1 := ⟨k - 1, by omega⟩
  exact h j (by omega)
theorem Ev.bind {α β : Type} {f : Nat → Option α} {g : Nat → α → Option β} {a : α} {r : β} (h : Ev f a) (h2 : Ev (fun k => g k a) r) : Ev (fun k => (f k).bind (g k)) r := by
  obtain ⟨k0, h⟩ := h
  obtain ⟨k1, h2⟩ := h2
  refine ⟨max k0 k1, fun k hk => ?_⟩
  show (f k).bind (g k) = some r
  rw [h k (by omega)]
  exact h2 k (by omega)
theorem Ev.congr {α : Type} {f g : Nat → Option α} {r : α} (h : Ev f r) (e : ∀ k, g k = f k) : Ev g r := by
  obtain ⟨k0, h⟩ := h
  exact ⟨k0, fun k hk => (e k).trans (h k hk)⟩
theorem Ev.get {α : Type} {f : Nat → Option α} {r : α} (h : Ev f r) : ∃ k, f k = some r := by
  obtain ⟨k0, h⟩ := h
  exact ⟨k0, h k0 (Nat.le_refl _)⟩

mutual
def dp : Nd → Nat
  | ⟨_, _, kids⟩ => 1 + dpL kids
def dpL : List Nd → Nat
  | [] => 0
  | x :: l => max (dp x) (dpL l)
end

/-- Rows no longer than a row can be. -/
def lenMax : Nat := 9223372036854775807
mutual
def lenT : Nd → Prop
  | ⟨_, rs, kids⟩ => rs.length ≤ lenMax ∧ kids.length ≤ lenMax ∧ lenL kids
def lenL : List Nd → Prop
  | [] => True
  | x :: l => lenT x ∧ lenL l
end
theorem lenL_mem {l : List Nd} (h : lenL l) : ∀ x, x ∈ l → lenT x := by
  induction l with
  | nil => intro x hx; simp at hx
  | cons y l ih =>
    simp only [lenL] at h
    intro x hx
    rcases List.mem_cons.1 hx with rfl | hx
    · exact h.1
    · exact ih h.2 x hx

mutual
def rightB : Nd → Bool
  | ⟨k, _, kids⟩ => decide (1 ≤ k ∧ k ≤ 6) && (decide (k < 4) || !kids.isEmpty) && rightBL kids
def rightBL : List Nd → Bool
  | [] => true
  | x :: l => rightB x && rightBL l
end
mutual
theorem rightB_iff : ∀ x : Nd, rightB x = true ↔ rightT x
  | ⟨k, rs, kids⟩ => by
    simp only [rightB, rightT, Bool.and_eq_true, decide_eq_true_eq, Bool.or_eq_true, rightBL_iff kids, Bool.not_eq_true', List.isEmpty_eq_false_iff]
    constructor
    · rintro ⟨⟨a, b⟩, c⟩
      exact ⟨a, fun h => by rcases b with b | b; · omega
                            · exact b, c⟩
    · rintro ⟨a, b, c⟩
      refine ⟨⟨a, ?_⟩, c⟩
      by_cases h : k < 4
      · exact .inl h
      · exact .inr (b (by omega))
theorem rightBL_iff : ∀ l : List Nd, rightBL l = true ↔ rightL l
  | [] => by simp [rightBL, rightL]
  | x :: l => by simp only [rightBL, rightL, Bool.and_eq_true, rightB_iff x, rightBL_iff l]
end

theorem rdT (l : List Nd) (i : Nat) (h : i < l.length) : rd_T30 l (i : Int) = l[i] := by
  unfold rd_T30
  rw [Int.toNat_natCast, List.getD_eq_getElem?_getD, List.getElem?_eq_getElem h]
  rfl
theorem w64 {z : Int} (h0 : -9223372036854775808 ≤ z) (h1 : z ≤ 9223372036854775807) : wrap64 z = z := by unfold wrap64; omega
theorem dpL_drop (l : List Nd) (k : Nat) (h : k < l.length) : dpL (l.drop k) = max (dp l[k]) (dpL (l.drop (k + 1))) := by
  rw [List.drop_eq_getElem_cons h]; simp only [dpL]
theorem rightBL_drop (l : List Nd) (k : Nat) (h : k < l.length) : rightBL (l.drop k) = (rightB l[k] && rightBL (l.drop (k + 1))) := by
  rw [List.drop_eq_getElem_cons h]; simp only [rightBL]
theorem dp_pos (x : Nd) : 0 < dp x := by cases x; simp only [dp]; omega

theorem min_step (a b m : Nat) (h : a < m) : a + min b (m - a) = min (a + b) m := by omega

theorem ncount_l {l : List Nd} {d0 : Nat} (hd0 : d0 ≤ 1000) (hl : l.length ≤ lenMax)
    (ih : ∀ y, y ∈ l → Ev (fun k => nfa_count.f k y.f0 y.f1 y.f2 ((d0 + 1 : Nat) : Int)) ((sz y : Nat) : Int)) :
    ∀ (d i c : Nat), d = l.length - i → i ≤ l.length → c + szL (l.drop i) ≤ 1000 → Ev (fun k => nfa_count.l0 k (d0 : Int) (c : Int) l (l.length : Int) (i : Int)) ((c + szL (l.drop i) : Nat) : Int) := by
  intro d
  induction d with
  | zero =>
    intro i c hd hi hc
    obtain rfl : i = l.length := by omega
    refine Ev.succ ((Ev.ret _).congr fun k => ?_)
    rw [List.drop_length, nfa_count.l0, if_neg (by omega)]
    simp only [szL]
    rfl
  | succ d hd =>
    intro i c hdi hi hc
    have hil : i < l.length := by omega
    unfold lenMax at hl
    refine Ev.succ ?_
    have hk := ih l[i] (List.getElem_mem _)
    rw [szL_drop l i hil] at hc ⊢
    have hn := hd (i + 1) (c + sz l[i]) (by omega) (by omega) (by omega)
    rw [Nat.add_assoc] at hn
    refine Ev.congr (f := fun k => (nfa_count.f k l[i].f0 l[i].f1 l[i].f2 ((d0 + 1 : Nat) : Int)).bind fun t => if wrap64 ((c : Int) + t) > 1000 then some (wrap64 ((c : Int) + t)) else nfa_count.l0 k (d0 : Int) (wrap64 ((c : Int) + t)) l (l.length : Int) ((i + 1 : Nat) : Int)) (Ev.bind hk ?_) ?_
    · refine hn.congr fun k => ?_
      rw [w64 (z := (c : Int) + ((sz l[i] : Nat) : Int)) (by omega) (by omega), if_neg (by omega)]
      rfl
    · intro k
      rw [nfa_count.l0, if_pos (by omega), if_pos (by omega), if_pos (by omega), rdT l i hil, w64 (z := (d0 : Int) + 1) (by omega) (by omega), w64 (z := (i : Int) + 1) (by omega) (by omega)]
      have e1 : ((d0 : Int) + 1) = ((d0 + 1 : Nat) : Int) := by omega
      have e2 : ((i : Int) + 1) = ((i + 1 : Nat) : Int) := by omega
      rw [e1, e2]

theorem dpL_mem {l : List Nd} : ∀ x, x ∈ l → dp x ≤ dpL l := by
  induction l with
  | nil => intro x hx; simp at hx
  | cons y l ih =>
    intro x hx
    simp only [dpL]
    rcases List.mem_cons.1 hx with rfl | hx
    · omega
    · have := ih x hx; omega

theorem ncount_ev : ∀ (n : Nat) (x : Nd) (d : Nat), sz x ≤ n → lenT x → sz x ≤ 1000 → d + dp x ≤ 301 → Ev (fun k => nfa_count.f k x.f0 x.f1 x.f2 (d : Int)) ((sz x : Nat) : Int) := by
  intro n
  induction n with
  | zero => intro x m hx; have := sz_pos x; omega
  | succ n ih =>
    intro x m hx hl hs hdp
    have hpos := dp_pos x
    obtain ⟨k0, rs, kids⟩ := x
    simp only [sz] at hx hs
    simp only [lenT] at hl
    simp only [dp] at hdp
    refine Ev.succ ?_
    have hd : sz ⟨k0, rs, kids⟩ = 1 + szL kids := by simp only [sz]
    rw [hd]
    have := ncount_l (l := kids) (d0 := m) (by omega) hl.2.1 (fun y hy => ih y (m + 1) (by have := szL_mem y hy; omega) (lenL_mem hl.2.2 y hy) (by have := szL_mem y hy; omega) (by have := dpL_mem y hy; omega)) _ 0 1 rfl (Nat.zero_le _) (by rw [List.drop_zero]; omega)
    rw [List.drop_zero] at this
    refine this.congr fun k => ?_
    simp only [nfa_count.f]
    rw [if_neg (by omega)]
    rfl

theorem right_l {l : List Nd} (hl : l.length ≤ lenMax) (ih : ∀ y, y ∈ l → Ev (fun k => nfa_right.f k y.f0 y.f1 y.f2) (rightB y)) :
    ∀ (d i : Nat), d = l.length - i → i ≤ l.length → Ev (fun k => nfa_right.l0 k l (l.length : Int) (i : Int)) (rightBL (l.drop i)) := by
  intro d
  induction d with
  | zero =>
    intro i hd hi
    obtain rfl : i = l.length := by omega
    refine Ev.succ ((Ev.ret _).congr fun k => ?_)
    rw [List.drop_length, nfa_right.l0, if_neg (by omega)]
    simp only [rightBL]
  | succ d hd =>
    intro i hdi hi
    have hil : i < l.length := by omega
    unfold lenMax at hl
    have hn := hd (i + 1) (by omega) (by omega)
    have hk := ih l[i] (List.getElem_mem _)
    refine Ev.succ ?_
    rw [rightBL_drop l i hil]
    refine Ev.congr (f := fun k => (nfa_right.f k l[i].f0 l[i].f1 l[i].f2).bind fun t => if t = true then nfa_right.l0 k l (l.length : Int) ((i + 1 : Nat) : Int) else some false) (Ev.bind hk ?_) ?_
    · cases hc : rightB l[i] with
      | false => exact Ev.ret _
      | true => exact hn
    · intro k
      rw [nfa_right.l0, if_pos (by omega), if_pos (by omega), if_pos (by omega), rdT l i hil, w64 (z := (i : Int) + 1) (by omega) (by omega)]
      have e2 : ((i : Int) + 1) = ((i + 1 : Nat) : Int) := by omega
      rw [e2]

theorem kindB (k0 : Int) (kids : List Nd) : (decide (1 ≤ k0 ∧ k0 ≤ 6) && (decide (k0 < 4) || !kids.isEmpty)) = !(decide (k0 < 1) || decide (k0 > 6) || (decide (k0 > 3) && ((kids.length : Int) == 0))) := by
  cases kids with
  | nil =>
    have : ((([] : List Nd).length : Int) == 0) = true := rfl
    rw [this]
    simp only [List.isEmpty_nil, Bool.not_true, Bool.or_false, Bool.and_true]
    by_cases a : k0 < 1
    · have : ¬ (1 ≤ k0 ∧ k0 ≤ 6) := by omega
      simp [a, this]
    · by_cases b : k0 > 6
      · have : ¬ (1 ≤ k0 ∧ k0 ≤ 6) := by omega
        simp [b, this]
      · have c : (1 ≤ k0 ∧ k0 ≤ 6) := by omega
        by_cases d : k0 < 4
        · have e : ¬ k0 > 3 := by omega
          simp [a, b, c, d, e]
        · have e : k0 > 3 := by omega
          simp [a, b, c, d, e]
  | cons y l =>
    have : (((y :: l).length : Int) == 0) = false := by simp; omega
    rw [this]
    simp only [List.isEmpty_cons, Bool.not_false, Bool.or_true, Bool.and_true, Bool.and_false, Bool.or_false]
    by_cases a : k0 < 1
    · have : ¬ (1 ≤ k0 ∧ k0 ≤ 6) := by omega
      simp [a, this]
    · by_cases b : k0 > 6
      · have : ¬ (1 ≤ k0 ∧ k0 ≤ 6) := by omega
        simp [b, this]
      · have c : (1 ≤ k0 ∧ k0 ≤ 6) := by omega
        simp [a, b, c]

theorem right_ev : ∀ (n : Nat) (x : Nd), sz x ≤ n → lenT x → Ev (fun k => nfa_right.f k x.f0 x.f1 x.f2) (rightB x) := by
  intro n
  induction n with
  | zero => intro x hx; have := sz_pos x; omega
  | succ n ih =>
    intro x hx hl
    obtain ⟨k0, rs, kids⟩ := x
    simp only [sz] at hx
    simp only [lenT] at hl
    have hd : rightB ⟨k0, rs, kids⟩ = (decide (1 ≤ k0 ∧ k0 ≤ 6) && (decide (k0 < 4) || !kids.isEmpty) && rightBL kids) := by simp only [rightB]
    rw [hd, kindB]
    have hli := right_l (l := kids) hl.2.1 (fun y hy => ih y (by have := szL_mem y hy; omega) (lenL_mem hl.2.2 y hy)) _ 0 rfl (Nat.zero_le _)
    rw [List.drop_zero] at hli
    have hj : ∀ b : Bool, Ev (fun k => nfa_right.j0 k b k0 rs kids) (!b && rightBL kids) := by
      intro b
      refine Ev.succ ?_
      cases b with
      | true => exact (Ev.ret _).congr fun k => by simp [nfa_right.j0]
      | false => exact hli.congr fun k => by simp only [nfa_right.j0]; rfl
    refine Ev.succ ?_
    by_cases a : k0 < 1
    · have := (hj true).congr (g := fun k => nfa_right.f (k + 1) k0 rs kids) (fun k => by simp only [nfa_right.f]; rw [if_pos a])
      simpa [a] using this
    · by_cases b : k0 > 6
      · have := (hj true).congr (g := fun k => nfa_right.f (k + 1) k0 rs kids) (fun k => by simp only [nfa_right.f]; rw [if_neg a, if_pos b])
        simpa [b] using this
      · by_cases c : k0 > 3
        · have := (hj ((kids.length : Int) == 0)).congr (g := fun k => nfa_right.f (k + 1) k0 rs kids) (fun k => by simp only [nfa_right.f]; rw [if_neg a, if_neg b, if_pos (by omega)])
          simpa [a, b, c] using this
        · have := (hj false).congr (g := fun k => nfa_right.f (k + 1) k0 rs kids) (fun k => by simp only [nfa_right.f]; rw [if_neg a, if_neg b, if_neg (by omega)])
          simpa [a, b, c] using this

end Go.Proofs.Ytdgidcfmggmbiaa.Fac
namespace Go.Proofs.Ytdgidcfmggmbiaa.Nm
set_option linter.unusedVariables false
set_option linter.unusedSimpArgs false
open Go.RowKit Mem Re Tree Fac Go.Proofs.Ytdgidcfmggmbiaa.PRx Go.Proofs.YtdgidcfmggmbiaaW.PrintWords Go.Proofs.YtdgidcfmggmbiaaW.PrintLast Go.Proofs.YtdgidcfmggmbiaaW.PrintMore

/-- A node's value: what is read of it. -/
def NV (w : World) (v : Value) (x : Nd) : Prop := ∃ cs, v = .agg cs.toArray ∧ k30.K w x cs
theorem NV.below {w w' : World} {v : Value} {x : Nd} (h : NV w v x) (hb : Below w.heap.size w w') : NV w' v x := by
  obtain ⟨cs, e, h⟩ := h
  exact ⟨cs, e, Kd.K_below _ hb h⟩
theorem NV.open_ {w : World} {v : Value} {x : Nd} (h : NV w v x) : ∃ A1 c1 A2 c2, v = .agg #[.int .i64 x.f0, .slice A1 x.f1.length c1, .slice A2 x.f2.length c2] ∧ x.f1.length ≤ c1 ∧ Kd.C k98 w A1 x.f1.length x.f1 ∧ x.f2.length ≤ c2 ∧ Kd.C k30 w A2 x.f2.length x.f2 := by
  obtain ⟨cs, e, h⟩ := h
  obtain ⟨A1, c1, A2, c2, rfl, l1, g1, l2, g2⟩ := k30_open h
  exact ⟨A1, c1, A2, c2, e, l1, g1, l2, g2⟩
theorem NV.mk {w : World} {x : Nd} {A1 A2 : Option Addr} {c1 c2 : Nat} (l1 : x.f1.length ≤ c1) (g1 : Kd.C k98 w A1 x.f1.length x.f1) (l2 : x.f2.length ≤ c2) (g2 : Kd.C k30 w A2 x.f2.length x.f2) : NV w (.agg #[.int .i64 x.f0, .slice A1 x.f1.length c1, .slice A2 x.f2.length c2]) x :=
  ⟨_, rfl, k30_mk w x l1 g1 l2 g2⟩

theorem seg3 {a b : List Value} (k i : Nat) (h : i < b.length) : (a ++ b)[a.length + i]? = b[i]? := by
  rw [List.getElem?_append_right (by omega)]
  congr 1
  omega

/-- One node in a row of its own; two. -/
theorem row1 {w : World} {g : Nat} {cs : List Value} {x : Nd} (h : Blk w g 30 cs.toArray) (hx : k30.K w x cs) : Kd.C k30 w (some ⟨g, 0, none⟩) 1 [x] := by
  refine ⟨rfl, by omega, fun _ => ⟨_, rfl, fun j p hp => ?_⟩⟩
  have hl := Kd.K_len _ hx
  cases j with
  | succ j => simp at hp
  | zero =>
    simp at hp
    subst hp
    refine ⟨cs, hl, hx, fun i u hu => ?_⟩
    have hadd : (⟨g, 0, none⟩ : Addr).add (0 * k30.sz + i) = ⟨g, i, none⟩ := by unfold Addr.add; split <;> simp_all
    rw [hadd, h.cell]
    simpa using hu
theorem row2 {w : World} {g : Nat} {cs ds : List Value} {x y : Nd} (h : Blk w g 30 (cs ++ ds).toArray) (hx : k30.K w x cs) (hy : k30.K w y ds) : Kd.C k30 w (some ⟨g, 0, none⟩) 2 [x, y] := by
  refine ⟨rfl, by omega, fun _ => ⟨_, rfl, fun j p hp => ?_⟩⟩
  have hl := Kd.K_len _ hx
  have hl2 := Kd.K_len _ hy
  have hsz : k30.sz = 3 := rfl
  rw [hsz] at hl hl2
  rcases j with _ | _ | j
  · simp at hp
    subst hp
    refine ⟨cs, hl, hx, fun i u hu => ?_⟩
    have hadd : (⟨g, 0, none⟩ : Addr).add (0 * k30.sz + i) = ⟨g, i, none⟩ := by unfold Addr.add; split <;> simp_all
    rw [hadd, h.cell]
    have := (List.getElem?_eq_some_iff.1 hu).1
    rw [← hu]
    simp [List.getElem?_append_left this]
  · simp at hp
    subst hp
    refine ⟨ds, hl2, hy, fun i u hu => ?_⟩
    have hadd : (⟨g, 0, none⟩ : Addr).add ((0 + 1) * k30.sz + i) = ⟨g, 3 + i, none⟩ := by rw [hsz]; unfold Addr.add; split <;> simp_all
    rw [hadd, h.cell]
    have := (List.getElem?_eq_some_iff.1 hu).1
    rw [← hu, show 3 + i = cs.length + i by omega]
    simp
    exact seg3 3 i (by omega)
  · simp at hp

theorem rowR {w : World} {g : Nat} {lo hi : Int} (h : Blk w g 98 #[.int .u8 lo, .int .u8 hi]) : Kd.C k98 w (some ⟨g, 0, none⟩) 1 [⟨lo, hi⟩] := by
  refine ⟨rfl, by omega, fun _ => ⟨_, rfl, fun j p hp => ?_⟩⟩
  cases j with
  | succ j => simp at hp
  | zero =>
    simp at hp
    subst hp
    refine ⟨[.int .u8 lo, .int .u8 hi], rfl, k98_mk _ _, fun i u hu => ?_⟩
    have hadd : (⟨g, 0, none⟩ : Addr).add (0 * k98.sz + i) = ⟨g, i, none⟩ := by unfold Addr.add; split <;> simp_all
    rw [hadd, h.cell]
    simpa using hu

/-- The node of one range. -/
def ofN (lo hi : Int) : Nd := ⟨1, [⟨lo, hi⟩], []⟩
theorem K_of {w : World} {g : Nat} {lo hi : Int} (h : Blk w g 98 #[.int .u8 lo, .int .u8 hi]) : k30.K w (ofN lo hi) [.int .i64 1, .slice (some ⟨g, 0, none⟩) 1 1, .slice none 0 0] :=
  k30_mk w (ofN lo hi) (Nat.le_refl 1) (rowR h) (Nat.le_refl 0) (Kd.C_nil _ w)
theorem K_tree1 {w : World} {g : Nat} {k : Int} {cs : List Value} {x : Nd} (h : Blk w g 30 cs.toArray) (hx : k30.K w x cs) : k30.K w ⟨k, [], [x]⟩ [.int .i64 k, .slice none 0 0, .slice (some ⟨g, 0, none⟩) 1 1] :=
  k30_mk w ⟨k, [], [x]⟩ (Nat.le_refl 0) (Kd.C_nil _ w) (Nat.le_refl 1) (row1 h hx)
theorem K_tree2 {w : World} {g : Nat} {k : Int} {cs ds : List Value} {x y : Nd} (h : Blk w g 30 (cs ++ ds).toArray) (hx : k30.K w x cs) (hy : k30.K w y ds) : k30.K w ⟨k, [], [x, y]⟩ [.int .i64 k, .slice none 0 0, .slice (some ⟨g, 0, none⟩) 2 2] :=
  k30_mk w ⟨k, [], [x, y]⟩ (Nat.le_refl 0) (Kd.C_nil _ w) (Nat.le_refl 2) (row2 h hx hy)

/-- Compile, of a node that is read. -/
theorem compile_nv (w : World) (x : Nd) (cs : List Value) (h : k30.K w x cs) (hl : lenT x) (hok : okT x) (hs : sz x ≤ 1000) (hd : dp x ≤ 300) :
    Calls Try.prog 15 #[.agg cs.toArray] w fun e w' => Below w.heap.size w w' ∧
      ((rightT x ∧ ∃ b, e = .returned (.tuple #[.pointer (some ⟨b, 0, none⟩), .int .i64 0]) ∧ Mach w' w.heap.size b (re x) 0 ∧ w.heap.size ≤ b) ∨ (¬ rightT x ∧ e = .returned (.tuple #[.pointer none, .int .i64 1]))) := by
  obtain ⟨A1, c1, A2, c2, rfl, l1, g1, l2, g2⟩ := k30_open h
  obtain ⟨k1, hc⟩ := (ncount_ev (sz x) x 1 (Nat.le_refl _) hl hs (by omega)).get
  obtain ⟨k2, hr⟩ := (right_ev (sz x) x (Nat.le_refl _) hl).get
  cases hb : rightB x with
  | true =>
    rw [hb] at hr
    have hrt := (rightB_iff x).1 hb
    refine (compile_ok w x A1 A2 c1 c2 g1 l1 g2 l2 k1 k2 _ hc (by omega) hr hrt hok hs).mono ?_
    rintro e w' ⟨b, h1, h2, h3, h4⟩
    exact ⟨h4, .inl ⟨hrt, b, h1, h2, h3⟩⟩
  | false =>
    rw [hb] at hr
    have hrt : ¬ rightT x := fun c => by rw [(rightB_iff x).2 c] at hb; cases hb
    refine (compile_bad w x A1 A2 c1 c2 g1 l1 g2 l2 k1 k2 _ hc (by omega) hr).mono ?_
    rintro e w' ⟨h1, h2⟩
    exact ⟨h2, .inr ⟨hrt, h1⟩⟩

end Go.Proofs.Ytdgidcfmggmbiaa.Nm
namespace Go.Proofs.Ytdgidcfmggmbiaa.Nm
set_option linter.unusedVariables false
set_option linter.unusedSimpArgs false
open Go.RowKit Mem Re Tree Fac Go.Proofs.Ytdgidcfmggmbiaa.PRx Go.Proofs.YtdgidcfmggmbiaaW.PrintWords Go.Proofs.YtdgidcfmggmbiaaW.PrintLast Go.Proofs.YtdgidcfmggmbiaaW.PrintMore

def topN : Nd := ⟨2, [], [⟨4, [], [ofN 97 97]⟩, ⟨3, [], [⟨2, [], [ofN 98 98]⟩, ⟨2, [], [ofN 98 98, ofN 99 99]⟩]⟩]⟩

theorem mt_of (b : Nat → Int) (len : Nat) (c : Int) (i j : Nat) : mt b len (re (ofN c c)) i j ↔ i < len ∧ j = i + 1 ∧ b i = c := by
  simp only [ofN, re, if_true, Re.mt, inR, List.any_cons, List.any_nil, Bool.or_false, Bool.and_eq_true, decide_eq_true_eq]
  constructor
  · rintro ⟨a, b, c⟩; exact ⟨a, b, by omega⟩
  · rintro ⟨a, b, c⟩; exact ⟨a, b, by omega⟩

theorem top_mt (b : Nat → Int) (len i j : Nat) : mt b len (re topN) i j ↔ ∃ m, Clo (mt b len (re (ofN 97 97))) i m ∧ ((m < len ∧ b m = 98 ∧ j = m + 1) ∨ (m + 1 < len ∧ b m = 98 ∧ b (m + 1) = 99 ∧ j = m + 2)) := by
  have e : re topN = .cat [.star (re (ofN 97 97)), .alt [.cat [re (ofN 98 98)], .cat [re (ofN 98 98), re (ofN 99 99)]]] := by
    simp [topN, re, reL, reK]
  rw [e]
  simp only [Re.mt, seqM, anyM]
  constructor
  · rintro ⟨m, h1, m2, h2, rfl⟩
    refine ⟨m, h1, ?_⟩
    rcases h2 with ⟨m3, h3, rfl⟩ | ⟨m3, h3, m4, h4, rfl⟩ | h2
    · obtain ⟨a, rfl, c⟩ := (mt_of _ _ _ _ _).1 h3
      exact .inl ⟨a, c, rfl⟩
    · obtain ⟨a, rfl, c⟩ := (mt_of _ _ _ _ _).1 h3
      obtain ⟨a2, rfl, c2⟩ := (mt_of _ _ _ _ _).1 h4
      exact .inr ⟨a2, c, c2, rfl⟩
    · exact h2.elim
  · rintro ⟨m, h1, ⟨a, c, rfl⟩ | ⟨a, c, c2, rfl⟩⟩
    · exact ⟨m, h1, _, .inl ⟨_, (mt_of _ _ _ _ _).2 ⟨a, rfl, c⟩, rfl⟩, rfl⟩
    · exact ⟨m, h1, _, .inr (.inl ⟨_, (mt_of _ _ _ _ _).2 ⟨by omega, rfl, c⟩, _, (mt_of _ _ _ _ _).2 ⟨a, rfl, c2⟩, rfl⟩), rfl⟩

theorem clo_stop {b : Nat → Int} {len i m : Nat} (h : Clo (mt b len (re (ofN 97 97))) i m) (hb : b i ≠ 97) : m = i := by
  cases h with
  | refl => rfl
  | step a _ => exact (hb ((mt_of _ _ _ _ _).1 a).2.2).elim
theorem clo_go {b : Nat → Int} {len i m : Nat} (h : Clo (mt b len (re (ofN 97 97))) (i + 1) m) (hl : i < len) (hb : b i = 97) : Clo (mt b len (re (ofN 97 97))) i m :=
  .step ((mt_of _ _ _ _ _).2 ⟨hl, rfl, hb⟩) h

theorem alive1 {f t : Int} {ok : Bool} (h : FindP ⟨#[120, 97, 98, 99]⟩ (re topN) f t ok) : f = 1 ∧ t = 4 ∧ ok = true := by
  have b0 : bS ⟨#[120, 97, 98, 99]⟩ 0 = 120 := rfl
  have b1 : bS ⟨#[120, 97, 98, 99]⟩ 1 = 97 := rfl
  have b2 : bS ⟨#[120, 97, 98, 99]⟩ 2 = 98 := rfl
  have b3 : bS ⟨#[120, 97, 98, 99]⟩ 3 = 99 := rfl
  have hs : ByteArray.size ⟨#[120, 97, 98, 99]⟩ = 4 := rfl
  obtain ⟨⟨h1, h2⟩, _⟩ := h
  rw [hs] at h1 h2
  have hm : mt (bS ⟨#[120, 97, 98, 99]⟩) 4 (re topN) 1 4 := (top_mt _ _ _ _).2 ⟨2, clo_go (.refl _) (by omega) b1, .inr ⟨by omega, b2, b3, rfl⟩⟩
  cases ok with
  | false => exact (h1 rfl 1 4 ⟨Nat.zero_le _, fun c => by cases c⟩ (by omega) hm).elim
  | true =>
    obtain ⟨f', t', rfl, rfl, _, ht, hft, hbest⟩ := h2 rfl
    have hb := hbest 1 4 ⟨Nat.zero_le _, fun c => by cases c⟩ (by omega) hm
    have hf0 : f' ≠ 0 := by
      rintro rfl
      obtain ⟨m, hc, h⟩ := (top_mt _ _ _ _).1 hft
      obtain rfl := clo_stop hc (by rw [b0]; decide)
      rw [b0] at h
      rcases h with ⟨_, c, _⟩ | ⟨_, c, _⟩ <;> cases c
    refine ⟨?_, ?_, rfl⟩ <;> omega

theorem alive2 {f t : Int} {ok : Bool} (h : FindP ⟨#[97, 99]⟩ (re topN) f t ok) : ok = false := by
  have b0 : bS ⟨#[97, 99]⟩ 0 = 97 := rfl
  have b1 : bS ⟨#[97, 99]⟩ 1 = 99 := rfl
  have hs : ByteArray.size ⟨#[97, 99]⟩ = 2 := rfl
  obtain ⟨⟨h1, h2⟩, _⟩ := h
  rw [hs] at h1 h2
  cases ok with
  | false => rfl
  | true =>
    obtain ⟨f', t', rfl, rfl, _, ht, hft, hbest⟩ := h2 rfl
    obtain ⟨m, hc, h⟩ := (top_mt _ _ _ _).1 hft
    have key : m < 2 → bS ⟨#[97, 99]⟩ m = 98 → False := by
      intro hm e
      rcases (show m = 0 ∨ m = 1 by omega) with rfl | rfl
      · rw [b0] at e; cases e
      · rw [b1] at e; cases e
    rcases h with ⟨a, c, _⟩ | ⟨a, c, _⟩
    · exact (key a c).elim
    · exact (key (by omega) c).elim

theorem alive3 {v : Int} (h : LongP ⟨#[97, 97, 98, 99, 100]⟩ (re topN) 0 v) : v = 4 := by
  have b0 : bS ⟨#[97, 97, 98, 99, 100]⟩ 0 = 97 := rfl
  have b1 : bS ⟨#[97, 97, 98, 99, 100]⟩ 1 = 97 := rfl
  have b2 : bS ⟨#[97, 97, 98, 99, 100]⟩ 2 = 98 := rfl
  have b3 : bS ⟨#[97, 97, 98, 99, 100]⟩ 3 = 99 := rfl
  have b4 : bS ⟨#[97, 97, 98, 99, 100]⟩ 4 = 100 := rfl
  have hs : ByteArray.size ⟨#[97, 97, 98, 99, 100]⟩ = 5 := rfl
  have hp := h.1 ⟨Int.le_refl _, by omega⟩
  rw [hs] at hp
  have hm : mt (bS ⟨#[97, 97, 98, 99, 100]⟩) 5 (re topN) 0 4 := (top_mt _ _ _ _).2 ⟨2, clo_go (clo_go (.refl _) (by omega) b1) (by omega) b0, .inr ⟨by omega, b2, b3, rfl⟩⟩
  rcases hp with ⟨_, hno⟩ | ⟨j, rfl, hj, hmj, hbest⟩
  · exact (hno 4 hm).elim
  · have h4 := hbest 4 hm
    have h5 : j ≠ 5 := by
      rintro rfl
      obtain ⟨m, hc, h⟩ := (top_mt _ _ _ _).1 hmj
      rcases h with ⟨a, c, e⟩ | ⟨a, c, c2, e⟩
      · obtain rfl : m = 4 := by omega
        rw [b4] at c; cases c
      · obtain rfl : m = 3 := by omega
        rw [b4] at c2; cases c2
    omega

theorem topN_right : rightT topN := (rightB_iff topN).1 (by decide)
theorem topN_sz : sz topN = 9 := by simp [topN, ofN, sz, szL]
theorem topN_dp : dp topN ≤ 300 := by simp [topN, ofN, dp, dpL]
theorem topN_len : lenT topN := by simp [topN, ofN, lenT, lenL, lenMax]
theorem topN_ok : okT topN := by simp [topN, ofN, okT, okL, okR]

theorem below_a1 (w : World) (o : Obj) : Below w.heap.size w (w.alloc o) := (Below.refl _ _).alloc (Nat.le_refl _) _
theorem below_al {w w' : World} {o : Obj} (h : Below (w.alloc o).heap.size (w.alloc o) w') : Below w.heap.size w w' := (below_a1 w o).trans (h.mono (by simp))
theorem below_ad (w : World) (o : Obj) : Below w.heap.size w (w.alloc o).drew := below_drew (below_a1 w o)

theorem compile_right (w : World) (x : Nd) (cs : List Value) (h : k30.K w x cs) (hl : lenT x) (hok : okT x) (hs : sz x ≤ 1000) (hd : dp x ≤ 300) (hr : rightT x) :
    Calls Try.prog 15 #[.agg cs.toArray] w fun e w' => ∃ b, e = .returned (.tuple #[.pointer (some ⟨b, 0, none⟩), .int .i64 0]) ∧ Mach w' w.heap.size b (re x) 0 ∧ w.heap.size ≤ b ∧ Below w.heap.size w w' := by
  refine (compile_nv w x cs h hl hok hs hd).mono ?_
  rintro e w' ⟨hb, ⟨_, b, h1, h2, h3⟩ | ⟨hno, _⟩⟩
  · exact ⟨b, h1, h2, h3, hb⟩
  · exact (hno hr).elim

theorem kp_bw {w w1 w2 : World} {b : Nat} (h : Below w.heap.size w w1) (hk : Kp w1 w2 (fun k => k = b)) (hb : w.heap.size ≤ b) : Below w.heap.size w w2 := h.trans (hk.below h.size (fun k e => by rw [e]; exact hb))

end Go.Proofs.Ytdgidcfmggmbiaa.Nm
