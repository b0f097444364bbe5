/- The walks of Compile, Longest, Find, Steps. -/
import Derived.Test.YtmhodkkfbbpgaaaRun
import Derived.Test.YtmhodkkfbbpgaaaPNfax1
namespace Go.Proofs.Ytmhodkkfbbpgaaa.Nm
set_option linter.unusedVariables false
set_option linter.unusedSimpArgs false
open Go.RowKit Mem Re Tree Go.Proofs.Ytmhodkkfbbpgaaa.PNfa Go.Proofs.YtmhodkkfbbpgaaaW.PrintWords Go.Proofs.YtmhodkkfbbpgaaaW.PrintLast Go.Proofs.YtmhodkkfbbpgaaaW.PrintMore

/-- A machine of r. -/
def Mach (w : World) (base b : Nat) (r : Re) (stp : Int) : Prop :=
  ∃ R sv, PM w base b R sv (Re.start r) 0 stp ∧ R.map (·.1) = mac r ∧ R.length ≤ 1000000 ∧ base ≤ w.heap.size

theorem PM.kpb {w w' : World} {base b b' : Nat} {R : List (St × Option Nat)} {sv : Value} {st en stp : Int} {cs : Array Value} (h : PM w base b R sv st en stp) (hk : Kp w w' (fun k => k = b')) (h' : Blk w b' 53 cs) (hne : b ≠ b') : PM w' base b R sv st en stp where
  blk := h.blk.kp hk hne
  ge := h.ge
  row := own_kp h.row hk fun k e c => by subst c; exact own_blk_ne h.row h' (by decide) e
  sets := fun e he => (h.sets e he).kp hk fun q c cs hb => by subst c; exact (Blk.ne_ h' hb (by decide)) rfl

theorem Mach.blk {w : World} {base b : Nat} {r : Re} {stp : Int} (h : Mach w base b r stp) : ∃ cs, Blk w b 53 cs := by
  obtain ⟨R, sv, h, _⟩ := h
  exact ⟨_, h.blk⟩
theorem Mach.kpb {w w' : World} {base base' b b' : Nat} {r r' : Re} {stp stp' : Int} (h : Mach w base b r stp) (hk : Kp w w' (fun k => k = b')) (h' : Mach w base' b' r' stp') (hne : b ≠ b') : Mach w' base b r stp := by
  obtain ⟨cs, hb⟩ := h'.blk
  obtain ⟨R, sv, h1, h2, h3, h4⟩ := h
  exact ⟨R, sv, h1.kpb hk hb hne, h2, h3, Nat.le_trans h4 hk.size⟩
theorem Mach.below {w w' : World} {base b : Nat} {r : Re} {stp : Int} (h : Mach w base b r stp) (hk : Below w.heap.size w w') : Mach w' base b r stp := by
  obtain ⟨R, sv, h1, h2, h3, h4⟩ := h
  exact ⟨R, sv, h1.kp (Kp.of_below (ex := fun _ => False) hk (fun k a c => by omega)) (oth_none w), h2, h3, Nat.le_trans h4 hk.size⟩
theorem Mach.lt {w : World} {base b : Nat} {r : Re} {stp : Int} (h : Mach w base b r stp) : b < w.heap.size := by
  obtain ⟨cs, hb⟩ := h.blk
  exact hb.lt

/-- What Longest answers. -/
def LongP (s : ByteArray) (r : Re) (a v : Int) : Prop :=
  (0 ≤ a ∧ a ≤ s.size → (v = -1 ∧ ∀ j, ¬ mt (bS s) s.size r a.toNat j) ∨ (∃ j : Nat, v = j ∧ j ≤ s.size ∧ mt (bS s) s.size r a.toNat j ∧ ∀ j', mt (bS s) s.size r a.toNat j' → j' ≤ j)) ∧ (¬ (0 ≤ a ∧ a ≤ s.size) → v = -1)

theorem mt_le (s : ByteArray) (r : Re) {i j : Nat} (h : mt (bS s) s.size r i j) (hi : i ≤ s.size) : i ≤ j ∧ j ≤ s.size :=
  ⟨((reach_mt r i j).2 h).le, ((reach_mt r i j).2 h).le_len hi⟩

theorem longP_of (s : ByteArray) (r : Re) (a : Nat) (ha : a ≤ s.size) (ok : Bool) (f t : Int) (h : Best (bS s) s.size r false a (s.size + 1) ok f t) : LongP s r a (if ok = true then t else -1) := by
  refine ⟨fun _ => ?_, fun c => (c ⟨by omega, by omega⟩).elim⟩
  rw [Int.toNat_natCast]
  cases ok with
  | false =>
    refine .inl ⟨rfl, fun j hm => h.1 rfl a j ⟨Nat.le_refl _, fun _ => rfl⟩ (by have := mt_le s r hm ha; omega) hm⟩
  | true =>
    obtain ⟨f', t', _, e2, h1, h2, h3, h4⟩ := h.2 rfl
    have hf : f' = a := h1.2 rfl
    subst hf
    refine .inr ⟨t', e2, by omega, h3, fun j' hm => ?_⟩
    rcases h4 f' j' ⟨Nat.le_refl _, fun _ => rfl⟩ (by have := mt_le s r hm ha; omega) hm with c | c <;> omega

theorem longest_any (w : World) (base b : Nat) (r : Re) (stp : Int) (s : ByteArray) (a : Int) (hM : Mach w base b r stp) (hs : s.size ≤ 1000000000) :
    Calls Try.prog 13 #[.pointer (some ⟨b, 0, none⟩), .string s, .int .i64 a] w fun e w' => ∃ v stp', e = .returned (.int .i64 v) ∧ LongP s r a v ∧ 0 ≤ stp' ∧ stp' ≤ (((mac r).length * s.size : Nat) : Int) ∧ Mach w' base b r stp' ∧ Kp w w' (fun k => k = b) := by
  obtain ⟨R, sv, hP, hR, hn, hB⟩ := hM
  have b3 := hP.blk.cell 3
  have b3f := hP.blk.frozen 3
  simp at b3
  have hRW0 : PM (w.setCell ⟨b, 3, none⟩ (.int .i64 0)) base b R sv (Re.start r) 0 0 := by
    have hq : Kp w (w.setCell ⟨b, 3, none⟩ (.int .i64 0)) (fun q => q = b) := Kp.set_ (p := ⟨b, 3, none⟩) (Kp.refl w (fun q => q = b)) (fun _ => rfl) _
    refine ⟨by simpa using hP.blk.set_ 3 (.int .i64 0), hP.ge, own_kp hP.row hq (fun k e c => ?_), fun e he => (hP.sets e he).kp hq (fun q c cs hc => ?_)⟩
    · subst c; exact own_blk_ne hP.row hP.blk (by decide) e
    · subst c; exact (Blk.ne_ hP.blk hc (by decide)) rfl
  have hk0 : Kp w (w.setCell ⟨b, 3, none⟩ (.int .i64 0)) (fun k => k = b) := Kp.set_ (p := ⟨b, 3, none⟩) (Kp.refl w (fun k => k = b)) (fun _ => rfl) _
  have hML : (mac r).length = R.length := by rw [← hR]; simp
  have HP0 := Lib.hid hRW0
  have HK0 := Lib.hid hk0
  have HR := Lib.hid hR
  by_cases ha : 0 ≤ a ∧ a ≤ s.size
  · obtain ⟨n, rfl⟩ : ∃ n : Nat, a = n := ⟨a.toNat, by omega⟩
    have hr := run_any (w.setCell ⟨b, 3, none⟩ (.int .i64 0)) base b R sv 0 r s n false hRW0 (Nat.le_trans hB hk0.size) hR hn hs (by omega)
    have hns : n ≤ s.size := by omega
    clear hRW0 hk0 hR hP ha
    have e1 : decide ((n : Int) < 0) = false := by simp
    have e2 : decide ((n : Int) > (s.size : Int)) = false := by simp; omega
    go_enter Try.func13, Try.ntmps13
    go_wp2_with (first
      | (go_at_call 29; refine hr.mono ?_; rintro e w1 ⟨ok, frm, to_, stp1, rfl, q1, q2, q3, q4, q5, q6⟩; (have Q1 := Lib.hid (longP_of s r n hns ok frm to_ q1); have Q4 : Hid (stp1 ≤ (((mac r).length * s.size : Nat) : Int)) := Int.le_trans q4 (by rw [hML]; exact Int.ofNat_le.2 (Nat.mul_le_mul_left _ (by omega))); have Q5 : Hid (Mach w1 base b r stp1) := ⟨R, sv, q5, HR.out, hn, Nat.le_trans hB (Nat.le_trans HK0.out.size q6.size)⟩; have Q6 := Lib.hid (HK0.out.trans q6 (fun _ _ c => c)); have Q3 := Lib.hid q3; clear q1 q2 q4 q5 q6 hr; cases ok)))
    all_goals
      go_ret
      exact ⟨_, _, rfl, Q1.out, Q3.out, Q4.out, Q5.out, Q6.out⟩
  · have hv : LongP s r a (-1) := ⟨fun c => (ha c).elim, fun _ => rfl⟩
    have HM : Hid (Mach (w.setCell ⟨b, 3, none⟩ (.int .i64 0)) base b r 0) := ⟨R, sv, hRW0, hR, hn, Nat.le_trans hB hk0.size⟩
    clear hRW0 hk0 hR hP
    by_cases ha0 : a < 0
    · have e1 : decide (a < 0) = true := by simpa using ha0
      clear ha ha0
      go_enter Try.func13, Try.ntmps13
      go_wp2
      go_ret
      exact ⟨_, 0, rfl, hv, Int.le_refl _, by omega, HM.out, HK0.out⟩
    · have e1 : decide (a < 0) = false := by simpa using ha0
      have e2 : decide (a > (s.size : Int)) = true := by simp; omega
      clear ha ha0
      go_enter Try.func13, Try.ntmps13
      go_wp2
      go_ret
      exact ⟨_, 0, rfl, hv, Int.le_refl _, by omega, HM.out, HK0.out⟩

/-- What Find answers. -/
def FindP (s : ByteArray) (r : Re) (f t : Int) (ok : Bool) : Prop := Best (bS s) s.size r true 0 (s.size + 1) ok f t ∧ (ok = false → f = 0 ∧ t = 0)

theorem find_any (w : World) (base b : Nat) (r : Re) (stp : Int) (s : ByteArray) (hM : Mach w base b r stp) (hs : s.size ≤ 1000000000) :
    Calls Try.prog 17 #[.pointer (some ⟨b, 0, none⟩), .string s] w fun e w' => ∃ f t ok stp', e = .returned (.tuple #[.int .i64 f, .int .i64 t, .bool ok]) ∧ FindP s r f t ok ∧ 0 ≤ stp' ∧ stp' ≤ (((mac r).length * s.size : Nat) : Int) ∧ Mach w' base b r stp' ∧ Kp w w' (fun k => k = b) := by
  obtain ⟨R, sv, hP, hR, hn, hB⟩ := hM
  have hML : (mac r).length = R.length := by rw [← hR]; simp
  have hr := run_any w base b R sv stp r s 0 true hP hB hR hn hs (Nat.zero_le _)
  have HR := Lib.hid hR
  clear hP hR
  go_enter Try.func17, Try.ntmps17
  go_wp2_with (first
    | (go_at_call 29; refine hr.mono ?_; rintro e w1 ⟨ok, frm, to_, stp1, rfl, q1, q2, q3, q4, q5, q6⟩; (have Q1 : Hid (FindP s r frm to_ ok) := ⟨q1, q2⟩; have Q4 : Hid (stp1 ≤ (((mac r).length * s.size : Nat) : Int)) := (by rw [hML]; exact q4); have Q5 : Hid (Mach w1 base b r stp1) := ⟨R, sv, q5, HR.out, hn, Nat.le_trans hB q6.size⟩; have Q6 := Lib.hid q6; have Q3 := Lib.hid q3; clear q1 q2 q4 q5 q6 hr)))
  go_ret3
  exact ⟨_, _, _, _, rfl, Q1.out, Q3.out, Q4.out, Q5.out, Q6.out⟩

theorem steps_any (w : World) (base b : Nat) (r : Re) (stp : Int) (hM : Mach w base b r stp) :
    Calls Try.prog 23 #[.pointer (some ⟨b, 0, none⟩)] w fun e w' => e = .returned (.int .i64 stp) ∧ w' = w := by
  obtain ⟨R, sv, hP, hR, hn, hB⟩ := hM
  have b3 := hP.blk.cell 3
  simp at b3
  clear hP hR
  go_enter Try.func23, Try.ntmps23
  go_wp2
  go_ret
  exact ⟨rfl, rfl⟩

theorem PM.stend {w : World} {base b : Nat} {R : List (St × Option Nat)} {sv : Value} {st en stp : Int} (h : PM w base b R sv st en stp) (j : Nat) (v : Int) (hj : j = 1 ∨ j = 2) : PM (w.setCell ⟨b, j, none⟩ (.int .i64 v)) base b R sv (if j = 1 then v else st) (if j = 2 then v else en) stp := by
  have hq : Kp w (w.setCell ⟨b, j, none⟩ (.int .i64 v)) (fun q => q = b) := Kp.set_ (p := ⟨b, j, none⟩) (Kp.refl w (fun q => q = b)) (fun _ => rfl) _
  refine ⟨?_, h.ge, own_kp h.row hq (fun k e c => ?_), fun e he => (h.sets e he).kp hq (fun q c cs hc => ?_)⟩
  · rcases hj with rfl | rfl
    · simpa using h.blk.set_ 1 (.int .i64 v)
    · simpa using h.blk.set_ 2 (.int .i64 v)
  · subst c; exact own_blk_ne h.row h.blk (by decide) e
  · subst c; exact (Blk.ne_ h.blk hc (by decide)) rfl

theorem zeroProg (w : World) : (zeroValue 53).run Try.prog w = .ok (.agg #[.slice none 0 0, .int .i64 0, .int .i64 0, .int .i64 0]) w := by kernel_rfl

set_option maxHeartbeats 2000000 in
set_option maxRecDepth 100000 in
theorem compile_bad (w : World) (x : Nd) (A1 A2 : Option Addr) (c1 c2 : Nat) (hr1 : Kd.C k64 w A1 x.f1.length x.f1) (hc1 : x.f1.length ≤ c1) (hr2 : Kd.C k25 w A2 x.f2.length x.f2) (hc2 : x.f2.length ≤ c2)
    (k1 k2 : Nat) (c : Int) (hc : nfa_count.f k1 x.f0 x.f1 x.f2 1 = some c) (hcb : c ≤ 1000) (hr : nfa_right.f k2 x.f0 x.f1 x.f2 = some false) :
    Calls Try.prog 12 #[.agg #[.int .i64 x.f0, .slice A1 x.f1.length c1, .slice A2 x.f2.length c2]] w fun e w' => e = .returned (.tuple #[.pointer none, .int .i64 1]) ∧ Below w.heap.size w w' := by
  have hbw : Below w.heap.size w (w.alloc (.cells #[.int .i64 x.f0, .slice A1 x.f1.length c1, .slice A2 x.f2.length c2] 25)) := (Below.refl _ _).alloc (Nat.le_refl _) _
  have h1 := nfa_count.calls k1 x.f0 A1 c1 x.f1 A2 c2 x.f2 1 c (w.alloc (.cells #[.int .i64 x.f0, .slice A1 x.f1.length c1, .slice A2 x.f2.length c2] 25)) (Kd.C_below hr1 hbw) hc1 (Kd.C_below hr2 hbw) hc2 hc
  have h2 : Hid (∀ w2, Below w.heap.size w w2 → Calls Try.prog 26 #[.agg #[.int .i64 x.f0, .slice A1 x.f1.length c1, .slice A2 x.f2.length c2]] w2 fun e w' => e = .returned (.bool false) ∧ Below w2.heap.size w2 w') := fun w2 hb =>
    nfa_right.calls k2 x.f0 A1 c1 x.f1 A2 c2 x.f2 false w2 (Kd.C_below hr1 hb) hc1 (Kd.C_below hr2 hb) hc2 hr
  have hbx : Blk (w.alloc (.cells #[.int .i64 x.f0, .slice A1 x.f1.length c1, .slice A2 x.f2.length c2] 25)) w.heap.size 25 #[.int .i64 x.f0, .slice A1 x.f1.length c1, .slice A2 x.f2.length c2] := Blk.new _ _ _
  have HBW := Lib.hid hbw
  have HBX := Lib.hid hbx
  have e1 : decide (c > 1000) = false := by simp; omega
  clear hr1 hr2 hc hr hbw hbx
  go_enter Try.func12, Try.ntmps12
  go_wp2_with (first
    | (go_at_call 25; refine h1.mono ?_; rintro e w2 ⟨rfl, q1⟩; (have Q1 := Lib.hid (HBW.out.trans (q1.mono (by simp))); have q2 := HBX.out.below q1 (by simp); have x0 := q2.cell 0; have x1 := q2.cell 1; have x2 := q2.cell 2; simp at x0 x1 x2; have h3 := h2.out w2 Q1.out; clear q1 q2 h1))
    | (go_at_call 26; refine h3.mono ?_; rintro e w3 ⟨rfl, q1⟩; (have Q3 := Lib.hid (Q1.out.trans (q1.mono Q1.out.size)); clear q1 h3)))
  go_ret2
  exact ⟨rfl, Q3.out⟩

set_option maxHeartbeats 2000000 in
set_option maxRecDepth 100000 in
theorem compile_ok (w : World) (x : Nd) (A1 A2 : Option Addr) (c1 c2 : Nat) (hr1 : Kd.C k64 w A1 x.f1.length x.f1) (hc1 : x.f1.length ≤ c1) (hr2 : Kd.C k25 w A2 x.f2.length x.f2) (hc2 : x.f2.length ≤ c2)
    (k1 k2 : Nat) (c : Int) (hc : nfa_count.f k1 x.f0 x.f1 x.f2 1 = some c) (hcb : c ≤ 1000) (hr : nfa_right.f k2 x.f0 x.f1 x.f2 = some true) (hrt : rightT x) (hok : okT x) (hsz : sz x ≤ 1000) :
    Calls Try.prog 12 #[.agg #[.int .i64 x.f0, .slice A1 x.f1.length c1, .slice A2 x.f2.length c2]] w fun e w' => ∃ b, e = .returned (.tuple #[.pointer (some ⟨b, 0, none⟩), .int .i64 0]) ∧ Mach w' w.heap.size b (re x) 0 ∧ w.heap.size ≤ b ∧ Below w.heap.size w w' := by
  have hbw : Below w.heap.size w (w.alloc (.cells #[.int .i64 x.f0, .slice A1 x.f1.length c1, .slice A2 x.f2.length c2] 25)) := (Below.refl _ _).alloc (Nat.le_refl _) _
  have h1 := nfa_count.calls k1 x.f0 A1 c1 x.f1 A2 c2 x.f2 1 c (w.alloc (.cells #[.int .i64 x.f0, .slice A1 x.f1.length c1, .slice A2 x.f2.length c2] 25)) (Kd.C_below hr1 hbw) hc1 (Kd.C_below hr2 hbw) hc2 hc
  have h2 : Hid (∀ w2, Below w.heap.size w w2 → Calls Try.prog 26 #[.agg #[.int .i64 x.f0, .slice A1 x.f1.length c1, .slice A2 x.f2.length c2]] w2 fun e w' => e = .returned (.bool true) ∧ Below w2.heap.size w2 w') := fun w2 hb =>
    nfa_right.calls k2 x.f0 A1 c1 x.f1 A2 c2 x.f2 true w2 (Kd.C_below hr1 hb) hc1 (Kd.C_below hr2 hb) hc2 hr
  have HBUILD : Hid (BuildOk w x) := build_all w (sz x) x (Nat.le_refl _) hrt hok
  have HR1 := Lib.hid hr1
  have HR2 := Lib.hid hr2
  have hbx : Blk (w.alloc (.cells #[.int .i64 x.f0, .slice A1 x.f1.length c1, .slice A2 x.f2.length c2] 25)) w.heap.size 25 #[.int .i64 x.f0, .slice A1 x.f1.length c1, .slice A2 x.f2.length c2] := Blk.new _ _ _
  have HBW := Lib.hid hbw
  have HBX := Lib.hid hbx
  have e1 : decide (c > 1000) = false := by simp; omega
  clear hr1 hr2 hc hr hbw hbx
  go_enter Try.func12, Try.ntmps12
  go_wp2_with (first
    | (go_at_call 25; refine h1.mono ?_; rintro e w2 ⟨rfl, q1⟩; (have Q1 := Lib.hid (HBW.out.trans (q1.mono (by simp))); have q2 := HBX.out.below q1 (by simp); have x0 := q2.cell 0; have x1 := q2.cell 1; have x2 := q2.cell 2; simp at x0 x1 x2; have QX := Lib.hid q2; have h3 := h2.out w2 Q1.out; clear q1 q2 h1))
    | (go_at_call 26; refine h3.mono ?_; rintro e w3 ⟨rfl, q1⟩; (have Q3 := Lib.hid (Q1.out.trans (q1.mono Q1.out.size)); have QX3 := Lib.hid (QX.out.below q1 QX.out.lt); have P0 : PM (w3.alloc (.cells #[.slice none 0 0, .int .i64 0, .int .i64 0, .int .i64 0] 53)) w.heap.size w3.heap.size [] (.slice none 0 0) 0 0 0 := ⟨Blk.new _ _ _, Q3.out.size, World.ownsRow_nil _ _ _ _, (fun e he => by simp at he)⟩; have h4 := add_pm _ w.heap.size w3.heap.size [] (.slice none 0 0) 0 0 0 (⟨none, -1, -1⟩, none) P0 (setAt_none _ _ _ _) (Nat.le_trans Q3.out.size (by simp)) (by simp); simp only [stCells, Option.map_none] at h4; clear q1 h3 P0))
    | (go_at_call 27; refine h4.mono ?_; rintro e w4 ⟨rfl, sv4, q1, q2, q3⟩; (have p2 := q1.blk.cell 2; have p2f := q1.blk.frozen 2; simp at p2; have Q4 := Lib.hid q1; have Q5 := Lib.hid q2; have Q6 := Lib.hid q3; clear q1 q2 q3 h4)))
  have K4 : Kp w w4 (fun k => w.heap.size ≤ k) := ((Kp.of_below Q3.out (fun k _ c => c)).alloc _).trans Q6.out (fun k hk c => by
    rcases c with rfl | c
    · exact Q3.out.size
    · cases c)
  have K5 := (K4.set_ (p := ⟨w3.heap.size, 2, none⟩) (fun _ => Q3.out.size) (.int .i64 0)).drew
  have B5 : Below w.heap.size w ((w4.setCell ⟨w3.heap.size, 2, none⟩ (.int .i64 0)).drew) := K5.below (Nat.le_refl _) (fun k c => c)
  have P5 := (Q4.out.stend 2 0 (.inr rfl)).drew
  simp only [if_true, if_false, show ¬ ((2 : Nat) = 1) by decide] at P5
  have hbd := HBUILD.out A1 A2 c1 c2 HR1.out HR2.out _ w3.heap.size _ sv4 0 0 0 0 B5 P5 (by simp; omega)
  have hne : w.heap.size ≠ w3.heap.size := by have := QX3.out.lt; omega
  have hxb := (((QX3.out.alloc (.cells #[.slice none 0 0, .int .i64 0, .int .i64 0, .int .i64 0] 53)).kp Q6.out (fun c => by
    rcases c with c | c
    · exact hne c
    · cases c)).far (p := ⟨w3.heap.size, 2, none⟩) hne (.int .i64 0))
  have x0 := hxb.cell 0
  have x1 := hxb.cell 1
  have x2 := hxb.cell 2
  simp at x0 x1 x2
  have y2 := (Q4.out.stend 2 0 (.inr rfl)).blk.cell 2
  simp at y2
  simp only [List.nil_append, List.map_cons, List.map_nil] at hbd
  have K5' := Lib.hid K5
  have Q3s : Hid (w.heap.size ≤ w3.heap.size) := Q3.out.size
  clear K4 K5 B5 P5 hxb
  go_region_with (first
    | (go_at_call 28; refine hbd.mono ?_; rintro e w6 ⟨rfl, R6, sv6, q1, q2, q3, q4⟩; (have z1 := q1.blk.cell 1; have z1f := q1.blk.frozen 1; simp at z1; have Z1 := Lib.hid q1; have Z2 := Lib.hid q2; have Z4 := Lib.hid q4; clear q1 q2 q3 q4)))
  all_goals
    go_wp2
    go_ret2
    have K7 := (K5'.out.trans Z4.out (fun k hk c => by
      rcases c with rfl | c
      · exact Q3s.out
      · exact (Q4.out.row.lt k c).1)).set_ (p := ⟨w3.heap.size, 1, none⟩) (fun _ => Q3s.out) (.int .i64 (bld (re x) 0 [⟨none, -1, -1⟩]).2)
    have P7 := Z1.out.stend 1 (bld (re x) 0 [⟨none, -1, -1⟩]).2 (.inl rfl)
    simp only [if_true, if_false, show ¬ ((1 : Nat) = 2) by decide] at P7
    have hl := bld_len x 0 [⟨none, -1, -1⟩]
    rw [← Z2.out] at hl
    simp only [List.length_map, List.length_cons, List.length_nil] at hl
    exact ⟨w3.heap.size, rfl, ⟨R6, sv6, P7, Z2.out, by omega, K7.size⟩, Q3s.out, K7.below (Nat.le_refl _) (fun k c => c)⟩

end Go.Proofs.Ytmhodkkfbbpgaaa.Nm
