/- The walk of meet. -/
import Derived.Test.YtdgidcfmggmbiaaMn
namespace Go.Proofs.Ytdgidcfmggmbiaa.Nm
set_option linter.unusedVariables false
set_option linter.unusedSimpArgs false
open Go.RowKit Mem Re

theorem nodup_len (n : Nat) : ∀ (L : List Int), L.Nodup → (∀ x, x ∈ L → 0 ≤ x ∧ x < n) → L.length ≤ n := by
  induction n with
  | zero =>
    intro L _ h
    cases L with
    | nil => simp
    | cons x L => have := h x List.mem_cons_self; omega
  | succ n ih =>
    intro L nd h
    have h1 := ih (L.erase (n : Int)) (nd.erase _) (fun x hx => by
      have a := h x (List.mem_of_mem_erase hx)
      have b := (List.Nodup.mem_erase_iff nd).1 hx
      omega)
    rw [List.length_erase] at h1
    split at h1 <;> omega

theorem own_take {w : World} {base : Nat} {e : TypeId} {size n cap g k : Nat} {xs : List Value} (h : w.ownsRow base e size (.slice (some ⟨g, 0, none⟩) n cap) n xs) (hk : k ≤ n) : w.ownsRow base e size (.slice (some ⟨g, 0, none⟩) k cap) k (xs.take (k * size)) := by
  have hl := h.1
  refine ⟨by rw [List.length_take, hl]; exact Nat.min_eq_left (Nat.mul_le_mul_right _ hk), ?_⟩
  rcases h.2 with ⟨e, _⟩ | ⟨g', cap', cur, e, q1, q2, q3, q4, q5, q6⟩
  · cases e
  · injection e with e1 _ e3
    injection e1 with e1
    injection e1 with e1
    subst e1 e3
    refine .inr ⟨g, cap, cur, rfl, q1, q2, by omega, q4, q5, ?_⟩
    rw [← q6, List.take_take, Nat.min_eq_left (Nat.mul_le_mul_right _ hk)]

theorem SS.setF {w : World} {base sb : Nat} {F L : List Int} {lv : Value} {fb : Nat} (h : SS w base sb F L lv fb) (X : Nat) (v : Int) : SS (w.setCell ⟨fb, X, none⟩ (.int .i64 v)) base sb (F.set X v) L lv fb := by
  have hq : Kp w (w.setCell ⟨fb, X, none⟩ (.int .i64 v)) (fun q => q = fb) := Kp.set_ (p := ⟨fb, X, none⟩) (Kp.refl w (fun q => q = fb)) (fun _ => rfl) _
  refine ⟨by rw [List.length_set]; exact h.blk.far (p := ⟨fb, X, none⟩) (h.blk.ne_ h.fblk (by decide)) _, h.ge, own_kp h.row hq (fun k e c => h.ne_ (by rw [e, c])), ?_, h.fge, h.ne_⟩
  have := h.fblk.set_ X (.int .i64 v)
  rwa [ints_set] at this

theorem SS.setL {w w1 : World} {base sb : Nat} {F L : List Int} {lv lv' : Value} {fb : Nat} {x : Int} (h : SS w base sb F L lv fb) (hg : w.grownBy w1 lv.ownBlock) (ho : w1.ownsRow base 3 1 lv' (L.length + 1) (L.map (Value.int .i64) ++ [.int .i64 x])) (hat : lv'.ownBlock = lv.ownBlock ∨ lv'.ownBlock = some w.heap.size) :
    SS (w1.setCell ⟨sb, 0, none⟩ lv') base sb F (L ++ [x]) lv' fb := by
  have hk : Kp w w1 (fun q => lv.ownBlock = some q) := Kp.grown (Kp.refl _ _) hg (fun k _ e => e)
  have b1 := h.blk.kp hk (fun c => own_blk_ne h.row h.blk (by decide) c)
  have f1 := h.fblk.kp hk (fun c => h.ne_ c)
  have hq : Kp w1 (w1.setCell ⟨sb, 0, none⟩ lv') (fun q => q = sb) := Kp.set_ (p := ⟨sb, 0, none⟩) (Kp.refl w1 (fun q => q = sb)) (fun _ => rfl) _
  refine ⟨by simpa using b1.set_ 0 lv', h.ge, ?_, f1.far (p := ⟨sb, 0, none⟩) (f1.ne_ b1 (by decide)) _, h.fge, ?_⟩
  · have := own_kp ho hq (fun k e c => own_blk_ne ho b1 (by decide) (by rw [e, c]))
    rw [List.length_append, List.map_append]
    exact this
  · rcases hat with e | e
    · rw [e]; exact h.ne_
    · rw [e]
      intro c
      injection c with c
      have := h.fblk.lt
      omega

def Lown (w : World) (lv lv0 : Value) : Prop := lv.ownBlock = lv0.ownBlock ∨ ∃ k, lv.ownBlock = some k ∧ w.heap.size ≤ k

def MRel (w : World) (base sb fb : Nat) (lv0 : Value) (M : List St) (F0 : List Int) (x0 a : Int) (gk : Nat) (tv : Value) (wr : World) : Prop :=
  ∃ T F L lv, MeetI M F0 F L T x0 a ∧ gk = 3 * cnt F a + T.length ∧ gk ≤ 4000000 ∧ SS wr base sb F L lv fb ∧ wr.ownsRow w.heap.size 3 1 tv T.length (T.map (Value.int .i64)) ∧ Lown w lv lv0 ∧ (∀ k, tv.ownBlock = some k → lv.ownBlock ≠ some k) ∧ Kp w wr (Oss sb fb lv0)

theorem meetI_len {M : List St} {F0 F L T : List Int} {x0 a : Int} (h : MeetI M F0 F L T x0 a) : L.length ≤ M.length :=
  nodup_len _ _ h.nd (fun x hx => by have := (h.mem x).1 hx; omega)

/-- What is known in the middle of a round. -/
structure Mid (w : World) (base sb fb : Nat) (lv0 : Value) (F L : List Int) (lv tv : Value) (T : List Int) (W : World) : Prop where
  ss : SS W base sb F L lv fb
  lown : Lown w lv lv0
  row : W.ownsRow w.heap.size 3 1 tv T.length (T.map (Value.int .i64))
  dis : ∀ k, tv.ownBlock = some k → lv.ownBlock ≠ some k
  kp : Kp w W (Oss sb fb lv0)

theorem lown_oss {w : World} {lv lv0 : Value} {sb fb : Nat} (h : Lown w lv lv0) : ∀ k, k < w.heap.size → lv.ownBlock = some k → Oss sb fb lv0 k := by
  intro k hk e
  rcases h with h | ⟨q, h, hq⟩
  · exact .inr (.inr (by rw [← h]; exact e))
  · rw [h] at e; injection e; omega

/-- Behind the list's append and its store. -/
theorem mid_app {w W w1 : World} {base sb fb : Nat} {lv0 lv lv' tv : Value} {F L T : List Int} {x : Int} {o : Obj} (h : Mid w base sb fb lv0 F L lv tv T W) (hsb : sb < w.heap.size)
    (hg : (W.alloc o).grownBy w1 lv.ownBlock) (ho : w1.ownsRow base 3 1 lv' (L.length + 1) (L.map (Value.int .i64) ++ [.int .i64 x])) (hat : lv'.ownBlock = lv.ownBlock ∨ lv'.ownBlock = some (W.alloc o).heap.size) :
    Mid w base sb fb lv0 F (L ++ [x]) lv' tv T (w1.setCell ⟨sb, 0, none⟩ lv') := by
  have h1 := h.ss.kp ((Kp.refl W (fun _ => False)).alloc o) (fun _ c => c.elim)
  have hk : Kp w w1 (Oss sb fb lv0) := (h.kp.alloc o).grown hg (lown_oss h.lown)
  have hz := h.kp.size
  refine ⟨h1.setL hg ho hat, ?_, ?_, ?_, hk.set_ (fun _ => .inl rfl) _⟩
  · rcases hat with e | e
    · unfold Lown; rw [e]; exact h.lown
    · exact .inr ⟨_, e, by simp; omega⟩
  · have a1 : Kp W w1 (fun q => lv.ownBlock = some q) := Kp.grown ((Kp.refl W _).alloc o) hg (fun _ _ e => e)
    have a2 := own_kp h.row a1 (fun k e c => h.dis k e c)
    exact own_kp a2 (Kp.set_ (p := ⟨sb, 0, none⟩) (Kp.refl w1 (fun q => q = sb)) (fun _ => rfl) _) (fun k e c => by have := (h.row.lt k e).1; omega)
  · intro k e
    rcases hat with c | c
    · rw [c]; exact h.dis k e
    · rw [c]
      intro c2
      injection c2 with c2
      have := (h.row.lt k e).2
      simp at c2
      omega

/-- Behind the place's store. -/
theorem mid_set {w W : World} {base sb fb : Nat} {lv0 lv tv : Value} {F L T : List Int} (h : Mid w base sb fb lv0 F L lv tv T W) (hfb : fb < w.heap.size) (X : Nat) (v : Int) :
    Mid w base sb fb lv0 (F.set X v) L lv tv T (W.setCell ⟨fb, X, none⟩ (.int .i64 v)) :=
  ⟨h.ss.setF X v, h.lown, own_kp h.row (Kp.set_ (p := ⟨fb, X, none⟩) (Kp.refl W (fun q => q = fb)) (fun _ => rfl) _) (fun k e c => by have := (h.row.lt k e).1; omega), h.dis, h.kp.set_ (fun _ => .inr (.inl rfl)) _⟩

theorem mid_alloc {w W : World} {base sb fb : Nat} {lv0 lv tv : Value} {F L T : List Int} (h : Mid w base sb fb lv0 F L lv tv T W) (o : Obj) : Mid w base sb fb lv0 F L lv tv T (W.alloc o) :=
  ⟨h.ss.kp ((Kp.refl W (fun _ => False)).alloc o) (fun _ c => c.elim), h.lown, own_alloc h.row o, h.dis, h.kp.alloc o⟩

/-- Behind todo's append. -/
theorem mid_todo {w W w1 : World} {base sb fb : Nat} {lv0 lv tv tv' : Value} {F L T : List Int} {y z : Int} (h : Mid w base sb fb lv0 F L lv tv T W) (hsb : sb < w.heap.size) (hfb : fb < w.heap.size)
    (hg : W.grownBy w1 tv.ownBlock) (ho : w1.ownsRow w.heap.size 3 1 tv' (T.length + 2) (T.map (Value.int .i64) ++ [.int .i64 y, .int .i64 z])) (hat : tv'.ownBlock = tv.ownBlock ∨ tv'.ownBlock = some W.heap.size) :
    Mid w base sb fb lv0 F L lv tv' (T ++ [y, z]) w1 := by
  have a1 : Kp W w1 (fun q => tv.ownBlock = some q) := Kp.grown (Kp.refl W _) hg (fun _ _ e => e)
  refine ⟨h.ss.kp a1 ?_, h.lown, ?_, ?_, h.kp.grown hg (fun k hk e => by have := (h.row.lt k e).1; omega)⟩
  · rintro k e (c | c | c)
    · have := (h.row.lt k e).1; omega
    · have := (h.row.lt k e).1; omega
    · exact h.dis k e c
  · simpa using ho
  · intro k e c
    rcases hat with q | q
    · rw [q] at e; exact h.dis k e c
    · rw [q] at e
      injection e with e
      have := (h.ss.row.lt k c).2
      omega

theorem PM.cells {w : World} {base b gs gc : Nat} {R : List (St × Option Nat)} {st en stp : Int} (h : PM w base b R (.slice (some ⟨gs, 0, none⟩) R.length gc) st en stp) {X : Nat} {s : St} {p : Option Nat} (hX : R[X]? = some (s, p)) :
    w.cell? ⟨b, 0, none⟩ = some (.slice (some ⟨gs, 0, none⟩) R.length gc) ∧ w.cell? ⟨gs, X * 3, none⟩ = some (.pointer (p.map fun q => ⟨q, 0, none⟩)) ∧ w.cell? ⟨gs, X * 3 + 1, none⟩ = some (.int .i64 s.next) ∧ w.cell? ⟨gs, X * 3 + 2, none⟩ = some (.int .i64 s.other) := by
  refine ⟨by simpa using h.blk.cell 0, own_cell h.row ?_, own_cell h.row ?_, own_cell h.row ?_⟩
  · have := stc_get R X 0 (by omega); rw [hX] at this; exact this
  · have := stc_get R X 1 (by omega); rw [hX] at this; exact this
  · have := stc_get R X 2 (by omega); rw [hX] at this; exact this

theorem setAt_isNone {w : World} {base : Nat} {s : St} {p : Option Nat} (h : SetAt w base (s, p)) : s.set.isNone = p.isNone := by
  unfold SetAt at h
  cases hs : s.set with
  | none => rw [hs] at h; simp at h; rw [h]; rfl
  | some f => rw [hs] at h; obtain ⟨q, h1, _⟩ := h; simp at h1; rw [h1]; rfl

set_option maxHeartbeats 2000000 in
set_option maxRecDepth 100000 in
theorem meet_any (w : World) (base b : Nat) (R : List (St × Option Nat)) (sv : Value) (st en stp : Int) (hP : PM w base b R sv st en stp) (hB : base ≤ w.heap.size) (hn : R.length ≤ 1000000)
    (hM : ∀ (k : Nat) (s : St), (R.map (·.1))[k]? = some s → (-1 ≤ s.next ∧ s.next < (R.map (·.1)).length) ∧ (-1 ≤ s.other ∧ s.other < (R.map (·.1)).length))
    (sb : Nat) (F L : List Int) (lv : Value) (fb : Nat) (hS : SS w base sb F L lv fb) (hOk : SetOk (R.map (·.1)) F L) (x a : Int) (hx : -1 ≤ x ∧ x < R.length) (ha : 0 ≤ a) :
    Calls Try.prog 58 #[.pointer (some ⟨b, 0, none⟩), .pointer (some ⟨sb, 0, none⟩), .int .i64 x, .int .i64 a] w fun e w' => e = .returned (.tuple #[]) ∧ ∃ F' L' lv', SS w' base sb F' L' lv' fb ∧ SetOk (R.map (·.1)) F' L' ∧ Re.Met (R.map (·.1)) F F' x a ∧ Lown w lv' lv ∧ Kp w w' (Oss sb fb lv) := by
  have HP := Lib.hid hP
  have HS := Lib.hid hS
  have HM := Lib.hid hM
  have HO := Lib.hid hOk
  have hML : (R.map (·.1)).length = R.length := by simp
  have HX := Lib.hid hx
  clear hP hS hM hOk hx
  obtain ⟨i0, hi0, hz0, hz1, hz2⟩ := info_parts infoInt
  go_enter Try.func58, Try.ntmps58
  go_wp2
  go_loopg [8] (3 * cnt F a + 1) (fun gk tv wr => MRel w base sb fb lv (R.map (·.1)) F x a gk tv wr)
  case atStart =>
    refine ⟨[x], F, L, lv, meet_start HO.out (by rw [hML]; exact HX.out), rfl, ?_, ?_, ?_, .inl rfl, ?_, ?_⟩
    · have := cnt_le F a
      have h2 := HO.out.len
      rw [hML] at h2
      omega
    · exact HS.out.kp ((Kp.refl w (fun _ => False)).alloc _) (fun _ c => c.elim)
    · refine ⟨rfl, .inr ⟨w.heap.size, 1, #[.int .i64 x], by simp, Nat.le_refl _, Blk.new _ _ _, by simp, by simp [maxLen], rfl, rfl⟩⟩
    · intro k e c
      simp [Value.ownBlock] at e
      subst e
      exact absurd (HS.out.row.lt _ c).2 (by omega)
    · exact (Kp.refl w _).alloc _
  case round =>
    obtain ⟨T, F1, L1, lv1, hI, hgk, hgb, hS1, hT, hLo, hTL, hK⟩ := hrel
    rcases List.eq_nil_or_concat T with rfl | ⟨T', x', rfl⟩
    · obtain ⟨A1, c1, rfl⟩ : ∃ A1 c1, u8 = .slice A1 0 c1 := by
        rcases hT.2 with ⟨e, _⟩ | ⟨g, cap, _, e, _⟩
        · exact ⟨_, _, e⟩
        · exact ⟨_, _, e⟩
      obtain ⟨q1, q2⟩ := meet_done HM.out hI (by rw [hML]; exact HX.out)
      have HE : Hid (∃ F' L' lv', SS wr base sb F' L' lv' fb ∧ SetOk (R.map (·.1)) F' L' ∧ Re.Met (R.map (·.1)) F F' x a ∧ Lown w lv' lv ∧ Kp w wr (Oss sb fb lv)) := ⟨F1, L1, lv1, hS1, q1, q2, hLo, hK⟩
      clear hI hS1 hT hLo hTL hK q1 q2
      go_wp2
      go_end0
      exact ⟨rfl, HE.out⟩
    · rw [List.concat_eq_append] at *
      have hTl : (T' ++ [x']).length = T'.length + 1 := by simp
      rw [hTl] at hT hgk
      obtain ⟨g, cap, rfl⟩ := own_form hT (by omega)
      obtain ⟨cap1, cap2⟩ := own_cap hT
      have t0 := own_cell hT (j := T'.length) (u := .int .i64 x') (by simp)
      have hx' : x' = -1 ∨ (0 ≤ x' ∧ x' < R.length) := by
        rcases hI.todoOk x' (by simp) with e | ⟨e1, e2, _⟩
        · exact .inl e
        · rw [hML] at e2; exact .inr ⟨e1, e2⟩
      have hT' := own_take hT (k := T'.length) (by omega)
      rw [Nat.mul_one, List.map_append, List.take_left' (by simp)] at hT'
      have hTL' : ∀ k, Value.ownBlock (.slice (some ⟨g, 0, none⟩) T'.length cap) = some k → lv1.ownBlock ≠ some k := hTL
      have hFl := hI.len
      rw [hML] at hFl
      have hgk1 := hgk
      have HT := Lib.hid hT'
      have HTL := Lib.hid hTL'
      have HS1 := Lib.hid hS1
      have HLo := Lib.hid hLo
      have HK := Lib.hid hK
      clear hT hT' hTL hTL'
      rcases hx' with rfl | ⟨hx0, hx1⟩
      · have HI := Lib.hid (meet_skip hI (.inl rfl))
        clear hI hS1 hLo hK
        go_wp2
        go_roundg (3 * cnt F1 a + T'.length)
        case measure => omega
        case rel => exact ⟨T', F1, L1, lv1, HI.out, rfl, by omega, HS1.out, HT.out, HLo.out, HTL.out, HK.out⟩
      · obtain ⟨X, rfl⟩ : ∃ X : Nat, x' = (X : Int) := ⟨x'.toNat, by omega⟩
        have c1 := hS1.blk.cell 1
        simp at c1
        rw [hFl] at c1
        have hfa : fa F1 (X : Int) = F1.getD X (-1) := rfl
        have f0 := hS1.fblk.cell X
        rw [ints_getD (by omega) (-1), ← hfa] at f0
        obtain ⟨v, hv⟩ : ∃ v, fa F1 (X : Int) = v := ⟨_, rfl⟩
        rw [hv] at f0
        by_cases hsk : v ≠ -1 ∧ v ≤ a
        · have HI := Lib.hid (meet_skip hI (.inr (by rw [hv]; exact hsk)))
          obtain ⟨k1, k2⟩ := hsk
          have e1 : (v == -1) = false := by simpa using k1
          have e2 : (v != -1) = true := by simpa using k1
          have e3 : decide (v ≤ a) = true := by simpa using k2
          have e4 : ((X : Int) == -1) = false := by simp
          clear hI hS1 hLo hK
          go_wp2
          go_roundg (3 * cnt F1 a + T'.length)
          case measure => omega
          case rel => exact ⟨T', F1, L1, lv1, HI.out, rfl, by omega, HS1.out, HT.out, HLo.out, HTL.out, HK.out⟩
        · have hf : fa F1 (X : Int) = -1 ∨ a < fa F1 (X : Int) := by rw [hv]; omega
          have hXM : X < (R.map (·.1)).length := by rw [hML]; omega
          obtain ⟨s0, hs0⟩ : ∃ s, (R.map (·.1))[X]? = some s := ⟨_, List.getElem?_eq_getElem hXM⟩
          obtain ⟨p0, hp0⟩ := map_get hs0
          have hI2 := meet_take HM.out ha hI (by omega) hf (st := s0) (by rw [Int.toNat_natCast]; exact hs0)
          rw [Int.toNat_natCast, hv] at hI2
          have hcnt := cnt_set (F := F1) (a := a) (k := X) (by omega) ha hf
          have hl1 := meetI_len hI
          rw [hML] at hl1
          have hPr := HP.out.kp hK HS.out.oth
          have HPr := Lib.hid hPr
          have hwz := hK.size
          obtain ⟨gs, gc, hsv⟩ := own_form HP.out.row (by omega)
          subst hsv
          obtain ⟨gc1, gc2⟩ := own_cap HP.out.row
          have e4 : ((X : Int) == -1) = false := by simp
          have HSLT : Hid (sb < w.heap.size ∧ fb < w.heap.size) := ⟨HS.out.blk.lt, HS.out.fblk.lt⟩
          have HMID : Hid (Mid w base sb fb lv F1 L1 lv1 (.slice (some ⟨g, 0, none⟩) T'.length cap) T' wr) := ⟨hS1, hLo, HT.out, HTL.out, hK⟩
          have hin := setAt_isNone (hPr.sets _ (List.mem_of_getElem? hp0))
          rw [hin] at hI2
          have b0 := hS1.blk.cell 0
          simp at b0
          by_cases hv1 : v = -1
          · subst hv1
            have e1 : ((-1 : Int) != -1) = false := by decide
            rw [if_pos rfl] at hI2
            have HI2 := Lib.hid hI2
            clear hI hI2 hS1 hLo hK hPr hin
            cases p0 with
            | some q0 =>
              go_wp2_with (first
                | (at_builtin; (refine wpList_append_cells _ rfl (.tmp 62) (.tmp 64) 105 rfl base 3 i0 _ 1 8 Try.underlying105 hi0 hz0 hz1 hz2 rfl (by decide) lv1 L1.length _ (by simp [Act.eval]) (own_alloc HS1.out.row _) wr.heap.size 1 1 #[.int .i64 (X : Int)] 3 (by simp [Act.eval]) rfl (Blk.new _ _ _) (by simp [Value.oneCell']) (by simp only [maxLen]; omega) (by omega) (by simp; omega) ?_); intro lv2 w1 hown1 hg1 hat1; obtain ⟨g2, cap2, rfl⟩ := own_form hown1 (by omega); have HM2 := Lib.hid (mid_app HMID.out HSLT.out.1 hg1 hown1 hat1); have b1 := HS1.out.blk.kp (Kp.grown ((Kp.refl wr _).alloc _) hg1 (fun _ _ e => e)) (fun c => own_blk_ne HS1.out.row HS1.out.blk (by decide) c); have q0 := b1.cell 0; simp at q0; have q1 := b1.frozen 0; clear b1 hown1 hg1 hat1; have HM3 := Lib.hid (mid_set HM2.out HSLT.out.2 X a); have hpm := HP.out.kp HM3.out.kp HS.out.oth; obtain ⟨y0, y1, y2, y3⟩ := hpm.cells hp0; have z1 := HM2.out.ss.blk.cell 1; simp at z1; rw [hFl] at z1; have z0 := HM2.out.ss.fblk.cell X; rw [ints_getD (by omega) (-1), ← hfa, hv] at z0; have z2 := HM2.out.ss.fblk.frozen X; clear hpm))
              go_roundg (3 * cnt (F1.set X a) a + T'.length)
              case measure => omega
              case rel => exact ⟨T', _, _, _, HI2.out, rfl, by omega, (mid_alloc HM3.out _).ss, (mid_alloc HM3.out _).row, HM3.out.lown, HM3.out.dis, (mid_alloc HM3.out _).kp⟩
            | none =>
              go_wp2_with (first
                | (at_builtin; (refine wpList_append_cells _ rfl (.tmp 62) (.tmp 64) 105 rfl base 3 i0 _ 1 8 Try.underlying105 hi0 hz0 hz1 hz2 rfl (by decide) lv1 L1.length _ (by simp [Act.eval]) (own_alloc HS1.out.row _) wr.heap.size 1 1 #[.int .i64 (X : Int)] 3 (by simp [Act.eval]) rfl (Blk.new _ _ _) (by simp [Value.oneCell']) (by simp only [maxLen]; omega) (by omega) (by simp; omega) ?_); intro lv2 w1 hown1 hg1 hat1; obtain ⟨g2, cap2, rfl⟩ := own_form hown1 (by omega); have hz3 := hg1.size; simp at hz3; have HM2 := Lib.hid (mid_app HMID.out HSLT.out.1 hg1 hown1 hat1); have b1 := HS1.out.blk.kp (Kp.grown ((Kp.refl wr _).alloc _) hg1 (fun _ _ e => e)) (fun c => own_blk_ne HS1.out.row HS1.out.blk (by decide) c); have q0 := b1.cell 0; simp at q0; have q1 := b1.frozen 0; clear b1 hown1 hg1 hat1; have HM3 := Lib.hid (mid_set HM2.out HSLT.out.2 X a); have hpm := HP.out.kp HM3.out.kp HS.out.oth; obtain ⟨y0, y1, y2, y3⟩ := hpm.cells hp0; have z1 := HM2.out.ss.blk.cell 1; simp at z1; rw [hFl] at z1; have z0 := HM2.out.ss.fblk.cell X; rw [ints_getD (by omega) (-1), ← hfa, hv] at z0; have z2 := HM2.out.ss.fblk.frozen X; clear hpm)
                | (at_builtin; (refine wpList_append_cells _ rfl (.tmp 85) (.tmp 90) 105 rfl w.heap.size 3 i0 _ 1 8 Try.underlying105 hi0 hz0 hz1 hz2 rfl (by decide) (.slice (some ⟨g, 0, none⟩) T'.length cap) T'.length _ (by simp [Act.eval]) (mid_alloc (mid_alloc HM3.out _) _).row (w1.heap.size + 1) 2 2 #[.int .i64 s0.next, .int .i64 s0.other] 3 (by simp [Act.eval]) rfl (Blk.last _ _ _ (by simp)) (by simp [Value.oneCell']) (by simp only [maxLen]; omega) (by omega) (by simp; omega) ?_); intro tv2 w2 hown2 hg2 hat2; have HM4 := Lib.hid (mid_todo (mid_alloc (mid_alloc HM3.out _) _) HSLT.out.1 HSLT.out.2 hg2 hown2 hat2); clear hown2 hg2 hat2))
              go_roundg (3 * cnt (F1.set X a) a + T'.length + 2)
              case measure => omega
              case rel => exact ⟨T' ++ [s0.next, s0.other], _, _, _, HI2.out, by simp; omega, by simp; omega, HM4.out.ss, HM4.out.row, HM4.out.lown, HM4.out.dis, HM4.out.kp⟩
          · have e1 : (v == -1) = false := by simpa using hv1
            have e2 : (v != -1) = true := by simpa using hv1
            have e3 : decide (v ≤ a) = false := by simp; omega
            rw [if_neg hv1] at hI2
            have HI2 := Lib.hid hI2
            have HM3 := Lib.hid (mid_set HMID.out HSLT.out.2 X a)
            have hpm := HP.out.kp HM3.out.kp HS.out.oth
            obtain ⟨y0, y1, y2, y3⟩ := hpm.cells hp0
            have z2 := hS1.fblk.frozen X
            clear hI hI2 hS1 hLo hK hPr hin hpm
            cases p0 with
            | some q0 =>
              go_wp2
              go_roundg (3 * cnt (F1.set X a) a + T'.length)
              case measure => omega
              case rel => exact ⟨T', _, _, _, HI2.out, rfl, by omega, (mid_alloc HM3.out _).ss, (mid_alloc HM3.out _).row, HM3.out.lown, HM3.out.dis, (mid_alloc HM3.out _).kp⟩
            | none =>
              go_wp2_with (first
                | (at_builtin; (refine wpList_append_cells _ rfl (.tmp 85) (.tmp 90) 105 rfl w.heap.size 3 i0 _ 1 8 Try.underlying105 hi0 hz0 hz1 hz2 rfl (by decide) (.slice (some ⟨g, 0, none⟩) T'.length cap) T'.length _ (by simp [Act.eval]) (mid_alloc (mid_alloc HM3.out _) _).row (wr.heap.size + 1) 2 2 #[.int .i64 s0.next, .int .i64 s0.other] 3 (by simp [Act.eval]) rfl (Blk.last _ _ _ (by simp)) (by simp [Value.oneCell']) (by simp only [maxLen]; omega) (by omega) (by simp; omega) ?_); intro tv2 w2 hown2 hg2 hat2; have HM4 := Lib.hid (mid_todo (mid_alloc (mid_alloc HM3.out _) _) HSLT.out.1 HSLT.out.2 hg2 hown2 hat2); clear hown2 hg2 hat2))
              go_roundg (3 * cnt (F1.set X a) a + T'.length + 2)
              case measure => omega
              case rel => exact ⟨T' ++ [s0.next, s0.other], _, _, _, HI2.out, by simp; omega, by simp; omega, HM4.out.ss, HM4.out.row, HM4.out.lown, HM4.out.dis, HM4.out.kp⟩

end Go.Proofs.Ytdgidcfmggmbiaa.Nm
