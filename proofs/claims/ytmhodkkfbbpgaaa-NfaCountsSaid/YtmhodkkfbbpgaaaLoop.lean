/- The walk of Prog.build at a Star and a Plus, and at every right tree. -/
import Derived.Test.YtmhodkkfbbpgaaaBuild
namespace Go.Proofs.Ytmhodkkfbbpgaaa.Nm
set_option linter.unusedVariables false
set_option linter.unusedSimpArgs false
open Go.RowKit Mem Re Tree Go.Proofs.Ytmhodkkfbbpgaaa.PNfa Go.Proofs.YtmhodkkfbbpgaaaW.PrintWords Go.Proofs.YtmhodkkfbbpgaaaW.PrintLast Go.Proofs.YtmhodkkfbbpgaaaW.PrintMore

theorem own_set {w : World} {base : Nat} {e : TypeId} {size g n cap : Nat} {xs : List Value} (h : w.ownsRow base e size (.slice (some ⟨g, 0, none⟩) n cap) n xs) {j : Nat} (hj : j < xs.length) (u : Value) :
    (w.setCell ⟨g, j, none⟩ u).ownsRow base e size (.slice (some ⟨g, 0, none⟩) n cap) n (xs.set j u) := by
  refine ⟨by rw [List.length_set]; exact h.1, ?_⟩
  rcases h.2 with ⟨h1, _⟩ | ⟨g', cap', cur, h1, hb, hh, hn, hm, hc, ht⟩
  · cases h1
  · injection h1 with h1 _ h2
    injection h1 with h1
    injection h1 with h1
    subst h1 h2
    have hs := Blk.set_ (t := e) hh j u
    refine .inr ⟨g, cap, cur.setIfInBounds j u, rfl, hb, hs, hn, hm, by simpa using hc, ?_⟩
    rw [Array.toList_setIfInBounds, List.take_set, ht]

theorem own_cell {w : World} {base : Nat} {e : TypeId} {size g n cap : Nat} {xs : List Value} (h : w.ownsRow base e size (.slice (some ⟨g, 0, none⟩) n cap) n xs) {j : Nat} {u : Value} (hu : xs[j]? = some u) : w.cell? ⟨g, j, none⟩ = some u := by
  have := h.cells (g := g) rfl j u hu
  have hadd : (⟨g, 0, none⟩ : Addr).add j = ⟨g, j, none⟩ := by unfold Addr.add; split <;> simp_all
  rwa [hadd] at this

theorem own_frozen {w : World} {base : Nat} {e : TypeId} {size g n cap : Nat} {xs : List Value} (h : w.ownsRow base e size (.slice (some ⟨g, 0, none⟩) n cap) n xs) (j : Nat) : w.frozen? ⟨g, j, none⟩ = false := by
  rcases h.2 with ⟨h1, _⟩ | ⟨g', cap', cur, h1, hb, hh, _⟩
  · cases h1
  · injection h1 with h1 _ h2
    injection h1 with h1
    injection h1 with h1
    subst h1
    exact Blk.frozen (t := e) hh j

theorem own_cap {w : World} {base : Nat} {e : TypeId} {size g n cap : Nat} {xs : List Value} (h : w.ownsRow base e size (.slice (some ⟨g, 0, none⟩) n cap) n xs) : n ≤ cap ∧ cap ≤ maxLen := by
  rcases h.2 with ⟨h1, _⟩ | ⟨g', cap', cur, h1, hb, hh, hn, hm, _⟩
  · cases h1
  · injection h1 with h1 _ h2
    subst h2
    exact ⟨hn, hm⟩

theorem stc_len (R : List (St × Option Nat)) : (R.flatMap stCells).length = R.length * 3 := by
  induction R with
  | nil => rfl
  | cons e R ih => simp only [List.flatMap_cons, List.length_append, ih, List.length_cons, stCells, List.length_nil]; omega

theorem stc_get (R : List (St × Option Nat)) (k j : Nat) (hj : j < 3) : (R.flatMap stCells)[k * 3 + j]? = (R[k]?.bind fun e => (stCells e)[j]?) := by
  induction R generalizing k with
  | nil => simp
  | cons e R ih =>
    have hl : (stCells e).length = 3 := rfl
    rw [List.flatMap_cons]
    cases k with
    | zero => rw [List.getElem?_append_left (by omega)]; simp
    | succ k =>
      rw [List.getElem?_append_right (by omega), show (k + 1) * 3 + j - (stCells e).length = k * 3 + j by omega, ih]
      simp

theorem stc_set (R : List (St × Option Nat)) (k : Nat) (v : Int) (s : St) (p : Option Nat) (h : R[k]? = some (s, p)) : (R.flatMap stCells).set (k * 3 + 1) (.int .i64 v) = (R.set k (⟨s.set, v, s.other⟩, p)).flatMap stCells := by
  induction R generalizing k with
  | nil => simp at h
  | cons e R ih =>
    have hl : (stCells e).length = 3 := rfl
    rw [List.flatMap_cons]
    cases k with
    | zero =>
      simp at h
      subst h
      rw [List.set_append_left _ _ (by omega)]
      rfl
    | succ k =>
      rw [List.set_append_right _ _ (by omega), show (k + 1) * 3 + 1 - (stCells e).length = k * 3 + 1 by omega, ih k (by simpa using h)]
      rfl

/-- The body's machine begins as what was there. -/
theorem bld_pre (r : Re) (M : List St) (x : St) (k : Nat) (hk : k ≤ M.length) : (bld r M.length (M ++ [x])).1[k]? = (M ++ [x])[k]? :=
  (frag (b := fun _ => 0) (len := 0) r M.length (M ++ [x]) (by omega) (by simp; omega)).1.pre k (by simp; omega)

/-- Next is set. -/
theorem pm_set {w : World} {base b : Nat} {R : List (St × Option Nat)} {g cap : Nat} {st en stp : Int} (h : PM w base b R (.slice (some ⟨g, 0, none⟩) R.length cap) st en stp) {k : Nat} {o : Int} {p : Option Nat} {x : Int} (hk : R[k]? = some (⟨none, x, o⟩, p)) (v : Int) :
    PM (w.setCell ⟨g, k * 3 + 1, none⟩ (.int .i64 v)) base b (R.set k (⟨none, v, o⟩, p)) (.slice (some ⟨g, 0, none⟩) R.length cap) st en stp := by
  have hkl : k < R.length := (List.getElem?_eq_some_iff.1 hk).1
  have hne := own_blk_ne h.row h.blk (by decide)
  have hbg : b ≠ g := fun e => hne (by rw [e]; rfl)
  refine ⟨h.blk.far (p := ⟨g, k * 3 + 1, none⟩) hbg _, h.ge, ?_, fun e he => ?_⟩
  · have := own_set h.row (j := k * 3 + 1) (by rw [stc_len]; omega) (.int .i64 v)
    rw [stc_set R k v _ _ hk] at this
    rw [List.length_set]
    exact this
  · have hK : Kp w (w.setCell ⟨g, k * 3 + 1, none⟩ (.int .i64 v)) (fun q => q = g) := Kp.set_ (p := ⟨g, k * 3 + 1, none⟩) (Kp.refl w (fun q => q = g)) (fun _ => rfl) _
    have hx : ∀ q, q = g → ∀ cs, ¬ Blk w q 65 cs := by
      rintro q rfl cs hc
      exact own_blk_ne h.row hc (by decide) rfl
    rcases List.mem_or_eq_of_mem_set he with he | rfl
    · exact (h.sets e he).kp hK hx
    · have h0 := h.sets _ (List.mem_of_getElem? hk)
      unfold SetAt at h0 ⊢
      exact h0

theorem own_trans {sv sv1 sv2 : Value} {n n1 : Nat} (h1 : sv1.ownBlock = sv.ownBlock ∨ ∃ k, sv1.ownBlock = some k ∧ n ≤ k) (h2 : sv2.ownBlock = sv1.ownBlock ∨ ∃ k, sv2.ownBlock = some k ∧ n1 ≤ k) (hn : n ≤ n1) : sv2.ownBlock = sv.ownBlock ∨ ∃ k, sv2.ownBlock = some k ∧ n ≤ k := by
  rcases h2 with e | ⟨k, e, hk⟩
  · rw [e]; exact h1
  · exact .inr ⟨k, e, Nat.le_trans hn hk⟩

theorem map_get {R : List (St × Option Nat)} {k : Nat} {s : St} (h : (R.map (·.1))[k]? = some s) : ∃ p, R[k]? = some (s, p) := by
  rw [List.getElem?_map] at h
  cases hr : R[k]? with
  | none => rw [hr] at h; cases h
  | some e =>
    rw [hr] at h
    simp at h
    exact ⟨e.2, by rw [← h]⟩

set_option maxHeartbeats 1000000 in
set_option maxRecDepth 100000 in
theorem build_loop (W : World) (kd : Int) (hkd : kd = 4 ∨ kd = 5) (rs : List Rg) (y : Nd) (kids : List Nd) (ih : BuildOk W y) : BuildOk W ⟨kd, rs, y :: kids⟩ := by
  intro A1 A2 c1 c2 hr1 hr2 w b R sv st en stp tgt hb hM hsz
  have hc2 : Kd.C k25 W A2 (y :: kids).length (y :: kids) := hr2
  obtain ⟨ad, B1, d1, B2, d2, rfl, g0, g1, g2, _, p1, _, p2⟩ := at_T25 hc2 0 (by omega) (by simp)
  have hy : rd_T25 (y :: kids) 0 = y := rfl
  rw [hy] at g0 g1 g2 p1 p2
  have HB : Hid (Below W.heap.size W w) := hb
  have HM : Hid (PM w W.heap.size b R sv st en stp) := hM
  simp only [sz, szL] at hsz
  have hpre : (bld (re y) (R.length : Int) (R.map (·.1) ++ [⟨none, 0, tgt⟩])).1[R.length]? = some ⟨none, 0, tgt⟩ := by
    have q := bld_pre (re y) (R.map (·.1)) ⟨none, 0, tgt⟩ R.length (by simp)
    rw [List.length_map] at q
    have e := get_append_at (M := R.map (·.1)) (x := ⟨none, 0, tgt⟩)
    rw [List.length_map] at e
    rw [q, e]
  have hlen := bld_len y (R.length : Int) (R.map (·.1) ++ [⟨none, 0, tgt⟩])
  rw [List.length_append, List.length_map] at hlen
  simp only [List.length_cons, List.length_nil] at hlen
  have hres : bld (re ⟨kd, rs, y :: kids⟩) tgt (R.map (·.1)) = ((bld (re y) (R.length : Int) (R.map (·.1) ++ [⟨none, 0, tgt⟩])).1.set R.length ⟨none, (bld (re y) (R.length : Int) (R.map (·.1) ++ [⟨none, 0, tgt⟩])).2, tgt⟩, if kd = 4 then (R.length : Int) else (bld (re y) (R.length : Int) (R.map (·.1) ++ [⟨none, 0, tgt⟩])).2) := by
    rcases hkd with rfl | rfl <;> simp [re, reK, bld]
  rw [hres]
  have hbA : Below W.heap.size W (w.alloc (.cells #[.int .i64 kd, .slice A1 rs.length c1, .slice (some ad) (y :: kids).length c2] 25)) := hb.trans (((Below.refl _ _).alloc (Nat.le_refl _) _).mono hb.size)
  have e0 : ad.add ((0 : Int).toNat * 3) = ad := by simp [Addr.add]
  rw [e0] at g0 g1 g2
  have hc : ∀ (w1 : World) (sv1 : Value), Below W.heap.size W w1 → PM w1 W.heap.size b (R ++ [(⟨none, 0, tgt⟩, none)]) sv1 st en stp → Calls Try.prog 28 #[.pointer (some ⟨b, 0, none⟩), .agg #[.int .i64 y.f0, .slice B1 y.f1.length d1, .slice B2 y.f2.length d2], .int .i64 (R.length : Int)] w1 (PostB W w1 b (R ++ [(⟨none, 0, tgt⟩, none)]) sv1 st en stp (bld (re y) (R.length : Int) (R.map (·.1) ++ [⟨none, 0, tgt⟩]))) := by
    intro w1 sv1 q1 q2
    have := ih B1 B2 d1 d2 p1 p2 w1 b _ sv1 st en stp (R.length : Int) q1 q2 (by simp; omega)
    rw [List.map_append] at this
    exact this
  generalize bld (re y) (R.length : Int) (R.map (·.1) ++ [⟨none, 0, tgt⟩]) = BB at *
  have ha0 := add_pm (w.alloc (.cells #[.int .i64 kd, .slice A1 rs.length c1, .slice (some ad) (y :: kids).length c2] 25)) W.heap.size b R sv st en stp (⟨none, 0, tgt⟩, none) (hM.alloc _) (setAt_none _ _ _ _) hbA.size (by omega)
  have hbx : Blk (w.alloc (.cells #[.int .i64 kd, .slice A1 rs.length c1, .slice (some ad) (y :: kids).length c2] 25)) w.heap.size 25 #[.int .i64 kd, .slice A1 rs.length c1, .slice (some ad) (y :: kids).length c2] := Blk.new _ _ _
  have hMA := hM.alloc (.cells #[.int .i64 kd, .slice A1 rs.length c1, .slice (some ad) (y :: kids).length c2] 25)
  simp only [List.length_cons] at g0 g1 g2 ha0 hbA hbx hMA
  simp only [stCells, Option.map_none] at ha0
  have HO : Hid (∀ k, Own b sv k → W.heap.size ≤ k) := fun k c => by
    rcases c with rfl | c
    · exact hM.ge
    · exact (hM.row.lt k c).1
  have G0 := Lib.hid g0
  have G1 := Lib.hid g1
  have G2 := Lib.hid g2
  have HBA := Lib.hid hbA
  have HX := Lib.hid hbx
  have HMA := Lib.hid hMA
  have HC := Lib.hid hc
  have HL := Lib.hid hlen
  have HP := Lib.hid hpre
  have HZ := Lib.hid hsz
  have hk4 : (kd == 1) = false ∧ (kd == 2) = false ∧ (kd == 3) = false ∧ (kd == 6) = false := by rcases hkd with rfl | rfl <;> decide
  obtain ⟨k1, k2, k3, k6⟩ := hk4
  obtain ⟨b4, k4⟩ : ∃ b4, (kd == 4) = b4 := ⟨_, rfl⟩
  obtain ⟨r2, hr2⟩ : ∃ r2, (if kd = 4 then (R.length : Int) else BB.2) = r2 := ⟨_, rfl⟩
  have HR2 : Hid (r2 = if b4 = true then (R.length : Int) else BB.2) := by unfold Hid; rw [← hr2, ← k4]; simp
  rw [hr2]
  clear hb hM hr1 hr2 hc2 ih p1 p2 hres e0 hy g0 g1 g2 hbA hbx hMA hc hlen hpre hsz hkd
  cases b4
  all_goals
    go_enter Try.func28, Try.ntmps28
    go_wp2_with (first
      | (go_at_call 27; refine ha0.mono ?_; rintro e w1 ⟨rfl, sv1, q1, q2, q3⟩; (have Q1 := Lib.hid q1; have Q2 := Lib.hid q2; have Q3 := Lib.hid q3; have HB1 := Lib.hid (HBA.out.trans (q3.below (B := W.heap.size) HBA.out.size HO.out)); have x1 := HX.out.kp q3 (HMA.out.not_own HX.out (by decide) (by decide)); have HX1 := Lib.hid x1; have x2 := x1.cell 2; simp at x2; have g0 := (HB1.out.cell (World.block_lt_of_cell? W _ G0.out)).trans G0.out; have g1 := (HB1.out.cell (World.block_lt_of_cell? W _ G1.out)).trans G1.out; have g2 := (HB1.out.cell (World.block_lt_of_cell? W _ G2.out)).trans G2.out; have hc := HC.out w1 sv1 HB1.out Q1.out; clear q1 q2 q3 x1))
      | (go_at_call 28; refine hc.mono ?_; rintro e w2 ⟨rfl, R2, sv2, h1, h2, h3, h4⟩; (obtain ⟨p, hp⟩ := map_get (h2 ▸ HP.out : (R2.map (·.1))[R.length]? = some ⟨none, 0, tgt⟩); have hlt : R.length < R2.length := (List.getElem?_eq_some_iff.1 hp).1; obtain ⟨gg, cap, rfl⟩ := own_form h1.row (by omega); have hcap := own_cap h1.row; obtain ⟨cap1, cap2⟩ := hcap; have m0 := h1.blk.cell 0; simp at m0; have m1 := own_cell h1.row (j := R.length * 3 + 1) (u := .int .i64 0) (by rw [stc_get _ _ _ (by omega), hp]; rfl); have m2 := own_frozen h1.row (R.length * 3 + 1); have x3 := HX1.out.kp h4 (Q1.out.not_own HX1.out (by decide) (by decide)); have x4 := (x3.far (p := ⟨gg, R.length * 3 + 1, none⟩) (fun c => own_blk_ne h1.row x3 (by decide) (by rw [c]; rfl)) (.int .i64 BB.2)).cell 0; simp at x4; have HPM := Lib.hid (pm_set h1 hp BB.2); have HMAP : Hid ((R2.set R.length (⟨none, BB.2, tgt⟩, p)).map (·.1) = BB.1.set R.length ⟨none, BB.2, tgt⟩) := (by unfold Hid; rw [List.map_set, h2]); have H3 := Lib.hid h3; have HK : Hid (Kp w (w2.setCell ⟨gg, R.length * 3 + 1, none⟩ (.int .i64 BB.2)) (Own b sv)) := ((((Kp.refl w (Own b sv)).alloc _).trans Q3.out (fun _ _ c => c)).trans h4 (own_back (Q2.out.imp id fun ⟨k, e, hk⟩ => ⟨k, e, Nat.le_trans (by simp) hk⟩))).set_ (p := ⟨gg, R.length * 3 + 1, none⟩) (fun hl => own_back (own_trans (n := w.heap.size) (Q2.out.imp id fun ⟨k, e, hk⟩ => ⟨k, e, Nat.le_trans (by simp) hk⟩) h3 (Nat.le_trans (by simp) Q3.out.size)) _ hl (.inr rfl)) _; clear h1 h2 h3 h4 hp x3)))
    go_ret
    refine ⟨by rw [HR2.out]; rfl, _, _, HPM.out, HMAP.out, own_trans (n := w.heap.size) (Q2.out.imp id fun ⟨k, e, hk⟩ => ⟨k, e, Nat.le_trans (by simp) hk⟩) H3.out (Nat.le_trans (by simp) Q3.out.size), HK.out⟩

/-- At every right tree. -/
theorem build_all (W : World) : ∀ (n : Nat) (x : Nd), sz x ≤ n → rightT x → okT x → BuildOk W x := by
  intro n
  induction n with
  | zero => intro x hx; have := sz_pos x; omega
  | succ n ih =>
    intro x hx hr ho
    obtain ⟨k, rs, kids⟩ := x
    simp only [rightT] at hr
    simp only [okT] at ho
    simp only [sz] at hx
    have hkids : ∀ y, y ∈ kids → BuildOk W y := fun y hy => ih y (by have := szL_mem y hy; omega) (rightL_mem hr.2.2 y hy) (okL_mem ho.2.2 y hy)
    have hk : k = 1 ∨ k = 2 ∨ k = 3 ∨ k = 4 ∨ k = 5 ∨ k = 6 := by have := hr.1; omega
    rcases hk with rfl | rfl | rfl | hk
    · intro A1 A2 c1 c2 hr1 hr2 w b R sv st en stp tgt hb hM hsz
      have := build_set W rs A1 A2 kids.length c1 c2 hr1 ho.2.1 w hb b R sv st en stp hM tgt (by omega)
      have e : re ⟨1, rs, kids⟩ = .set (inR rs) := by simp [re]
      rw [e]
      exact this
    · exact build_cat W rs kids hkids
    · exact build_alt W rs kids hkids
    · cases kids with
      | nil => exact (hr.2.1 (by omega) rfl).elim
      | cons y l =>
        have hy := hkids y List.mem_cons_self
        rcases hk with rfl | rfl | rfl
        · exact build_loop W 4 (.inl rfl) rs y l hy
        · exact build_loop W 5 (.inr rfl) rs y l hy
        · exact build_maybe W rs y l hy

end Go.Proofs.Ytmhodkkfbbpgaaa.Nm
