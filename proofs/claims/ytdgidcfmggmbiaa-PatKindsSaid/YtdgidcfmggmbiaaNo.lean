/- glob.Parse. -/
import Derived.Test.YtdgidcfmggmbiaaNc
import Derived.Test.YtdgidcfmggmbiaaMh
import Derived.Test.YtdgidcfmggmbiaaMg
import Derived.RegionTactic
import Derived.ChangeAlike
namespace Go.Proofs.Ytdgidcfmggmbiaa.Rx
open Go.RowKit Go.Proofs.YtdgidcfmggmbiaaW.PrintWords Go.Proofs.YtdgidcfmggmbiaaW.PrintLast Go.Proofs.YtdgidcfmggmbiaaW.PrintMore Go.Proofs.Ytdgidcfmggmbiaa.PRx
set_option linter.unusedVariables false
set_option linter.unusedSimpArgs false

theorem gone_any (c : Int) (w : World) : Calls Try.prog 27 #[.int .u8 c] w fun e w' => ∃ v, e = .returned v ∧ Tree w' w.heap.size v (oneN c) ∧ Below w.heap.size w w' := by
  refine (glob_one.calls c 1 [⟨c, c⟩] [] w rfl).mono ?_
  rintro e w' ⟨v1, v2, he, h1, h2, hb⟩
  obtain ⟨A1, c1, rfl⟩ := Kd.R_slice h1
  obtain ⟨A2, c2, rfl⟩ := Kd.R_slice h2
  exact ⟨_, he, ⟨A1, _, c1, A2, _, c2, rfl, h1, Kd.R_mono h2 (fun _ _ => trivial)⟩, hb⟩
abbrev zRow : Obj := .cells #[.int .i64 0, .slice none 0 0, .slice none 0 0] 30 (0, 0)
/-- Between two rounds. -/
structure GInv (w : World) (K : List S30) (A : Option Addr) (n c : Nat) (W : World) : Prop where
  cell : W.heap[w.heap.size + 2]? = some (.cells #[.int .i64 2, .slice none 0 0, .slice A n c] 30 (0, 0))
  rk : Kd.R k30 30 W (w.heap.size + 3) (fun _ => True) (.slice A n c) K
  box : W.heap[w.heap.size]? = some zRow
  below : Below w.heap.size w W
/-- Within a round: the node lies in block wi. -/
structure NInv (w : World) (K : List S30) (A : Option Addr) (n c : Nat) (wi : Nat) (W : World) : Prop where
  cell : W.heap[w.heap.size + 2]? = some (.cells #[.int .i64 2, .slice none 0 0, .slice A n c] 30 (0, 0))
  rk : Kd.R k30 30 W (w.heap.size + 3) (fun k => k < wi) (.slice A n c) K
  box : W.heap[w.heap.size]? = some zRow
  below : Below w.heap.size w W
  node : W.heap[wi]? = some zRow
  lt : w.heap.size + 3 ≤ wi
/-- The node has been stored. -/
structure SInv (w : World) (K : List S30) (A : Option Addr) (n c : Nat) (wi : Nat) (t : S30) (A1 : Option Addr) (n1 c1 : Nat) (A2 : Option Addr) (n2 c2 : Nat) (W : World) : Prop where
  cell : W.heap[w.heap.size + 2]? = some (.cells #[.int .i64 2, .slice none 0 0, .slice A n c] 30 (0, 0))
  rk : Kd.R k30 30 W (w.heap.size + 3) (fun k => k < wi) (.slice A n c) K
  box : W.heap[w.heap.size]? = some zRow
  below : Below w.heap.size w W
  node : W.heap[wi]? = some (.cells #[.int .i64 t.f0, .slice A1 n1 c1, .slice A2 n2 c2] 30 (0, 0))
  r1 : Kd.R k98 98 W (wi + 1) (fun _ => True) (.slice A1 n1 c1) t.f1
  r2 : Kd.R k30 30 W (wi + 1) (fun _ => True) (.slice A2 n2 c2) t.f2
  lt : w.heap.size + 3 ≤ wi
section
variable {w W W' : World} {K : List S30} {A A1 A2 : Option Addr} {n c n1 c1 n2 c2 wi : Nat} {t : S30}
theorem GInv.below_keep (h : Below w.heap.size w W) (hk : KeepBut W W' (w.heap.size + 1) none) : Below w.heap.size w W' :=
  ⟨hk.os.trans h.os, hk.tape.trans h.tape, hk.output.trans h.output, Nat.le_trans h.size hk.1, fun k hl => (hk.2 k (Nat.lt_of_lt_of_le hl h.size) (by omega) (by simp)).trans (h.block k hl)⟩
theorem GInv.on (h : GInv w K A n c W) (hk : KeepBut W W' (w.heap.size + 1) none) : GInv w K A n c W' :=
  ⟨blk_kept_ h.cell hk (by omega), R_kept h.rk hk (by omega), blk_kept_ h.box hk (by omega), GInv.below_keep h.below hk⟩
theorem GInv.start (h : GInv w K A n c W) : NInv w K A n c W.heap.size (W.alloc (.cells #[.int .i64 0, .slice none 0 0, .slice none 0 0] 30)) :=
  ⟨blk_alloc h.cell _, Kd.R_alloc (Kd.R_mono (Kd.R_bound h.rk) (fun k hk => hk.2.2.1)) _, blk_alloc h.box _, h.below.alloc h.below.size _, blk_new W _, by have := blk_lt h.cell; omega⟩
theorem NInv.on (h : NInv w K A n c wi W) (hk : KeepBut W W' (w.heap.size + 1) none) : NInv w K A n c wi W' :=
  ⟨blk_kept_ h.cell hk (by omega), R_oldO h.rk (fun k _ h1 h2 => hk.2 k h2 (by omega) (by simp)), blk_kept_ h.box hk (by omega), GInv.below_keep h.below hk, blk_kept_ h.node hk (by have := h.lt; omega), h.lt⟩
theorem NInv.store (h : NInv w K A n c wi W) (ht : Tree W (wi + 1) (.agg #[.int .i64 t.f0, .slice A1 n1 c1, .slice A2 n2 c2]) t) :
    SInv w K A n c wi t A1 n1 c1 A2 n2 c2 (((W.setCell ⟨wi, 0, none⟩ (.int .i64 t.f0)).setCell ⟨wi, 1, none⟩ (.slice A1 n1 c1)).setCell ⟨wi, 2, none⟩ (.slice A2 n2 c2)) := by
  have hl := h.lt
  have hf : ∀ k, k ≠ wi → (((W.setCell ⟨wi, 0, none⟩ (.int .i64 t.f0)).setCell ⟨wi, 1, none⟩ (.slice A1 n1 c1)).setCell ⟨wi, 2, none⟩ (.slice A2 n2 c2)).heap[k]? = W.heap[k]? := fun k hk => by
    rw [Below.heap_setCell _ ⟨wi, 2, none⟩ _ k hk, Below.heap_setCell _ ⟨wi, 1, none⟩ _ k hk, Below.heap_setCell _ ⟨wi, 0, none⟩ _ k hk]
  obtain ⟨B1, m1, d1, B2, m2, d2, he, g1, g2⟩ := ht
  have he2 := congrArg (fun v => match v with | .agg a => a.toList | _ => []) he
  simp only [List.cons.injEq, Value.slice.injEq, true_and, and_true] at he2
  obtain ⟨⟨rfl, rfl, rfl⟩, rfl, rfl, rfl⟩ := he2
  exact ⟨(hf _ (by omega)).trans h.cell, R_oldO h.rk (fun k h1 _ _ => hf k (by omega)), (hf _ (by omega)).trans h.box, below3 h.below (by omega), store3 h.node _ _ _, R_old g1 (fun k h1 _ => hf k (by omega)), R_old g2 (fun k h1 _ => hf k (by omega)), h.lt⟩
/-- The node is appended, and stored. -/
theorem SInv.kid {A7 : Option Addr} {n7 c7 : Nat} {W7 : World} (h : SInv w K A n c wi t A1 n1 c1 A2 n2 c2 W) (hb : Below (w.heap.size + 3) W W7) (hr : Kd.R k30 30 W7 (w.heap.size + 3) (fun _ => True) (.slice A7 n7 c7) (K ++ [t])) :
    GInv w (K ++ [t]) A7 n7 c7 (W7.setCell ⟨w.heap.size + 2, 2, none⟩ (.slice A7 n7 c7)) := by
  have hf : ∀ k, k ≠ w.heap.size + 2 → (W7.setCell ⟨w.heap.size + 2, 2, none⟩ (.slice A7 n7 c7)).heap[k]? = W7.heap[k]? := fun k hk => Below.heap_setCell _ ⟨w.heap.size + 2, 2, none⟩ _ k hk
  refine ⟨?_, R_old hr (fun k h3 h4 => hf k (by omega)), (hf _ (by omega)).trans ((hb.block _ (by omega)).trans h.box), ?_⟩
  · have := blk_set ((hb.block _ (by omega)).trans h.cell) 2 (.slice A7 n7 c7)
    simpa using this
  · exact (h.below.trans (hb.mono (by omega))).setCell (p := ⟨w.heap.size + 2, 2, none⟩) (by show w.heap.size ≤ w.heap.size + 2; omega) _
end
/-- How the reader stands between two rounds. -/
def PMid (w : World) (W : World) (s : ByteArray) (res : R (List S30)) (K : List S30) (m : Nat) : Prop :=
  (∃ r, GAt W (w.heap.size + 1) s r ∧ res = goG m K r ∧ r.length < m ∧ K.length + r.length ≤ 256) ∨ (∃ c k, GBad W (w.heap.size + 1) s c k ∧ res = .err c k ∧ 0 < m)
/-- How it stands behind a part. -/
def PEnd (w : World) (W : World) (s : ByteArray) (res : R (List S30)) (K : List S30) (t : S30) (m l : Nat) : Prop :=
  (∃ r, GAt W (w.heap.size + 1) s r ∧ res = goG m (K ++ [t]) r ∧ r.length < l) ∨ (∃ c k, GBad W (w.heap.size + 1) s c k ∧ res = .err c k)
def globR (s : ByteArray) : R (List S30) := goG ((bI s).length + 1) [] (bI s)
def globT (s : ByteArray) (q : R (List S30)) : S30 × Int × Int := match q with | .ok K _ => (catN K, 0, 0) | .err c k => (z30, c, (s.size : Int) - (k : Int))
theorem globP_small {s : ByteArray} (hs : s.size ≤ 256) : globP (bI s) = globT s (globR s) := by
  unfold globP globR globT
  rw [if_neg (by rw [bI_len]; omega), bI_len]
  cases goG (s.size + 1) [] (bI s) <;> rfl
/-- The world in which glob's reading begins. -/
def gw3 (w : World) (s : ByteArray) : World := ((w.alloc (.cells #[.int .i64 0, .slice none 0 0, .slice none 0 0] 30)).alloc (.cells #[.string s, .int .i64 0, .int .i64 0, .int .i64 0] 67)).alloc (.cells #[.int .i64 2, .slice none 0 0, .slice none 0 0] 30)
theorem gw3_inv (w : World) (s : ByteArray) : GInv w [] none 0 0 (gw3 w s) := by
  have a := blk_new w (.cells #[.int .i64 0, .slice none 0 0, .slice none 0 0] 30)
  have c := blk_new ((w.alloc (.cells #[.int .i64 0, .slice none 0 0, .slice none 0 0] 30)).alloc (.cells #[.string s, .int .i64 0, .int .i64 0, .int .i64 0] 67)) (.cells #[.int .i64 2, .slice none 0 0, .slice none 0 0] 30)
  rw [al_size, al_size] at c
  exact ⟨c, Kd.R_nil _ _ _ _ _, blk_alloc (blk_alloc a _) _, (((Below.refl w.heap.size w).alloc (Nat.le_refl _) _).alloc (by rw [al_size]; omega) _).alloc (by rw [al_size, al_size]; omega) _⟩
theorem gw3_at (w : World) (s : ByteArray) (hs : s.size ≤ 256) : GAt (gw3 w s) (w.heap.size + 1) s (bI s) := by
  have b := blk_new (w.alloc (.cells #[.int .i64 0, .slice none 0 0, .slice none 0 0] 30)) (.cells #[.string s, .int .i64 0, .int .i64 0, .int .i64 0] 67)
  rw [al_size] at b
  exact ⟨⟨0, blk_alloc b _, by omega, by rw [bI_len]; omega, rfl⟩, hs⟩
theorem tree_new {W : World} {B : Nat} {v : Value} {t : S30} (h : Tree W B v t) : ∃ A1 n1 c1 A2 n2 c2, v = .agg #[.int .i64 t.f0, .slice A1 n1 c1, .slice A2 n2 c2] ∧ Tree W B (.agg #[.int .i64 t.f0, .slice A1 n1 c1, .slice A2 n2 c2]) t := by
  obtain ⟨A1, n1, c1, A2, n2, c2, rfl, h1, h2⟩ := h
  exact ⟨A1, n1, c1, A2, n2, c2, rfl, A1, n1, c1, A2, n2, c2, rfl, h1, h2⟩
set_option maxHeartbeats 8000000 in
set_option maxRecDepth 100000 in
theorem gparse_small {w : World} {s : ByteArray} (hs : s.size ≤ 256) : Calls Try.prog 14 #[.string s] w (PRes w (globP (bI s))) := by
  rw [globP_small hs]
  obtain ⟨res, hres⟩ : ∃ q, q = globR s := ⟨_, rfl⟩
  rw [← hres]
  have HRES := Lib.hid hres
  have hs' : (s.size : Int) ≤ 256 := by omega
  have HSM := Lib.hid hs
  clear hres hs
  go_enter Try.func14, Try.ntmps14
  go_wp2_with fail
  go_loopg [7] (s.size + 1) (fun kq v7 wr => ∃ K A n c, Hid (GInv w K A n c wr) ∧ Hid (PMid w wr s res K kq))
  case atStart => exact ⟨[], none, 0, 0, Lib.hid (gw3_inv w s), Lib.hid (.inl ⟨bI s, gw3_at w s HSM.out, by rw [HRES.out, globR, bI_len], by rw [bI_len]; omega, by rw [bI_len]; have := HSM.out; simp; omega⟩)⟩
  case round =>
    obtain ⟨K, A, n, c, HG, HP⟩ := hrel
    have HZ : Hid (w.heap.size < wr.heap.size) := Lib.hid (by have := blk_lt HG.out.cell; omega)
    rcases HP.out with ⟨r, ha, he, hl, hn⟩ | ⟨ce, ke, hb, he, hp⟩
    · have HA := Lib.hid ha
      have HE := Lib.hid he
      have HL := Lib.hid hl
      have HN := Lib.hid hn
      have HOV := Lib.hid (gover_at ha)
      clear ha he hl hn HP
      cases r with
      | nil =>
        have HEQ : Hid (res = .ok K []) := Lib.hid (by rw [HE.out]; cases gk with | zero => have := HL.out; omega | succ gk => rfl)
        obtain ⟨i, f0, f1, f2, f3, h1, h2, h3⟩ := HA.out.facts
        have y1 := HG.out.cell
        have y2 := HG.out.box
        have g0 := blk_cell y1 0; have g1 := blk_cell y1 1; have g2 := blk_cell y1 2
        have g3 := blk_cell y2 0; have g4 := blk_cell y2 1; have g5 := blk_cell y2 2; have g6 := blk_frozen y2 0; have g7 := blk_frozen y2 1; have g8 := blk_frozen y2 2
        simp only [List.getElem?_toArray, List.getElem?_cons_zero, List.getElem?_cons_succ] at g0 g1 g2 g3 g4 g5
        clear y1 y2 h1 h2 h3
        go_wp2_with (first | (go_at_call 25; refine HOV.out.mono ?_; rintro e wq ⟨rfl, q, rfl⟩))
        have hg := store3 (w := wr.drewN q) HG.out.box (.int .i64 2) (.slice none 0 0) (.slice A n c)
        have h0 := blk_cell hg 0; have h1 := blk_cell hg 1; have h2 := blk_cell hg 2
        simp only [List.getElem?_toArray, List.getElem?_cons_zero, List.getElem?_cons_succ] at h0 h1 h2
        refine bodyPost_ret (v := .tuple #[.agg #[.int .i64 2, .slice none 0 0, .slice A n c], .int .i64 0, .int .i64 0]) (by simp [results, Try.results14, go_sem, h0, h1, h2]) rfl ?_
        rw [HEQ.out]
        exact ⟨_, rfl, ⟨none, 0, 0, A, n, c, rfl, Kd.R_nil _ _ _ _ _, far3 (w := wr.drewN q) (Kd.R_drewN HG.out.rk _) (by omega) (by omega)⟩, below3 (below_drewN HG.out.below q) (Nat.le_refl _)⟩
      | cons c0 r =>
        have HSTEP : Hid (res = (partG (c0 :: r)).bind fun t r1 => goG (gk - 1) (K ++ [t]) r1) := Lib.hid (by rw [HE.out]; cases gk with | zero => have := HL.out; omega | succ gk => rw [goG, if_neg (by simp)]; rfl)
        have HB := Lib.hid (byte_any (HA.out.drewN 0))
        have HBY : Hid (∀ q, Calls Try.prog 26 #[.pointer (some ⟨w.heap.size + 1, 0, none⟩)] ((wr.drewN q).alloc (.cells #[.int .i64 0, .slice none 0 0, .slice none 0 0] 30)) (BRes ((wr.drewN q).alloc (.cells #[.int .i64 0, .slice none 0 0, .slice none 0 0] 30)) (w.heap.size + 1) s (itemG (c0 :: r)))) := Lib.hid fun q => byte_any (HA.out.drewN q).moved
        have HNQ : Hid (∀ q, NInv w K A n c wr.heap.size ((wr.drewN q).alloc (.cells #[.int .i64 0, .slice none 0 0, .slice none 0 0] 30))) := Lib.hid fun q => (HG.out.on (keep_drewN (KeepBut.refl wr (w.heap.size + 1) none) q)).start
        have HRR := Lib.hid (HA.out.rng)
        clear HE HB
        cases hq : itemG (c0 :: r) with
        | err ce ke =>
          rw [hq] at HBY
          have HEQ : Hid (res = .err ce ke) := Lib.hid (by rw [HSTEP.out, partG, hq]; rfl)
          clear hq
          go_upto_block 2 with (first | (go_at_call 25; refine HOV.out.mono ?_; rintro e wq ⟨rfl, q, rfl⟩) | (go_at_call 26; refine (HBY.out _).mono ?_; rintro e w5 ⟨b5, rfl, hk, ha⟩; (have HNI := Lib.hid ((HNQ.out _).on hk); have HA5 := Lib.hid ha; clear hk ha)))
          obtain ⟨wi, hwi⟩ : ∃ x, x = wr.heap.size := ⟨_, rfl⟩
          rw [← hwi] at HNI ⊢
          have HLT5 : Hid (wi + 1 ≤ w5.heap.size) := Lib.hid (blk_lt HNI.out.node)
          clear hwi
          go_cut [8] from 18 to 54 (fun s8 wc => ∃ t A1 n1 c1 A2 n2 c2, Hid (SInv w K A n c wi t A1 n1 c1 A2 n2 c2 wc) ∧ Hid (PEnd w wc s res K t (gk - 1) (r.length + 1)))
          case first =>
            cases b5 with
            | true =>
              go_wp2_with (first | (go_at_call 27; refine (gone_any _ _).mono ?_; rintro e w6 ⟨v6, rfl, ht, hb⟩; (obtain ⟨A1, n1, c1, A2, n2, c2, rfl, ht⟩ := tree_new ht); have HT := Lib.hid ht; have HB6 := Lib.hid hb; have y6 := blk_below HNI.out.node hb; have f0 := blk_cell y6 0; have f1 := blk_cell y6 1; have f2 := blk_cell y6 2; have f3 := blk_frozen y6 0; have f4 := blk_frozen y6 1; have f5 := blk_frozen y6 2; (simp only [List.getElem?_toArray, List.getElem?_cons_zero, List.getElem?_cons_succ] at f0 f1 f2); clear y6 ht hb))
              go_meet
              exact ⟨oneN 0, A1, n1, c1, A2, n2, c2, Lib.hid ((HNI.out.on (KeepBut.of_below HB6.out (w.heap.size + 1) none)).store (HT.out.lower HLT5.out)), Lib.hid (.inr ⟨ce, ke, (HA5.out.below HB6.out).far3 (by have := HNI.out.lt; omega), HEQ.out⟩)⟩
            | false =>
              go_wp2_with (first | (go_at_call 27; refine (gone_any _ _).mono ?_; rintro e w6 ⟨v6, rfl, ht, hb⟩; (obtain ⟨A1, n1, c1, A2, n2, c2, rfl, ht⟩ := tree_new ht); have HT := Lib.hid ht; have HB6 := Lib.hid hb; have y6 := blk_below HNI.out.node hb; have f0 := blk_cell y6 0; have f1 := blk_cell y6 1; have f2 := blk_cell y6 2; have f3 := blk_frozen y6 0; have f4 := blk_frozen y6 1; have f5 := blk_frozen y6 2; (simp only [List.getElem?_toArray, List.getElem?_cons_zero, List.getElem?_cons_succ] at f0 f1 f2); clear y6 ht hb))
              go_meet
              exact ⟨oneN 0, A1, n1, c1, A2, n2, c2, Lib.hid ((HNI.out.on (KeepBut.of_below HB6.out (w.heap.size + 1) none)).store (HT.out.lower HLT5.out)), Lib.hid (.inr ⟨ce, ke, (HA5.out.below HB6.out).far3 (by have := HNI.out.lt; omega), HEQ.out⟩)⟩
          case rest =>
            obtain ⟨t, A1, n1, c1, A2, n2, c2, HS, HPE⟩ := hcut
            have y1 := HS.out.cell
            have y2 := HS.out.node
            have g0 := blk_cell y1 0; have g1 := blk_cell y1 1; have g2 := blk_cell y1 2
            have f0 := blk_cell y2 0; have f1 := blk_cell y2 1; have f2 := blk_cell y2 2
            simp only [List.getElem?_toArray, List.getElem?_cons_zero, List.getElem?_cons_succ] at g0 g1 g2 f0 f1 f2
            clear y1 y2
            have HKL : Hid (K.length ≤ 256) := Lib.hid (by have := HN.out; omega)
            have HLN : Hid ((K.length + 1) * 56 ≤ 140737488355328) := Lib.hid (by have := HKL.out; omega)
            have HOK : Hid (∀ k, wi + 1 ≤ k → True ∧ some k ≠ (Value.slice A n c).ownBlock) := Lib.hid (fun k hk => ⟨trivial, fun he => by have := HS.out.rk.1 k he.symm; omega⟩)
            have HLT : Hid (w.heap.size + 3 ≤ wi + 1) := Lib.hid (by have := HS.out.lt; omega)
            have HS0 : Hid (w.heap.size + 3 ≤ wc.heap.size) := Lib.hid (by have := blk_lt HS.out.node; have := HS.out.lt; omega)
            go_wp2_with (first | ((with_reducible refine gate_builtin (b := .append) (xs := #[.tmp 50, .tmp 52]) rfl ?_); at_builtin; go_loud (refine Kd.R_append k30 (w0 := wc) (w.heap.size + 3) rfl (.tmp 50) (.tmp 52) 28 30 _ 56 rfl Try.underlying28 info30 rfl (by decide) (by omega) (.slice A n c) K t [.int .i64 t.f0, .slice A1 n1 c1, .slice A2 n2 c2] (fun _ => True) (fun k => wi + 1 ≤ k) rfl rfl ?aP HOK.out ?aF ?aO ?aB ?aS ?aL ?_; (case aP => exact kid_M (t := t) HS.out.r1 HS.out.r2 HLT.out); (case aF => exact fun _ _ => trivial); (case aO => exact Kd.R_mono HS.out.rk (fun _ _ => trivial)); (case aB => exact Below.refl _ _); (case aS => exact HS0.out); (case aL => exact HLN.out); intro v9 w9 hr9 hb9 _ _; (obtain ⟨A9, n9, c9, rfl⟩ : ∃ A n c, v9 = .slice A n c := by obtain ⟨A, c, e⟩ := Kd.R_slice hr9; exact ⟨A, _, c, e⟩); have HG9 := Lib.hid (HS.out.kid hb9 hr9); have HB9 := Lib.hid hb9; (have y9 := (hb9.block _ (Nat.lt_succ_self _)).trans HS.out.cell); (have q2 := blk_cell y9 2); (have q3 := blk_frozen y9 2); (simp only [List.getElem?_toArray, List.getElem?_cons_zero, List.getElem?_cons_succ] at q2); clear y9 hr9 hb9)))
            have HRD : Hid (PMid w (w9.setCell ⟨w.heap.size + 2, 2, none⟩ (.slice A9 n9 c9)) s res (K ++ [t]) (gk - 1)) := by
              refine Lib.hid ?_
              have := HL.out
              have := HN.out
              simp only [List.length_cons] at *
              rcases HPE.out with ⟨r5, p1, p2, p3⟩ | ⟨c5, k5, p1, p2⟩
              · exact .inl ⟨r5, (p1.belowB HB9.out (by omega)).far (p := ⟨w.heap.size + 2, 2, none⟩) (by show w.heap.size + 1 ≠ w.heap.size + 2; omega) _, p2, by omega, by simp only [List.length_append, List.length_cons, List.length_nil]; omega⟩
              · exact .inr ⟨c5, k5, (p1.belowB HB9.out (by omega)).far (p := ⟨w.heap.size + 2, 2, none⟩) (by show w.heap.size + 1 ≠ w.heap.size + 2; omega) _, p2, by omega⟩
            go_roundg (gk - 1)
            case measure => have := HL.out; omega
            case rel => exact ⟨K ++ [t], A9, n9, c9, HG9, HRD⟩
        | ok qv r1 =>
          obtain ⟨lo, qd⟩ := qv
          rw [hq] at HBY
          have HSH := Lib.hid (itemG_shrinks hq)
          have HLO := Lib.hid (itemG_rng HRR.out hq)
          have HST1 : Hid (res = (((if qd = true then R.ok (oneN lo) r1 else if lo = 63 then .ok anyN r1 else if lo = 42 then .ok ⟨4, [], [anyN]⟩ r1 else if lo = 91 then classG r1 else .ok (oneN lo) r1) : R S30).bind fun t r1 => goG (gk - 1) (K ++ [t]) r1)) := Lib.hid (by rw [HSTEP.out, partG, hq]; rfl)
          clear hq
          go_upto_block 2 with (first | (go_at_call 25; refine HOV.out.mono ?_; rintro e wq ⟨rfl, q, rfl⟩) | (go_at_call 26; refine (HBY.out _).mono ?_; rintro e w5 ⟨rfl, hk, ha⟩; (have HNI := Lib.hid ((HNQ.out _).on hk); have HA5 := Lib.hid ha; clear hk ha)))
          obtain ⟨wi, hwi⟩ : ∃ x, x = wr.heap.size := ⟨_, rfl⟩
          rw [← hwi] at HNI ⊢
          have HLT5 : Hid (wi + 1 ≤ w5.heap.size) := Lib.hid (blk_lt HNI.out.node)
          clear hwi
          go_cut [8] from 18 to 54 (fun s8 wc => ∃ t A1 n1 c1 A2 n2 c2, Hid (SInv w K A n c wi t A1 n1 c1 A2 n2 c2 wc) ∧ Hid (PEnd w wc s res K t (gk - 1) (r.length + 1)))
          case first =>
            cases qd with
            | true =>
              have HEQ : Hid (res = goG (gk - 1) (K ++ [oneN lo]) r1) := Lib.hid (by rw [HST1.out, if_pos rfl]; rfl)
              go_wp2_with (first | (go_at_call 27; refine (gone_any _ _).mono ?_; rintro e w6 ⟨v6, rfl, ht, hb⟩; (obtain ⟨A1, n1, c1, A2, n2, c2, rfl, ht⟩ := tree_new ht); have HT := Lib.hid ht; have HB6 := Lib.hid hb; have y6 := blk_below HNI.out.node hb; have f0 := blk_cell y6 0; have f1 := blk_cell y6 1; have f2 := blk_cell y6 2; have f3 := blk_frozen y6 0; have f4 := blk_frozen y6 1; have f5 := blk_frozen y6 2; (simp only [List.getElem?_toArray, List.getElem?_cons_zero, List.getElem?_cons_succ] at f0 f1 f2); clear y6 ht hb))
              go_meet
              exact ⟨oneN lo, A1, n1, c1, A2, n2, c2, Lib.hid ((HNI.out.on (KeepBut.of_below HB6.out (w.heap.size + 1) none)).store (HT.out.lower HLT5.out)), Lib.hid (.inl ⟨r1, (HA5.out.below HB6.out).far3 (by have := HNI.out.lt; omega), HEQ.out, HSH.out⟩)⟩
            | false =>
              have HST2 : Hid (res = (((if lo = 63 then R.ok anyN r1 else if lo = 42 then .ok ⟨4, [], [anyN]⟩ r1 else if lo = 91 then classG r1 else .ok (oneN lo) r1) : R S30).bind fun t r1 => goG (gk - 1) (K ++ [t]) r1)) := Lib.hid (by rw [HST1.out, if_neg (by decide)])
              clear HST1
              by_cases h63 : lo = 63
              · subst h63
                have HEQ : Hid (res = goG (gk - 1) (K ++ [anyN]) r1) := Lib.hid (by rw [HST2.out, if_pos rfl]; rfl)
                go_wp2_with (first | (go_at_call 28; refine (glob_anything.calls [⟨0, 255⟩] _ rfl).mono ?_; rintro e w6 ⟨v6, rfl, hr, hb⟩; (obtain ⟨A1, n1, c1, rfl⟩ : ∃ A n c, v6 = .slice A n c := by obtain ⟨A, c, e⟩ := Kd.R_slice hr; exact ⟨A, _, c, e⟩); have HT : Hid (Tree w6 w5.heap.size (.agg #[.int .i64 1, .slice A1 n1 c1, .slice none 0 0]) anyN) := Lib.hid ⟨A1, n1, c1, none, 0, 0, rfl, hr, Kd.R_nil _ _ _ _ _⟩; have HB6 := Lib.hid hb; have y6 := blk_below HNI.out.node hb; have f0 := blk_cell y6 0; have f1 := blk_cell y6 1; have f2 := blk_cell y6 2; have f3 := blk_frozen y6 0; have f4 := blk_frozen y6 1; have f5 := blk_frozen y6 2; (simp only [List.getElem?_toArray, List.getElem?_cons_zero, List.getElem?_cons_succ] at f0 f1 f2); clear y6 hr hb))
                go_meet
                exact ⟨anyN, A1, n1, c1, none, 0, 0, Lib.hid ((HNI.out.on (KeepBut.of_below HB6.out (w.heap.size + 1) none)).store (HT.out.lower HLT5.out)), Lib.hid (.inl ⟨r1, (HA5.out.below HB6.out).far3 (by have := HNI.out.lt; omega), HEQ.out, HSH.out⟩)⟩
              · have e63 : (lo == 63) = false := by simpa using h63
                by_cases h42 : lo = 42
                · subst h42
                  have HEQ : Hid (res = goG (gk - 1) (K ++ [⟨4, [], [anyN]⟩]) r1) := Lib.hid (by rw [HST2.out, if_neg h63, if_pos rfl]; rfl)
                  clear h63
                  go_wp2_with (first
                      | (go_at_call 28; refine (glob_anything.calls [⟨0, 255⟩] _ rfl).mono ?_; rintro e w7 ⟨v6, rfl, hr, hb⟩; (obtain ⟨A7, n7, c7, rfl⟩ : ∃ A n c, v6 = .slice A n c := by obtain ⟨A, c, e⟩ := Kd.R_slice hr; exact ⟨A, _, c, e⟩); have HR7 := Lib.hid hr; have HB7 := Lib.hid hb; clear hr hb)
                      | ((with_reducible refine gate_dst (N := 42) rfl ?_); go_loud (refine Kd.R_lit k30 (w0 := w5) w5.heap.size 30 ?hg (N := 42) ?hd (xs := [anyN]) (inner := [.int .i64 1, .slice A7 n7 c7, .slice none 0 0]) (ok := fun _ => True) (okp := fun _ => True) ?hr ?hp (fun _ _ => trivial) trivial HB7.out HB7.out.size (by simp) ?_; (case hd => rfl); (case hg => rfl); (case hr => first | (go_simp; done) | (go_simp; rfl)); (case hp => exact Reps.c3 (k30_mkM _ _ _ anyN HR7.out (Kd.R_nil _ _ _ _ _)) (Reps.none _ _)); intro v8 w6 hr hb _ _; (obtain ⟨A2, n2, c2, rfl⟩ : ∃ A n c, v8 = .slice A n c := by obtain ⟨A, c, e⟩ := Kd.R_slice hr; exact ⟨A, _, c, e⟩); have HT : Hid (Tree w6 w5.heap.size (.agg #[.int .i64 4, .slice none 0 0, .slice A2 n2 c2]) ⟨4, [], [anyN]⟩) := Lib.hid ⟨none, 0, 0, A2, n2, c2, rfl, Kd.R_nil _ _ _ _ _, hr⟩; have HB6 := Lib.hid hb; have y6 := blk_below HNI.out.node hb; have f0 := blk_cell y6 0; have f1 := blk_cell y6 1; have f2 := blk_cell y6 2; have f3 := blk_frozen y6 0; have f4 := blk_frozen y6 1; have f5 := blk_frozen y6 2; (simp only [List.getElem?_toArray, List.getElem?_cons_zero, List.getElem?_cons_succ] at f0 f1 f2); clear y6 hr hb)))
                  go_meet
                  exact ⟨⟨4, [], [anyN]⟩, none, 0, 0, A2, n2, c2, Lib.hid ((HNI.out.on (KeepBut.of_below HB6.out (w.heap.size + 1) none)).store (HT.out.lower HLT5.out)), Lib.hid (.inl ⟨r1, (HA5.out.below HB6.out).far3 (by have := HNI.out.lt; omega), HEQ.out, HSH.out⟩)⟩
                · have e42 : (lo == 42) = false := by simpa using h42
                  by_cases h91 : lo = 91
                  · subst h91
                    have HST3 : Hid (res = (classG r1).bind fun t r1 => goG (gk - 1) (K ++ [t]) r1) := Lib.hid (by rw [HST2.out, if_neg h63, if_neg h42, if_pos rfl])
                    have HCL := Lib.hid (gclass_any HA5.out)
                    clear h63 h42
                    cases hc : classG r1 with
                    | err cc kc =>
                      rw [hc] at HCL
                      have HEQ : Hid (res = .err cc kc) := Lib.hid (by rw [HST3.out, hc]; rfl)
                      clear hc
                      go_wp2_with (first | (go_at_call 29; refine HCL.out.mono ?_; rintro e w6 ⟨v6, t6, rfl, ht, hk, ha⟩; (obtain ⟨A1, n1, c1, A2, n2, c2, rfl, ht⟩ := tree_new ht); have HT := Lib.hid ht; have HK6 := Lib.hid hk; have HA6 := Lib.hid ha; have y6 := blk_kept_ HNI.out.node hk (by have := HNI.out.lt; omega); have f0 := blk_cell y6 0; have f1 := blk_cell y6 1; have f2 := blk_cell y6 2; have f3 := blk_frozen y6 0; have f4 := blk_frozen y6 1; have f5 := blk_frozen y6 2; (simp only [List.getElem?_toArray, List.getElem?_cons_zero, List.getElem?_cons_succ] at f0 f1 f2); clear y6 ht hk ha))
                      go_meet
                      exact ⟨t6, A1, n1, c1, A2, n2, c2, Lib.hid ((HNI.out.on HK6.out).store (HT.out.lower HLT5.out)), Lib.hid (.inr ⟨cc, kc, HA6.out.far3 (by have := HNI.out.lt; omega), HEQ.out⟩)⟩
                    | ok tc rc =>
                      have HSH2 := Lib.hid (classG_shrinks hc)
                      rw [hc] at HCL
                      have HEQ : Hid (res = goG (gk - 1) (K ++ [tc]) rc) := Lib.hid (by rw [HST3.out, hc]; rfl)
                      clear hc
                      go_wp2_with (first | (go_at_call 29; refine HCL.out.mono ?_; rintro e w6 ⟨v6, rfl, ht, hk, ha⟩; (obtain ⟨A1, n1, c1, A2, n2, c2, rfl, ht⟩ := tree_new ht); have HT := Lib.hid ht; have HK6 := Lib.hid hk; have HA6 := Lib.hid ha; have y6 := blk_kept_ HNI.out.node hk (by have := HNI.out.lt; omega); have f0 := blk_cell y6 0; have f1 := blk_cell y6 1; have f2 := blk_cell y6 2; have f3 := blk_frozen y6 0; have f4 := blk_frozen y6 1; have f5 := blk_frozen y6 2; (simp only [List.getElem?_toArray, List.getElem?_cons_zero, List.getElem?_cons_succ] at f0 f1 f2); clear y6 ht hk ha))
                      go_meet
                      exact ⟨tc, A1, n1, c1, A2, n2, c2, Lib.hid ((HNI.out.on HK6.out).store (HT.out.lower HLT5.out)), Lib.hid (.inl ⟨rc, HA6.out.far3 (by have := HNI.out.lt; omega), HEQ.out, by have := HSH.out; have := HSH2.out; simp only [List.length_cons] at *; omega⟩)⟩
                  · have e91 : (lo == 91) = false := by simpa using h91
                    have HEQ : Hid (res = goG (gk - 1) (K ++ [oneN lo]) r1) := Lib.hid (by rw [HST2.out, if_neg h63, if_neg h42, if_neg h91]; rfl)
                    clear h63 h42 h91
                    go_wp2_with (first | (go_at_call 27; refine (gone_any _ _).mono ?_; rintro e w6 ⟨v6, rfl, ht, hb⟩; (obtain ⟨A1, n1, c1, A2, n2, c2, rfl, ht⟩ := tree_new ht); have HT := Lib.hid ht; have HB6 := Lib.hid hb; have y6 := blk_below HNI.out.node hb; have f0 := blk_cell y6 0; have f1 := blk_cell y6 1; have f2 := blk_cell y6 2; have f3 := blk_frozen y6 0; have f4 := blk_frozen y6 1; have f5 := blk_frozen y6 2; (simp only [List.getElem?_toArray, List.getElem?_cons_zero, List.getElem?_cons_succ] at f0 f1 f2); clear y6 ht hb))
                    go_meet
                    exact ⟨oneN lo, A1, n1, c1, A2, n2, c2, Lib.hid ((HNI.out.on (KeepBut.of_below HB6.out (w.heap.size + 1) none)).store (HT.out.lower HLT5.out)), Lib.hid (.inl ⟨r1, (HA5.out.below HB6.out).far3 (by have := HNI.out.lt; omega), HEQ.out, HSH.out⟩)⟩
          case rest =>
            obtain ⟨t, A1, n1, c1, A2, n2, c2, HS, HPE⟩ := hcut
            have y1 := HS.out.cell
            have y2 := HS.out.node
            have g0 := blk_cell y1 0; have g1 := blk_cell y1 1; have g2 := blk_cell y1 2
            have f0 := blk_cell y2 0; have f1 := blk_cell y2 1; have f2 := blk_cell y2 2
            simp only [List.getElem?_toArray, List.getElem?_cons_zero, List.getElem?_cons_succ] at g0 g1 g2 f0 f1 f2
            clear y1 y2
            have HKL : Hid (K.length ≤ 256) := Lib.hid (by have := HN.out; omega)
            have HLN : Hid ((K.length + 1) * 56 ≤ 140737488355328) := Lib.hid (by have := HKL.out; omega)
            have HOK : Hid (∀ k, wi + 1 ≤ k → True ∧ some k ≠ (Value.slice A n c).ownBlock) := Lib.hid (fun k hk => ⟨trivial, fun he => by have := HS.out.rk.1 k he.symm; omega⟩)
            have HLT : Hid (w.heap.size + 3 ≤ wi + 1) := Lib.hid (by have := HS.out.lt; omega)
            have HS0 : Hid (w.heap.size + 3 ≤ wc.heap.size) := Lib.hid (by have := blk_lt HS.out.node; have := HS.out.lt; omega)
            go_wp2_with (first | ((with_reducible refine gate_builtin (b := .append) (xs := #[.tmp 50, .tmp 52]) rfl ?_); at_builtin; go_loud (refine Kd.R_append k30 (w0 := wc) (w.heap.size + 3) rfl (.tmp 50) (.tmp 52) 28 30 _ 56 rfl Try.underlying28 info30 rfl (by decide) (by omega) (.slice A n c) K t [.int .i64 t.f0, .slice A1 n1 c1, .slice A2 n2 c2] (fun _ => True) (fun k => wi + 1 ≤ k) rfl rfl ?aP HOK.out ?aF ?aO ?aB ?aS ?aL ?_; (case aP => exact kid_M (t := t) HS.out.r1 HS.out.r2 HLT.out); (case aF => exact fun _ _ => trivial); (case aO => exact Kd.R_mono HS.out.rk (fun _ _ => trivial)); (case aB => exact Below.refl _ _); (case aS => exact HS0.out); (case aL => exact HLN.out); intro v9 w9 hr9 hb9 _ _; (obtain ⟨A9, n9, c9, rfl⟩ : ∃ A n c, v9 = .slice A n c := by obtain ⟨A, c, e⟩ := Kd.R_slice hr9; exact ⟨A, _, c, e⟩); have HG9 := Lib.hid (HS.out.kid hb9 hr9); have HB9 := Lib.hid hb9; (have y9 := (hb9.block _ (Nat.lt_succ_self _)).trans HS.out.cell); (have q2 := blk_cell y9 2); (have q3 := blk_frozen y9 2); (simp only [List.getElem?_toArray, List.getElem?_cons_zero, List.getElem?_cons_succ] at q2); clear y9 hr9 hb9)))
            have HRD : Hid (PMid w (w9.setCell ⟨w.heap.size + 2, 2, none⟩ (.slice A9 n9 c9)) s res (K ++ [t]) (gk - 1)) := by
              refine Lib.hid ?_
              have := HL.out
              have := HN.out
              simp only [List.length_cons] at *
              rcases HPE.out with ⟨r5, p1, p2, p3⟩ | ⟨c5, k5, p1, p2⟩
              · exact .inl ⟨r5, (p1.belowB HB9.out (by omega)).far (p := ⟨w.heap.size + 2, 2, none⟩) (by show w.heap.size + 1 ≠ w.heap.size + 2; omega) _, p2, by omega, by simp only [List.length_append, List.length_cons, List.length_nil]; omega⟩
              · exact .inr ⟨c5, k5, (p1.belowB HB9.out (by omega)).far (p := ⟨w.heap.size + 2, 2, none⟩) (by show w.heap.size + 1 ≠ w.heap.size + 2; omega) _, p2, by omega⟩
            go_roundg (gk - 1)
            case measure => have := HL.out; omega
            case rel => exact ⟨K ++ [t], A9, n9, c9, HG9, HRD⟩
    · have HB := Lib.hid hb
      have HEQ := Lib.hid he
      have HOV := Lib.hid (gover_bad hb)
      obtain ⟨f0, f1, f2, f3, f4, f5⟩ := HB.out.facts
      have pne : (ce != 0) = true := bne_iff_ne.mpr HB.out.ne
      have y2 := HG.out.box
      have g3 := blk_cell y2 0; have g4 := blk_cell y2 1; have g5 := blk_cell y2 2; have g6 := blk_frozen y2 0; have g7 := blk_frozen y2 1; have g8 := blk_frozen y2 2
      simp only [List.getElem?_toArray, List.getElem?_cons_zero, List.getElem?_cons_succ] at g3 g4 g5
      clear hb he hp f5 y2 HP
      go_wp2_with (first | (go_at_call 25; refine HOV.out.mono ?_; rintro e wq ⟨rfl, q, rfl⟩))
      go_region
      all_goals
        go_wp2
        have hg := store3 (w := wr.drewN (q + 1)) HG.out.box (.int .i64 0) (.slice none 0 0) (.slice none 0 0)
        have h0 := blk_cell hg 0; have h1 := blk_cell hg 1; have h2 := blk_cell hg 2
        simp only [List.getElem?_toArray, List.getElem?_cons_zero, List.getElem?_cons_succ] at h0 h1 h2
        refine bodyPost_ret (v := .tuple #[.agg #[.int .i64 0, .slice none 0 0, .slice none 0 0], .int .i64 ce, .int .i64 ((s.size : Int) - (ke : Int))]) (by simp [results, Try.results14, go_sem, h0, h1, h2]) rfl ?_
        rw [HEQ.out]
        exact ⟨_, rfl, tree_zero _ _, below3 (below_drewN HG.out.below (q + 1)) (Nat.le_refl _)⟩
set_option maxHeartbeats 1000000 in
set_option maxRecDepth 100000 in
theorem gparse_long {w : World} {s : ByteArray} (hs : 256 < s.size) (hm : s.size ≤ maxLen) : Calls Try.prog 14 #[.string s] w (PRes w (globP (bI s))) := by
  have HE : Hid (globP (bI s) = (z30, 2, 0)) := Lib.hid (by unfold globP; rw [if_pos (by rw [bI_len]; exact hs)])
  unfold maxLen at hm
  have hs' : (256 : Int) < (s.size : Int) := by omega
  clear hs
  go_enter Try.func14, Try.ntmps14
  go_wp2_with fail
  have hg := store3 (blk_new w (.cells #[.int .i64 0, .slice none 0 0, .slice none 0 0] 30)) (.int .i64 0) (.slice none 0 0) (.slice none 0 0)
  have h0 := blk_cell hg 0; have h1 := blk_cell hg 1; have h2 := blk_cell hg 2
  simp only [List.getElem?_toArray, List.getElem?_cons_zero, List.getElem?_cons_succ] at h0 h1 h2
  refine bodyPost_ret (v := .tuple #[.agg #[.int .i64 0, .slice none 0 0, .slice none 0 0], .int .i64 2, .int .i64 0]) (by simp [results, Try.results14, go_sem]) rfl ?_
  rw [HE.out]
  exact ⟨_, rfl, tree_zero _ _, (Below.refl w.heap.size w).alloc (Nat.le_refl _) _⟩
theorem gparse_any (w : World) (s : ByteArray) (hm : s.size ≤ maxLen) : Calls Try.prog 14 #[.string s] w (PRes w (globP (bI s))) := by
  by_cases h : s.size ≤ 256
  · exact gparse_small h
  · exact gparse_long (by omega) hm
end Go.Proofs.Ytdgidcfmggmbiaa.Rx
