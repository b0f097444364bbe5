/- rex's reader: a piece, if alternations are as said. rex's reader: what an alternation's walk leans on. -/
import Derived.Test.YtdgidcfmggmbiaaNf
import Derived.Deep.RegionHeld3
namespace Go.Proofs.Ytdgidcfmggmbiaa.Rx
open Go.RowKit Go.Proofs.YtdgidcfmggmbiaaW.PrintWords Go.Proofs.YtdgidcfmggmbiaaW.PrintLast Go.Proofs.YtdgidcfmggmbiaaW.PrintMore Go.Proofs.Ytdgidcfmggmbiaa.PRx
set_option linter.unusedVariables false
set_option linter.unusedSimpArgs false

theorem R_oldO {α : Type} {d : Kd α} {e : Nat} {w w' : World} {B : Nat} {ok : Nat → Prop} {v : Value} {xs : List α} (h : Kd.R d e w B ok v xs) (hk : ∀ k, ok k → B ≤ k → k < w.heap.size → w'.heap[k]? = w.heap[k]?) : Kd.R d e w' B ok v xs :=
  Kd.R_mono (Kd.R_move (Kd.R_bound h) (fun k hk1 => hk k hk1.1 hk1.2.1 hk1.2.2.1)) (fun _ h => h.1)
/-- A struct that no row holds is written. -/
theorem far3O {α : Type} {d : Kd α} {e : Nat} {w : World} {B q : Nat} {v : Value} {xs : List α} {u0 u1 u2 : Value} (h : Kd.R d e w B (fun k => k ≠ q) v xs) : Kd.R d e (((w.setCell ⟨q, 0, none⟩ u0).setCell ⟨q, 1, none⟩ u1).setCell ⟨q, 2, none⟩ u2) B (fun k => k ≠ q) v xs := by
  refine R_oldO h fun k h0 h1 _ => ?_
  rw [Below.heap_setCell _ ⟨q, 2, none⟩ u2 k h0, Below.heap_setCell _ ⟨q, 1, none⟩ u1 k h0, Below.heap_setCell _ ⟨q, 0, none⟩ u0 k h0]
/-- The node that is being made lies in block q. -/
structure PInv (w : World) (g : Nat) (s : ByteArray) (q : Nat) (t : S30) (r : List Int) (A1 : Option Addr) (n1 c1 : Nat) (A2 : Option Addr) (n2 c2 : Nat) (W : World) : Prop where
  cell : W.heap[q]? = some (.cells #[.int .i64 t.f0, .slice A1 n1 c1, .slice A2 n2 c2] 30 (0, 0))
  r1 : Kd.R k98 98 W (w.heap.size + 1) (fun k => k ≠ q) (.slice A1 n1 c1) t.f1
  r2 : Kd.R k30 30 W (w.heap.size + 1) (fun k => k ≠ q) (.slice A2 n2 c2) t.f2
  at_ : At W g s r
  keep : KeepBut (w.alloc (.cells #[.int .i64 0, .slice none 0 0, .slice none 0 0] 30)) W g none
  lt : w.heap.size < q
  gl : g < w.heap.size
theorem PInv.on {w : World} {g : Nat} {s : ByteArray} {q : Nat} {t : S30} {r r' : List Int} {A1 : Option Addr} {n1 c1 : Nat} {A2 : Option Addr} {n2 c2 : Nat} {W W' : World} (h : PInv w g s q t r A1 n1 c1 A2 n2 c2 W) (hk : KeepBut W W' g none) (ha : At W' g s r') : PInv w g s q t r' A1 n1 c1 A2 n2 c2 W' := by
  have := h.gl
  have := h.lt
  exact ⟨blk_kept_ h.cell hk (by omega), R_oldO h.r1 (fun k _ h1 h2 => hk.2 k h2 (by omega) (by simp)), R_oldO h.r2 (fun k _ h1 h2 => hk.2 k h2 (by omega) (by simp)), ha, h.keep.trans hk (.inl rfl), h.lt, h.gl⟩
theorem PInv.start {w w2 : World} {g : Nat} {s : ByteArray} {t : S30} {r : List Int} {A1 : Option Addr} {n1 c1 : Nat} {A2 : Option Addr} {n2 c2 : Nat} (hgl : g < w.heap.size) (h1 : Kd.R k98 98 w2 (w.alloc (.cells #[.int .i64 0, .slice none 0 0, .slice none 0 0] 30)).heap.size (fun _ => True) (.slice A1 n1 c1) t.f1) (h2 : Kd.R k30 30 w2 (w.alloc (.cells #[.int .i64 0, .slice none 0 0, .slice none 0 0] 30)).heap.size (fun _ => True) (.slice A2 n2 c2) t.f2)
    (hk : KeepBut (w.alloc (.cells #[.int .i64 0, .slice none 0 0, .slice none 0 0] 30)) w2 g none) (ha : At w2 g s r) : PInv w g s w2.heap.size t r A1 n1 c1 A2 n2 c2 (w2.alloc (.cells #[.int .i64 t.f0, .slice A1 n1 c1, .slice A2 n2 c2] 30)) := by
  rw [al_size] at h1 h2
  have hs := hk.1
  rw [al_size] at hs
  exact ⟨blk_new w2 _, Kd.R_alloc (Kd.R_mono (Kd.R_bound h1) (fun k hk => Nat.ne_of_lt hk.2.2.1)) _, Kd.R_alloc (Kd.R_mono (Kd.R_bound h2) (fun k hk => Nat.ne_of_lt hk.2.2.1)) _, ha.moved, keep_alloc hk _, by omega, hgl⟩
/-- A sign: the node is the kid of a new one. -/
theorem PInv.sign {w : World} {g : Nat} {s : ByteArray} {q : Nat} {t : S30} {r : List Int} {A1 : Option Addr} {n1 c1 : Nat} {A2 : Option Addr} {n2 c2 : Nat} {W W1 : World} {A n c : _} (h : PInv w g s q t r A1 n1 c1 A2 n2 c2 W) (K : Int) (hb : Below W.heap.size W W1) (hr : Kd.R k30 30 W1 (w.heap.size + 1) (fun k => k ≠ q) (.slice A n c) [t]) :
    PInv w g s q ⟨K, [], [t]⟩ r none 0 0 A n c (((W1.setCell ⟨q, 0, none⟩ (.int .i64 K)).setCell ⟨q, 1, none⟩ (.slice none 0 0)).setCell ⟨q, 2, none⟩ (.slice A n c)) := by
  have := h.gl
  have := h.lt
  refine ⟨store3 (blk_below h.cell hb) _ _ _, Kd.R_nil _ _ _ _ _, far3O hr, (h.at_.below hb).far3 (by omega), keep_far3 (keep_below h.keep hb) (by rw [al_size]; omega), h.lt, h.gl⟩
theorem piece_at {w : World} {g : Nat} {s : ByteArray} {q : Nat} {t : S30} {r : List Int} {A1 : Option Addr} {n1 c1 : Nat} {A2 : Option Addr} {n2 c2 : Nat} {W : World} (h : PInv w g s q t r A1 n1 c1 A2 n2 c2 W) :
    W.heap[w.heap.size]? = some (.cells #[.int .i64 0, .slice none 0 0, .slice none 0 0] 30 (0, 0)) := zS_at h.keep h.gl
/-- Which sign a byte is. -/
def signK (c : Int) : Int := if c = 42 then 4 else if c = 43 then 5 else if c = 63 then 6 else 0
theorem sign_eq {c : Int} (h : signK c ≠ 0) (t : S30) (r : List Int) : signR t (c :: r) = signR ⟨signK c, [], [t]⟩ r := by
  rw [signR]
  unfold signK at h ⊢
  repeat' split
  all_goals first | rfl | simp_all
theorem sign_stop {c : Int} (h : c ≠ 42 ∧ c ≠ 43 ∧ c ≠ 63) (t : S30) (r : List Int) : signR t (c :: r) = (t, c :: r) := by
  rw [signR, if_neg h.1, if_neg h.2.1, if_neg h.2.2]

set_option maxHeartbeats 4000000 in
set_option maxRecDepth 100000 in
theorem piece_any {n : Nat} (H : AltH n) {w : World} {g : Nat} {s : ByteArray} {r : List Int} (hlen : r.length ≤ n) (h : At w g s r) : Calls Try.prog 49 #[.pointer (some ⟨g, 0, none⟩)] w (TRes w g s (pieceR r)) := by
  have HA := Lib.hid (atom_any H hlen (h.moved (o := .cells #[.int .i64 0, .slice none 0 0, .slice none 0 0] 30)))
  have hgl := h.lt
  have HGL := Lib.hid hgl
  clear h hgl
  cases hq : atomR altR r with
  | err ce ke =>
    have HE : Hid (pieceR r = .err ce ke) := Lib.hid (by unfold pieceR; rw [hq]; rfl)
    rw [hq] at HA
    rw [HE.out]
    clear hq
    go_enter Try.func49, Try.ntmps49
    go_wp2_with (first | (go_at_call 62; refine HA.out.mono ?_; rintro e w2 ⟨rfl, hk⟩; have HK2 := Lib.hid hk; clear hk))
    exact ⟨rfl, rfl, sub_keep HK2.out HGL.out⟩
  | ok t0 r0 =>
    obtain ⟨res, hres⟩ : ∃ q, q = pieceR r := ⟨_, rfl⟩
    rw [← hres]
    have HE : Hid (res = .ok (signR t0 r0).1 (signR t0 r0).2) := Lib.hid (by rw [hres]; unfold pieceR; rw [hq]; rfl)
    rw [hq] at HA
    clear hq hres
    go_enter Try.func49, Try.ntmps49
    go_wp2_with (first | (go_at_call 62; refine HA.out.mono ?_; rintro e w2 ⟨v, rfl, ⟨A1, n1, c1, A2, n2, c2, rfl, hr1, hr2⟩, hk, ha⟩; have HP := Lib.hid (PInv.start HGL.out hr1 hr2 hk ha); clear hr1 hr2 hk ha))
    go_loopg [4] (r0.length + 1) (fun kq v4 wr => ∃ t r A1 n1 c1 A2 n2 c2, Hid (PInv w g s w2.heap.size t r A1 n1 c1 A2 n2 c2 wr) ∧ Hid (r.length < kq ∧ signR t0 r0 = signR t r))
    case atStart => exact ⟨t0, r0, A1, n1, c1, A2, n2, c2, HP, Lib.hid ⟨Nat.lt_succ_self _, rfl⟩⟩
    case round =>
      clear HP
      obtain ⟨t, r, A1, n1, c1, A2, n2, c2, HP, HF⟩ := hrel
      cases r with
      | nil =>
        have I42 : Hid (∀ W : World, At W g s ([]) → Calls Try.prog 50 #[.pointer (some ⟨g, 0, none⟩), .int .u8 42] W (Got W g s (.bool false) ([]))) := Lib.hid (fun W h => by have := is_any h 42; rwa [show isB 42 ([]) = false from rfl, show isT 42 ([]) = [] from rfl] at this)
        have I43 : Hid (∀ W : World, At W g s ([]) → Calls Try.prog 50 #[.pointer (some ⟨g, 0, none⟩), .int .u8 43] W (Got W g s (.bool false) ([]))) := Lib.hid (fun W h => by have := is_any h 43; rwa [show isB 43 ([]) = false from rfl, show isT 43 ([]) = [] from rfl] at this)
        have I63 : Hid (∀ W : World, At W g s ([]) → Calls Try.prog 50 #[.pointer (some ⟨g, 0, none⟩), .int .u8 63] W (Got W g s (.bool false) ([]))) := Lib.hid (fun W h => by have := is_any h 63; rwa [show isB 63 ([]) = false from rfl, show isT 63 ([]) = [] from rfl] at this)
        have HS : Hid (res = .ok t []) := Lib.hid (by rw [HE.out, HF.out.2]; rfl)
        go_wp2_with (first | (go_at_call 50; (have hguard := HP4; clear hguard); refine (I63.out _ HP4.out.at_).mono ?_; rintro e w5 ⟨rfl, hk, ha⟩; have HP5 := Lib.hid (HP4.out.on hk ha); clear hk ha HP4; have y1 := HP5.out.cell; have f0 := blk_cell y1 0; have f1 := blk_cell y1 1; have f2 := blk_cell y1 2; have f3 := blk_frozen y1 0; have f4 := blk_frozen y1 1; have f5 := blk_frozen y1 2; have y2 := piece_at HP5.out; have f6 := blk_cell y2 0; have f7 := blk_cell y2 1; have f8 := blk_cell y2 2; have f9 := blk_frozen y2 0; have f10 := blk_frozen y2 1; have f11 := blk_frozen y2 2; (simp only [List.getElem?_toArray, List.getElem?_cons_zero, List.getElem?_cons_succ] at f0 f1 f2 f6 f7 f8); clear y1 y2) | (go_at_call 50; (have hguard := HP3; clear hguard); refine (I43.out _ HP3.out.at_).mono ?_; rintro e w4 ⟨rfl, hk, ha⟩; have HP4 := Lib.hid (HP3.out.on hk ha); clear hk ha HP3) | (go_at_call 50; (have hguard := HP; clear hguard); refine (I42.out _ HP.out.at_).mono ?_; rintro e w3 ⟨rfl, hk, ha⟩; have HP3 := Lib.hid (HP.out.on hk ha); clear hk ha HP))
        have hg := store3 (piece_at HP5.out) (.int .i64 t.f0) (.slice A1 n1 c1) (.slice A2 n2 c2)
        rw [HS.out]
        refine bodyPost_ret (results_cell_row (p := 2) rfl _ _ w.heap.size 30 _ (0, 0) _ rfl hg Try.underlying30 rfl size30) rfl ?_
        exact tree_done HGL.out HP5.out.keep (Kd.R_mono HP5.out.r1 (fun _ _ => trivial)) (Kd.R_mono HP5.out.r2 (fun _ _ => trivial)) HP5.out.at_
      | cons c r =>
        by_cases h42 : c = 42
        · subst h42
          have I42 : Hid (∀ W : World, At W g s (42 :: r) → Calls Try.prog 50 #[.pointer (some ⟨g, 0, none⟩), .int .u8 42] W (Got W g s (.bool true) (r))) := Lib.hid (fun W h => by have := is_any h 42; rwa [show isB 42 (42 :: r) = true from by simp [isB], show isT 42 (42 :: r) = r from by simp [isT]] at this)
          go_wp2_with (first | (go_at_call 50; (have hguard := HP; clear hguard); refine (I42.out _ HP.out.at_).mono ?_; rintro e w3 ⟨rfl, hk, ha⟩; have HP3 := Lib.hid (HP.out.on hk ha); clear hk ha HP; have y1 := HP3.out.cell; have f0 := blk_cell y1 0; have f1 := blk_cell y1 1; have f2 := blk_cell y1 2; have f3 := blk_frozen y1 0; have f4 := blk_frozen y1 1; have f5 := blk_frozen y1 2; have y2 := piece_at HP3.out; have f6 := blk_cell y2 0; have f7 := blk_cell y2 1; have f8 := blk_cell y2 2; have f9 := blk_frozen y2 0; have f10 := blk_frozen y2 1; have f11 := blk_frozen y2 2; (simp only [List.getElem?_toArray, List.getElem?_cons_zero, List.getElem?_cons_succ] at f0 f1 f2 f6 f7 f8); clear y1 y2) | ((with_reducible refine gate_dst (N := 19) rfl ?_); go_loud (refine Kd.R_lit k30 (w.heap.size + 1) 30 ?hg (N := 19) ?hd (xs := [t]) (inner := [.int .i64 t.f0, .slice A1 n1 c1, .slice A2 n2 c2]) (ok := fun k => k ≠ w2.heap.size) (okp := fun k => k ≠ w2.heap.size) ?hr ?hp (fun _ hk => hk) ?hf (Below.refl (w.heap.size + 1) w3) ?hs (by simp) ?_; (case hd => rfl); (case hg => rfl); (case hr => first | (go_simp; done) | (go_simp; rfl)); (case hp => exact Reps.c3 (k30_mkM _ _ _ t HP3.out.r1 HP3.out.r2) (Reps.none _ _)); (case hf => exact Nat.ne_of_gt (blk_lt HP3.out.cell)); (case hs => exact Nat.le_trans HP3.out.lt (Nat.le_of_lt (blk_lt HP3.out.cell))); intro v7 w7 hr7 _ hg7 _; (obtain ⟨A7, n7, c7, rfl⟩ : ∃ A n c, v7 = .slice A n c := by obtain ⟨A, c, e⟩ := Kd.R_slice hr7; exact ⟨A, _, c, e⟩); have hb7 := (Below.refl w3.heap.size w3).grown hg7 (Nat.le_refl _) (fun k h => by cases h); have z1 := blk_below HP3.out.cell hb7; have k0 := blk_cell z1 0; have k1 := blk_cell z1 1; have k2 := blk_cell z1 2; have k3 := blk_frozen z1 0; have k4 := blk_frozen z1 1; have k5 := blk_frozen z1 2; (simp only [List.getElem?_toArray, List.getElem?_cons_zero, List.getElem?_cons_succ] at k0 k1 k2); have HR7 := Lib.hid hr7; have HB7 := Lib.hid hb7; clear hr7 hg7 hb7 z1)))
          go_roundg (gk - 1)
          case measure => have := HF.out.1; simp only [List.length_cons] at this; omega
          case rel => exact ⟨⟨4, [], [t]⟩, r, none, 0, 0, A7, n7, c7, Lib.hid (HP3.out.sign 4 HB7.out HR7.out), Lib.hid ⟨by have := HF.out.1; simp only [List.length_cons] at this; omega, by rw [HF.out.2]; rfl⟩⟩
        · have g42 := h42
          by_cases h43 : c = 43
          · subst h43
            have I42 : Hid (∀ W : World, At W g s (43 :: r) → Calls Try.prog 50 #[.pointer (some ⟨g, 0, none⟩), .int .u8 42] W (Got W g s (.bool false) (43 :: r))) := Lib.hid (fun W h => by have := is_any h 42; rwa [show isB 42 (43 :: r) = false from by simp [isB], show isT 42 (43 :: r) = 43 :: r from by simp [isT]] at this)
            have I43 : Hid (∀ W : World, At W g s (43 :: r) → Calls Try.prog 50 #[.pointer (some ⟨g, 0, none⟩), .int .u8 43] W (Got W g s (.bool true) (r))) := Lib.hid (fun W h => by have := is_any h 43; rwa [show isB 43 (43 :: r) = true from by simp [isB], show isT 43 (43 :: r) = r from by simp [isT]] at this)
            go_wp2_with (first | (go_at_call 50; (have hguard := HP3; clear hguard); refine (I43.out _ HP3.out.at_).mono ?_; rintro e w4 ⟨rfl, hk, ha⟩; have HP4 := Lib.hid (HP3.out.on hk ha); clear hk ha HP3; have y1 := HP4.out.cell; have f0 := blk_cell y1 0; have f1 := blk_cell y1 1; have f2 := blk_cell y1 2; have f3 := blk_frozen y1 0; have f4 := blk_frozen y1 1; have f5 := blk_frozen y1 2; have y2 := piece_at HP4.out; have f6 := blk_cell y2 0; have f7 := blk_cell y2 1; have f8 := blk_cell y2 2; have f9 := blk_frozen y2 0; have f10 := blk_frozen y2 1; have f11 := blk_frozen y2 2; (simp only [List.getElem?_toArray, List.getElem?_cons_zero, List.getElem?_cons_succ] at f0 f1 f2 f6 f7 f8); clear y1 y2) | (go_at_call 50; (have hguard := HP; clear hguard); refine (I42.out _ HP.out.at_).mono ?_; rintro e w3 ⟨rfl, hk, ha⟩; have HP3 := Lib.hid (HP.out.on hk ha); clear hk ha HP) | ((with_reducible refine gate_dst (N := 19) rfl ?_); go_loud (refine Kd.R_lit k30 (w.heap.size + 1) 30 ?hg (N := 19) ?hd (xs := [t]) (inner := [.int .i64 t.f0, .slice A1 n1 c1, .slice A2 n2 c2]) (ok := fun k => k ≠ w2.heap.size) (okp := fun k => k ≠ w2.heap.size) ?hr ?hp (fun _ hk => hk) ?hf (Below.refl (w.heap.size + 1) w4) ?hs (by simp) ?_; (case hd => rfl); (case hg => rfl); (case hr => first | (go_simp; done) | (go_simp; rfl)); (case hp => exact Reps.c3 (k30_mkM _ _ _ t HP4.out.r1 HP4.out.r2) (Reps.none _ _)); (case hf => exact Nat.ne_of_gt (blk_lt HP4.out.cell)); (case hs => exact Nat.le_trans HP4.out.lt (Nat.le_of_lt (blk_lt HP4.out.cell))); intro v7 w7 hr7 _ hg7 _; (obtain ⟨A7, n7, c7, rfl⟩ : ∃ A n c, v7 = .slice A n c := by obtain ⟨A, c, e⟩ := Kd.R_slice hr7; exact ⟨A, _, c, e⟩); have hb7 := (Below.refl w4.heap.size w4).grown hg7 (Nat.le_refl _) (fun k h => by cases h); have z1 := blk_below HP4.out.cell hb7; have k0 := blk_cell z1 0; have k1 := blk_cell z1 1; have k2 := blk_cell z1 2; have k3 := blk_frozen z1 0; have k4 := blk_frozen z1 1; have k5 := blk_frozen z1 2; (simp only [List.getElem?_toArray, List.getElem?_cons_zero, List.getElem?_cons_succ] at k0 k1 k2); have HR7 := Lib.hid hr7; have HB7 := Lib.hid hb7; clear hr7 hg7 hb7 z1)))
            go_roundg (gk - 1)
            case measure => have := HF.out.1; simp only [List.length_cons] at this; omega
            case rel => exact ⟨⟨5, [], [t]⟩, r, none, 0, 0, A7, n7, c7, Lib.hid (HP4.out.sign 5 HB7.out HR7.out), Lib.hid ⟨by have := HF.out.1; simp only [List.length_cons] at this; omega, by rw [HF.out.2]; rfl⟩⟩
          · have g43 := h43
            by_cases h63 : c = 63
            · subst h63
              have I42 : Hid (∀ W : World, At W g s (63 :: r) → Calls Try.prog 50 #[.pointer (some ⟨g, 0, none⟩), .int .u8 42] W (Got W g s (.bool false) (63 :: r))) := Lib.hid (fun W h => by have := is_any h 42; rwa [show isB 42 (63 :: r) = false from by simp [isB], show isT 42 (63 :: r) = 63 :: r from by simp [isT]] at this)
              have I43 : Hid (∀ W : World, At W g s (63 :: r) → Calls Try.prog 50 #[.pointer (some ⟨g, 0, none⟩), .int .u8 43] W (Got W g s (.bool false) (63 :: r))) := Lib.hid (fun W h => by have := is_any h 43; rwa [show isB 43 (63 :: r) = false from by simp [isB], show isT 43 (63 :: r) = 63 :: r from by simp [isT]] at this)
              have I63 : Hid (∀ W : World, At W g s (63 :: r) → Calls Try.prog 50 #[.pointer (some ⟨g, 0, none⟩), .int .u8 63] W (Got W g s (.bool true) (r))) := Lib.hid (fun W h => by have := is_any h 63; rwa [show isB 63 (63 :: r) = true from by simp [isB], show isT 63 (63 :: r) = r from by simp [isT]] at this)
              go_wp2_with (first | (go_at_call 50; (have hguard := HP4; clear hguard); refine (I63.out _ HP4.out.at_).mono ?_; rintro e w5 ⟨rfl, hk, ha⟩; have HP5 := Lib.hid (HP4.out.on hk ha); clear hk ha HP4; have y1 := HP5.out.cell; have f0 := blk_cell y1 0; have f1 := blk_cell y1 1; have f2 := blk_cell y1 2; have f3 := blk_frozen y1 0; have f4 := blk_frozen y1 1; have f5 := blk_frozen y1 2; have y2 := piece_at HP5.out; have f6 := blk_cell y2 0; have f7 := blk_cell y2 1; have f8 := blk_cell y2 2; have f9 := blk_frozen y2 0; have f10 := blk_frozen y2 1; have f11 := blk_frozen y2 2; (simp only [List.getElem?_toArray, List.getElem?_cons_zero, List.getElem?_cons_succ] at f0 f1 f2 f6 f7 f8); clear y1 y2) | (go_at_call 50; (have hguard := HP3; clear hguard); refine (I43.out _ HP3.out.at_).mono ?_; rintro e w4 ⟨rfl, hk, ha⟩; have HP4 := Lib.hid (HP3.out.on hk ha); clear hk ha HP3) | (go_at_call 50; (have hguard := HP; clear hguard); refine (I42.out _ HP.out.at_).mono ?_; rintro e w3 ⟨rfl, hk, ha⟩; have HP3 := Lib.hid (HP.out.on hk ha); clear hk ha HP) | ((with_reducible refine gate_dst (N := 19) rfl ?_); go_loud (refine Kd.R_lit k30 (w.heap.size + 1) 30 ?hg (N := 19) ?hd (xs := [t]) (inner := [.int .i64 t.f0, .slice A1 n1 c1, .slice A2 n2 c2]) (ok := fun k => k ≠ w2.heap.size) (okp := fun k => k ≠ w2.heap.size) ?hr ?hp (fun _ hk => hk) ?hf (Below.refl (w.heap.size + 1) w5) ?hs (by simp) ?_; (case hd => rfl); (case hg => rfl); (case hr => first | (go_simp; done) | (go_simp; rfl)); (case hp => exact Reps.c3 (k30_mkM _ _ _ t HP5.out.r1 HP5.out.r2) (Reps.none _ _)); (case hf => exact Nat.ne_of_gt (blk_lt HP5.out.cell)); (case hs => exact Nat.le_trans HP5.out.lt (Nat.le_of_lt (blk_lt HP5.out.cell))); intro v7 w7 hr7 _ hg7 _; (obtain ⟨A7, n7, c7, rfl⟩ : ∃ A n c, v7 = .slice A n c := by obtain ⟨A, c, e⟩ := Kd.R_slice hr7; exact ⟨A, _, c, e⟩); have hb7 := (Below.refl w5.heap.size w5).grown hg7 (Nat.le_refl _) (fun k h => by cases h); have z1 := blk_below HP5.out.cell hb7; have k0 := blk_cell z1 0; have k1 := blk_cell z1 1; have k2 := blk_cell z1 2; have k3 := blk_frozen z1 0; have k4 := blk_frozen z1 1; have k5 := blk_frozen z1 2; (simp only [List.getElem?_toArray, List.getElem?_cons_zero, List.getElem?_cons_succ] at k0 k1 k2); have HR7 := Lib.hid hr7; have HB7 := Lib.hid hb7; clear hr7 hg7 hb7 z1)))
              go_roundg (gk - 1)
              case measure => have := HF.out.1; simp only [List.length_cons] at this; omega
              case rel => exact ⟨⟨6, [], [t]⟩, r, none, 0, 0, A7, n7, c7, Lib.hid (HP5.out.sign 6 HB7.out HR7.out), Lib.hid ⟨by have := HF.out.1; simp only [List.length_cons] at this; omega, by rw [HF.out.2]; rfl⟩⟩
            · have g63 := h63
              have I42 : Hid (∀ W : World, At W g s (c :: r) → Calls Try.prog 50 #[.pointer (some ⟨g, 0, none⟩), .int .u8 42] W (Got W g s (.bool false) (c :: r))) := Lib.hid (fun W hW => by have := is_any hW 42; rwa [show isB 42 (c :: r) = false from by simpa [isB] using h42, show isT 42 (c :: r) = c :: r from by simpa [isT] using h42] at this)
              have I43 : Hid (∀ W : World, At W g s (c :: r) → Calls Try.prog 50 #[.pointer (some ⟨g, 0, none⟩), .int .u8 43] W (Got W g s (.bool false) (c :: r))) := Lib.hid (fun W hW => by have := is_any hW 43; rwa [show isB 43 (c :: r) = false from by simpa [isB] using h43, show isT 43 (c :: r) = c :: r from by simpa [isT] using h43] at this)
              have I63 : Hid (∀ W : World, At W g s (c :: r) → Calls Try.prog 50 #[.pointer (some ⟨g, 0, none⟩), .int .u8 63] W (Got W g s (.bool false) (c :: r))) := Lib.hid (fun W hW => by have := is_any hW 63; rwa [show isB 63 (c :: r) = false from by simpa [isB] using h63, show isT 63 (c :: r) = c :: r from by simpa [isT] using h63] at this)
              have HS : Hid (res = .ok t (c :: r)) := Lib.hid (by rw [HE.out, HF.out.2, sign_stop ⟨h42, h43, h63⟩])
              clear h42 h43 h63 g42 g43 g63
              go_wp2_with (first | (go_at_call 50; (have hguard := HP4; clear hguard); refine (I63.out _ HP4.out.at_).mono ?_; rintro e w5 ⟨rfl, hk, ha⟩; have HP5 := Lib.hid (HP4.out.on hk ha); clear hk ha HP4; have y1 := HP5.out.cell; have f0 := blk_cell y1 0; have f1 := blk_cell y1 1; have f2 := blk_cell y1 2; have f3 := blk_frozen y1 0; have f4 := blk_frozen y1 1; have f5 := blk_frozen y1 2; have y2 := piece_at HP5.out; have f6 := blk_cell y2 0; have f7 := blk_cell y2 1; have f8 := blk_cell y2 2; have f9 := blk_frozen y2 0; have f10 := blk_frozen y2 1; have f11 := blk_frozen y2 2; (simp only [List.getElem?_toArray, List.getElem?_cons_zero, List.getElem?_cons_succ] at f0 f1 f2 f6 f7 f8); clear y1 y2) | (go_at_call 50; (have hguard := HP3; clear hguard); refine (I43.out _ HP3.out.at_).mono ?_; rintro e w4 ⟨rfl, hk, ha⟩; have HP4 := Lib.hid (HP3.out.on hk ha); clear hk ha HP3) | (go_at_call 50; (have hguard := HP; clear hguard); refine (I42.out _ HP.out.at_).mono ?_; rintro e w3 ⟨rfl, hk, ha⟩; have HP3 := Lib.hid (HP.out.on hk ha); clear hk ha HP))
              have hg := store3 (piece_at HP5.out) (.int .i64 t.f0) (.slice A1 n1 c1) (.slice A2 n2 c2)
              rw [HS.out]
              refine bodyPost_ret (results_cell_row (p := 2) rfl _ _ w.heap.size 30 _ (0, 0) _ rfl hg Try.underlying30 rfl size30) rfl ?_
              exact tree_done HGL.out HP5.out.keep (Kd.R_mono HP5.out.r1 (fun _ _ => trivial)) (Kd.R_mono HP5.out.r2 (fun _ _ => trivial)) HP5.out.at_
end Go.Proofs.Ytdgidcfmggmbiaa.Rx
namespace Go.Proofs.Ytdgidcfmggmbiaa.Rx
open Go.RowKit Go.Proofs.YtdgidcfmggmbiaaW.PrintWords Go.Proofs.YtdgidcfmggmbiaaW.PrintLast Go.Proofs.YtdgidcfmggmbiaaW.PrintMore Go.Proofs.Ytdgidcfmggmbiaa.PRx
set_option linter.unusedVariables false
set_option linter.unusedSimpArgs false

theorem own_small {α : Type} {d : Kd α} {e : Nat} {w : World} {B : Nat} {v : Value} {l : List α} (h : Kd.R d e w B (fun _ => True) v l) : ∀ k, w.heap.size ≤ k → True ∧ some k ≠ v.ownBlock := by
  intro k hk
  refine ⟨trivial, fun he => ?_⟩
  have := (Kd.R_bound h).1 k he.symm
  have := this.2.2.1
  omega
/-- Between two parts. -/
structure OInv (w : World) (g : Nat) (s : ByteArray) (P : List S30) (r : List Int) (A3 : Option Addr) (n3 c3 : Nat) (W : World) : Prop where
  rp : Kd.R k30 30 W (w.heap.size + 1) (fun _ => True) (.slice A3 n3 c3) P
  at_ : At W g s r
  keep : KeepBut (w.alloc (.cells #[.int .i64 0, .slice none 0 0, .slice none 0 0] 30)) W g none
  gl : g < w.heap.size
/-- Within a part: it lies in block q. -/
structure AInv (w : World) (g : Nat) (s : ByteArray) (q : Nat) (P K : List S30) (r : List Int) (A3 : Option Addr) (n3 c3 : Nat) (AK : Option Addr) (nK cK : Nat) (W : World) : Prop where
  cell : W.heap[q]? = some (.cells #[.int .i64 2, .slice none 0 0, .slice AK nK cK] 30 (0, 0))
  rp : Kd.R k30 30 W (w.heap.size + 1) (fun k => k < q) (.slice A3 n3 c3) P
  rk : Kd.R k30 30 W (q + 1) (fun _ => True) (.slice AK nK cK) K
  at_ : At W g s r
  keep : KeepBut (w.alloc (.cells #[.int .i64 0, .slice none 0 0, .slice none 0 0] 30)) W g none
  lt : w.heap.size < q
  gl : g < w.heap.size
section
variable {w W W' : World} {g q : Nat} {s : ByteArray} {P K : List S30} {r r' : List Int} {A3 AK : Option Addr} {n3 c3 nK cK : Nat}
theorem OInv.start (h : OInv w g s P r A3 n3 c3 W) : AInv w g s W.heap.size P [] r A3 n3 c3 none 0 0 (W.alloc (.cells #[.int .i64 2, .slice none 0 0, .slice none 0 0] 30)) := by
  have hs := h.keep.1
  rw [al_size] at hs
  exact ⟨blk_new W _, Kd.R_alloc (Kd.R_mono (Kd.R_bound h.rp) (fun k hk => hk.2.2.1)) _, Kd.R_nil _ _ _ _ _, h.at_.moved, keep_alloc h.keep _, by omega, h.gl⟩
theorem AInv.on (h : AInv w g s q P K r A3 n3 c3 AK nK cK W) (hk : KeepBut W W' g none) (ha : At W' g s r') : AInv w g s q P K r' A3 n3 c3 AK nK cK W' := by
  have := h.gl
  have := h.lt
  exact ⟨blk_kept_ h.cell hk (by omega), R_oldO h.rp (fun k _ h1 h2 => hk.2 k h2 (by omega) (by simp)), R_old h.rk (fun k h1 h2 => hk.2 k h2 (by omega) (by simp)), ha, h.keep.trans hk (.inl rfl), h.lt, h.gl⟩
theorem AInv.box (h : AInv w g s q P K r A3 n3 c3 AK nK cK W) : W.heap[w.heap.size]? = some (.cells #[.int .i64 0, .slice none 0 0, .slice none 0 0] 30 (0, 0)) := zS_at h.keep h.gl
theorem OInv.box (h : OInv w g s P r A3 n3 c3 W) : W.heap[w.heap.size]? = some (.cells #[.int .i64 0, .slice none 0 0, .slice none 0 0] 30 (0, 0)) := zS_at h.keep h.gl
/-- A kid is appended, and stored. -/
theorem AInv.kid {t : S30} {A7 : Option Addr} {n7 c7 : Nat} {W7 : World} (h : AInv w g s q P K r A3 n3 c3 AK nK cK W) (hb : Below (q + 1) W W7) (hr : Kd.R k30 30 W7 (q + 1) (fun _ => True) (.slice A7 n7 c7) (K ++ [t])) :
    AInv w g s q P (K ++ [t]) r A3 n3 c3 A7 n7 c7 (W7.setCell ⟨q, 2, none⟩ (.slice A7 n7 c7)) := by
  have h1 := h.gl
  have h2 := h.lt
  have hf : ∀ k, k ≠ q → (W7.setCell ⟨q, 2, none⟩ (.slice A7 n7 c7)).heap[k]? = W7.heap[k]? := fun k hk => Below.heap_setCell _ ⟨q, 2, none⟩ _ k hk
  refine ⟨?_, R_oldO h.rp (fun k h3 h4 h5 => (hf k (by omega)).trans (hb.block k (by omega))), R_old hr (fun k h3 h4 => hf k (by omega)), ?_, ?_, h.lt, h.gl⟩
  · have := blk_set ((hb.block q (by omega)).trans h.cell) 2 (.slice A7 n7 c7)
    simpa using this
  · exact (h.at_.belowB hb (by omega)).far (p := ⟨q, 2, none⟩) (by show g ≠ q; omega) _
  · refine keep_far (keep_belowB h.keep (hb.mono ?_) hb.size) (p := ⟨q, 2, none⟩) ?_ _
    · rw [al_size]; omega
    · rw [al_size]; show w.heap.size + 1 ≤ q; omega
/-- A part is appended. -/
theorem AInv.part {A7 : Option Addr} {n7 c7 : Nat} {W7 : World} (h : AInv w g s q P K r A3 n3 c3 AK nK cK W) (hb : Below (w.heap.size + 1) W W7) (hr : Kd.R k30 30 W7 (w.heap.size + 1) (fun _ => True) (.slice A7 n7 c7) (P ++ [catN K])) :
    OInv w g s (P ++ [catN K]) r A7 n7 c7 W7 := by
  have h1 := h.gl
  exact ⟨hr, h.at_.belowB hb (by omega), keep_belowB h.keep (by rw [al_size]; exact hb) hb.size, h.gl⟩
theorem OInv.on (h : OInv w g s P r A3 n3 c3 W) (hk : KeepBut W W' g none) (ha : At W' g s r') : OInv w g s P r' A3 n3 c3 W' := by
  have := h.gl
  exact ⟨R_old h.rp (fun k h1 h2 => hk.2 k h2 (by omega) (by simp)), ha, h.keep.trans hk (.inl rfl), h.gl⟩
end
/-- Is a piece here? -/
def more : List Int → Bool
  | [] => false
  | c :: _ => !(c == 124) && !(c == 41)
/-- A kid's cells, behind a row. -/
theorem kid_M {W5 : World} {B B' : Nat} {t : S30} {A1 : Option Addr} {n1 c1 : Nat} {A2 : Option Addr} {n2 c2 : Nat} (h1 : Kd.R k98 98 W5 B (fun _ => True) (.slice A1 n1 c1) t.f1) (h2 : Kd.R k30 30 W5 B (fun _ => True) (.slice A2 n2 c2) t.f2) (hb : B' ≤ B) : k30.M W5 B' (fun k => B ≤ k) t [.int .i64 t.f0, .slice A1 n1 c1, .slice A2 n2 c2] :=
  k30_mkM _ _ _ t (Kd.R_lower (Kd.R_mono (Kd.R_bound h1) (fun k hk => hk.2.1)) hb) (Kd.R_lower (Kd.R_mono (Kd.R_bound h2) (fun k hk => hk.2.1)) hb)
/-- A row of one node: what the node's cells are. -/
theorem first_of {W : World} {B : Nat} {x : S30} {A : Option Addr} {n c : Nat} (h : Kd.R k30 30 W B (fun _ => True) (.slice A n c) [x]) : ∃ (b : Nat) (A1 : Option Addr) (n1 c1 : Nat) (A2 : Option Addr) (n2 c2 : Nat), A = some ⟨b, 0, none⟩ ∧ n = 1 ∧
    W.cell? ⟨b, 0, none⟩ = some (.int .i64 x.f0) ∧ W.cell? ⟨b, 1, none⟩ = some (.slice A1 n1 c1) ∧ W.cell? ⟨b, 2, none⟩ = some (.slice A2 n2 c2) ∧
    Kd.R k98 98 W B (fun _ => True) (.slice A1 n1 c1) x.f1 ∧ Kd.R k30 30 W B (fun _ => True) (.slice A2 n2 c2) x.f2 := by
  have hn := (Kd.R_reads' h).1
  obtain ⟨ad, c', e⟩ := Kd.R_slice1 h (by simp)
  injection e with e1 e2 e3
  subst e1
  obtain ⟨b, rfl⟩ := Kd.R_head h
  obtain ⟨cs, hcl, hM, hcc⟩ := Kd.R_getA h z30 0 (by omega) (by simp only [List.length_singleton] at hn; omega)
  obtain ⟨v1, v2, rfl, g1, g2⟩ := k30_openM hM
  obtain ⟨A1, d1, rfl⟩ := Kd.R_slice g1
  obtain ⟨A2, d2, rfl⟩ := Kd.R_slice g2
  refine ⟨b, A1, _, d1, A2, _, d2, rfl, hn, ?_, ?_, ?_, Kd.R_mono g1 (fun _ _ => trivial), Kd.R_mono g2 (fun _ _ => trivial)⟩
  · have := hcc 0 _ rfl; simpa [Addr.add] using this
  · have := hcc 1 _ rfl; simpa [Addr.add] using this
  · have := hcc 2 _ rfl; simpa [Addr.add] using this
theorem mkAlt_one (x : S30) : mkAlt [x] = x := rfl
theorem mkAlt_more (x : S30) (P : List S30) (y : S30) : mkAlt (x :: P ++ [y]) = ⟨3, [], x :: P ++ [y]⟩ := by
  unfold mkAlt
  rw [if_neg (by simp)]
end Go.Proofs.Ytdgidcfmggmbiaa.Rx
