/- rex's reader: what an alternation's walk leans on. rex's reader: an alternation. -/
import Derived.Test.YtcdkooebhpfknaaNg
import Derived.Deep.RegionHeld3
import Derived.Deep.RegionLaw
namespace Go.Proofs.Ytcdkooebhpfknaa.Rx
open Go.RowKit Go.Proofs.YtcdkooebhpfknaaW.PrintWords Go.Proofs.YtcdkooebhpfknaaW.PrintLast Go.Proofs.YtcdkooebhpfknaaW.PrintMore Go.Proofs.Ytcdkooebhpfknaa.PRx
set_option linter.unusedVariables false
set_option linter.unusedSimpArgs false

theorem own_small {α : Type} {d : Kd α} {e : Nat} {w : World} {B : Nat} {v : Value} {l : List α} (h : Kd.R d e w B (fun _ => True) v l) : ∀ k, w.heap.size ≤ k → True ∧ some k ≠ v.ownBlock := by
  intro k hk
  refine ⟨trivial, fun he => ?_⟩
  have := (Kd.R_bound h).1 k he.symm
  have := this.2.2.1
  omega
/-- Between two parts. -/
structure OInv (w : World) (g : Nat) (s : ByteArray) (P : List S26) (r : List Int) (A3 : Option Addr) (n3 c3 : Nat) (W : World) : Prop where
  rp : Kd.R k26 26 W (w.heap.size + 1) (fun _ => True) (.slice A3 n3 c3) P
  at_ : At W g s r
  keep : KeepBut (w.alloc (.cells #[.int .i64 0, .slice none 0 0, .slice none 0 0] 26)) W g none
  gl : g < w.heap.size
/-- Within a part: it lies in block q. -/
structure AInv (w : World) (g : Nat) (s : ByteArray) (q : Nat) (P K : List S26) (r : List Int) (A3 : Option Addr) (n3 c3 : Nat) (AK : Option Addr) (nK cK : Nat) (W : World) : Prop where
  cell : W.heap[q]? = some (.cells #[.int .i64 2, .slice none 0 0, .slice AK nK cK] 26 (0, 0))
  rp : Kd.R k26 26 W (w.heap.size + 1) (fun k => k < q) (.slice A3 n3 c3) P
  rk : Kd.R k26 26 W (q + 1) (fun _ => True) (.slice AK nK cK) K
  at_ : At W g s r
  keep : KeepBut (w.alloc (.cells #[.int .i64 0, .slice none 0 0, .slice none 0 0] 26)) W g none
  lt : w.heap.size < q
  gl : g < w.heap.size
section
variable {w W W' : World} {g q : Nat} {s : ByteArray} {P K : List S26} {r r' : List Int} {A3 AK : Option Addr} {n3 c3 nK cK : Nat}
theorem OInv.start (h : OInv w g s P r A3 n3 c3 W) : AInv w g s W.heap.size P [] r A3 n3 c3 none 0 0 (W.alloc (.cells #[.int .i64 2, .slice none 0 0, .slice none 0 0] 26)) := by
  have hs := h.keep.1
  rw [al_size] at hs
  exact ⟨blk_new W _, Kd.R_alloc (Kd.R_mono (Kd.R_bound h.rp) (fun k hk => hk.2.2.1)) _, Kd.R_nil _ _ _ _ _, h.at_.moved, keep_alloc h.keep _, by omega, h.gl⟩
theorem AInv.on (h : AInv w g s q P K r A3 n3 c3 AK nK cK W) (hk : KeepBut W W' g none) (ha : At W' g s r') : AInv w g s q P K r' A3 n3 c3 AK nK cK W' := by
  have := h.gl
  have := h.lt
  exact ⟨blk_kept_ h.cell hk (by omega), R_oldO h.rp (fun k _ h1 h2 => hk.2 k h2 (by omega) (by simp)), R_old h.rk (fun k h1 h2 => hk.2 k h2 (by omega) (by simp)), ha, h.keep.trans hk (.inl rfl), h.lt, h.gl⟩
theorem AInv.box (h : AInv w g s q P K r A3 n3 c3 AK nK cK W) : W.heap[w.heap.size]? = some (.cells #[.int .i64 0, .slice none 0 0, .slice none 0 0] 26 (0, 0)) := zS_at h.keep h.gl
theorem OInv.box (h : OInv w g s P r A3 n3 c3 W) : W.heap[w.heap.size]? = some (.cells #[.int .i64 0, .slice none 0 0, .slice none 0 0] 26 (0, 0)) := zS_at h.keep h.gl
/-- A kid is appended, and stored. -/
theorem AInv.kid {t : S26} {A7 : Option Addr} {n7 c7 : Nat} {W7 : World} (h : AInv w g s q P K r A3 n3 c3 AK nK cK W) (hb : Below (q + 1) W W7) (hr : Kd.R k26 26 W7 (q + 1) (fun _ => True) (.slice A7 n7 c7) (K ++ [t])) :
    AInv w g s q P (K ++ [t]) r A3 n3 c3 A7 n7 c7 (W7.setCell ⟨q, 2, none⟩ (.slice A7 n7 c7)) := by
  have h1 := h.gl
  have h2 := h.lt
  have hf : ∀ k, k ≠ q → (W7.setCell ⟨q, 2, none⟩ (.slice A7 n7 c7)).heap[k]? = W7.heap[k]? := fun k hk => Below.heap_setCell _ ⟨q, 2, none⟩ _ k hk
  refine ⟨?_, R_oldO h.rp (fun k h3 h4 h5 => (hf k (by omega)).trans (hb.block k (by omega))), R_old hr (fun k h3 h4 => hf k (by omega)), ?_, ?_, h.lt, h.gl⟩
  · have := blk_set ((hb.block q (by omega)).trans h.cell) 2 (.slice A7 n7 c7)
    simpa using this
  · exact (h.at_.belowB hb (by omega)).far (p := ⟨q, 2, none⟩) (by show g ≠ q; omega) _
  · refine keep_far (keep_belowB h.keep (hb.mono ?_) hb.size) (p := ⟨q, 2, none⟩) ?_ _
    · rw [al_size]; omega
    · rw [al_size]; show w.heap.size + 1 ≤ q; omega
/-- A part is appended. -/
theorem AInv.part {A7 : Option Addr} {n7 c7 : Nat} {W7 : World} (h : AInv w g s q P K r A3 n3 c3 AK nK cK W) (hb : Below (w.heap.size + 1) W W7) (hr : Kd.R k26 26 W7 (w.heap.size + 1) (fun _ => True) (.slice A7 n7 c7) (P ++ [catN K])) :
    OInv w g s (P ++ [catN K]) r A7 n7 c7 W7 := by
  have h1 := h.gl
  exact ⟨hr, h.at_.belowB hb (by omega), keep_belowB h.keep (by rw [al_size]; exact hb) hb.size, h.gl⟩
theorem OInv.on (h : OInv w g s P r A3 n3 c3 W) (hk : KeepBut W W' g none) (ha : At W' g s r') : OInv w g s P r' A3 n3 c3 W' := by
  have := h.gl
  exact ⟨R_old h.rp (fun k h1 h2 => hk.2 k h2 (by omega) (by simp)), ha, h.keep.trans hk (.inl rfl), h.gl⟩
end
/-- Is a piece here? -/
def more : List Int → Bool
  | [] => false
  | c :: _ => !(c == 124) && !(c == 41)
/-- A kid's cells, behind a row. -/
theorem kid_M {W5 : World} {B B' : Nat} {t : S26} {A1 : Option Addr} {n1 c1 : Nat} {A2 : Option Addr} {n2 c2 : Nat} (h1 : Kd.R k37 37 W5 B (fun _ => True) (.slice A1 n1 c1) t.f1) (h2 : Kd.R k26 26 W5 B (fun _ => True) (.slice A2 n2 c2) t.f2) (hb : B' ≤ B) : k26.M W5 B' (fun k => B ≤ k) t [.int .i64 t.f0, .slice A1 n1 c1, .slice A2 n2 c2] :=
  k26_mkM _ _ _ t (Kd.R_lower (Kd.R_mono (Kd.R_bound h1) (fun k hk => hk.2.1)) hb) (Kd.R_lower (Kd.R_mono (Kd.R_bound h2) (fun k hk => hk.2.1)) hb)
/-- A row of one node: what the node's cells are. -/
theorem first_of {W : World} {B : Nat} {x : S26} {A : Option Addr} {n c : Nat} (h : Kd.R k26 26 W B (fun _ => True) (.slice A n c) [x]) : ∃ (b : Nat) (A1 : Option Addr) (n1 c1 : Nat) (A2 : Option Addr) (n2 c2 : Nat), A = some ⟨b, 0, none⟩ ∧ n = 1 ∧
    W.cell? ⟨b, 0, none⟩ = some (.int .i64 x.f0) ∧ W.cell? ⟨b, 1, none⟩ = some (.slice A1 n1 c1) ∧ W.cell? ⟨b, 2, none⟩ = some (.slice A2 n2 c2) ∧
    Kd.R k37 37 W B (fun _ => True) (.slice A1 n1 c1) x.f1 ∧ Kd.R k26 26 W B (fun _ => True) (.slice A2 n2 c2) x.f2 := by
  have hn := (Kd.R_reads' h).1
  obtain ⟨ad, c', e⟩ := Kd.R_slice1 h (by simp)
  injection e with e1 e2 e3
  subst e1
  obtain ⟨b, rfl⟩ := Kd.R_head h
  obtain ⟨cs, hcl, hM, hcc⟩ := Kd.R_getA h z26 0 (by omega) (by simp only [List.length_singleton] at hn; omega)
  obtain ⟨v1, v2, rfl, g1, g2⟩ := k26_openM hM
  obtain ⟨A1, d1, rfl⟩ := Kd.R_slice g1
  obtain ⟨A2, d2, rfl⟩ := Kd.R_slice g2
  refine ⟨b, A1, _, d1, A2, _, d2, rfl, hn, ?_, ?_, ?_, Kd.R_mono g1 (fun _ _ => trivial), Kd.R_mono g2 (fun _ _ => trivial)⟩
  · have := hcc 0 _ rfl; simpa [Addr.add] using this
  · have := hcc 1 _ rfl; simpa [Addr.add] using this
  · have := hcc 2 _ rfl; simpa [Addr.add] using this
theorem mkAlt_one (x : S26) : mkAlt [x] = x := rfl
theorem mkAlt_more (x : S26) (P : List S26) (y : S26) : mkAlt (x :: P ++ [y]) = ⟨3, [], x :: P ++ [y]⟩ := by
  unfold mkAlt
  rw [if_neg (by simp)]
end Go.Proofs.Ytcdkooebhpfknaa.Rx
namespace Go.Proofs.Ytcdkooebhpfknaa.Rx
open Go.RowKit Go.Proofs.YtcdkooebhpfknaaW.PrintWords Go.Proofs.YtcdkooebhpfknaaW.PrintLast Go.Proofs.YtcdkooebhpfknaaW.PrintMore Go.Proofs.Ytcdkooebhpfknaa.PRx
set_option linter.unusedVariables false
set_option linter.unusedSimpArgs false

set_option maxHeartbeats 8000000 in
set_option maxRecDepth 100000 in
theorem alt_step {n : Nat} (H : AltH n) {w : World} {g : Nat} {s : ByteArray} {r0 : List Int} (hlen : r0.length ≤ n) (h : At w g s r0) : Calls Try.prog 14 #[.pointer (some ⟨g, 0, none⟩)] w (TRes w g s (altR r0)) := by
  have HO0 : Hid (OInv w g s [] r0 none 0 0 (w.alloc (.cells #[.int .i64 0, .slice none 0 0, .slice none 0 0] 26))) := Lib.hid ⟨Kd.R_nil _ _ _ _ _, h.moved, KeepBut.refl _ _ _, h.lt⟩
  have hsm : r0.length ≤ 256 := by obtain ⟨i, _, _, _, h1, h2, h3⟩ := h.facts; omega
  have HSM := Lib.hid hsm
  have HLEN := Lib.hid hlen
  obtain ⟨res, hres⟩ : ∃ q, q = altR r0 := ⟨_, rfl⟩
  rw [← hres]
  have HRES : Hid (res = (partsR [] [] r0).bind fun ps r => .ok (mkAlt ps) r) := Lib.hid hres
  clear hres hsm hlen h
  go_enter Try.func14, Try.ntmps14
  go_wp2_with fail
  go_loopg [3] (r0.length + 1) (fun kq v3 wr => ∃ P r A3 n3 c3, v3 = .slice A3 n3 c3 ∧ Hid (OInv w g s P r A3 n3 c3 wr) ∧ Hid (r.length < kq ∧ P.length + r.length ≤ r0.length ∧ r.length ≤ r0.length ∧ res = (partsR P [] r).bind fun ps r => .ok (mkAlt ps) r))
  case atStart => exact ⟨[], r0, none, 0, 0, rfl, HO0, Lib.hid ⟨Nat.lt_succ_self _, by simp, Nat.le_refl _, HRES.out⟩⟩
  case round =>
    clear HO0 HRES
    obtain ⟨P, r, A3, n3, c3, rfl, HO, HF⟩ := hrel
    have HA := Lib.hid HO.out.start
    clear HO
    go_wp2_with fail
    obtain ⟨wo, rfl⟩ : ∃ wo : World, wo = wr := ⟨_, rfl⟩
    obtain ⟨ko, rfl⟩ : ∃ ko : Nat, ko = gk := ⟨_, rfl⟩
    go_loopg [6] (r.length + 1) (fun kq v6 wr => ∃ K r2 AK nK cK, Hid (AInv w g s wo.heap.size P K r2 A3 n3 c3 AK nK cK wr) ∧ Hid (r2.length < kq ∧ K.length + r2.length ≤ r.length ∧ res = (partsR P K r2).bind fun ps r => .ok (mkAlt ps) r))
    case atStart => exact ⟨[], r, none, 0, 0, HA, Lib.hid ⟨Nat.lt_succ_self _, by simp, HF.out.2.2.2⟩⟩
    case round =>
      clear HA
      obtain ⟨K, r2, AK, nK, cK, HA, HG⟩ := hrel
      go_upto_region 3 with fail
      go_cut [32] from 6 to 39 (fun s32 wc => ∃ tb : Bool, s32 = .bool tb ∧ Hid (tb = more r2) ∧ ∃ n, wc = wr.drewN n)
      case first =>
        as_aux_lemma =>
          cases r2 with
          | nil =>
            obtain ⟨i, f0, f1, f2, h1, h2, h3⟩ := HA.out.at_.facts
            go_quiet (first | (go_at_call 15; refine Calls.quiet_of (over_nil (HA.out.at_.drewN _))))
            go_wp2
            go_meet
            exact ⟨_, rfl, Lib.hid rfl, _, rfl⟩
          | cons c r2 =>
            obtain ⟨i, f0, f1, f2, h1, h2, h3, f4, h5, h6, h7⟩ := HA.out.at_.char
            clear h5
            by_cases hc : c = 124
            · subst hc
              go_quiet (first | (go_at_call 15; refine Calls.quiet_of (over_cons (HA.out.at_.drewN _))))
              go_wp2
              go_meet
              exact ⟨_, rfl, Lib.hid rfl, _, rfl⟩
            · have g1 : (c == 124) = false := by simpa using hc
              have g2 : (c != 124) = true := by simpa using hc
              clear hc
              go_quiet (first | (go_at_call 15; refine Calls.quiet_of (over_cons (HA.out.at_.drewN _))))
              go_wp2
              go_meet
              exact ⟨_, rfl, Lib.hid (by show _ = (!(c == 124) && !(c == 41)); rw [g1]; rfl), _, rfl⟩
      case rest =>
        obtain ⟨tb, rfl, HTB, n2, rfl⟩ := hcut
        have HA2 := Lib.hid (HA.out.on (keep_drewN (KeepBut.refl _ _ _) n2) (HA.out.at_.drewN n2))
        cases tb with
        | false =>
          have y1 := HA2.out.cell; have f0 := blk_cell y1 0; have f1 := blk_cell y1 1; have f2 := blk_cell y1 2; have f3 := blk_frozen y1 0; have f4 := blk_frozen y1 1; have f5 := blk_frozen y1 2; (simp only [List.getElem?_toArray, List.getElem?_cons_zero, List.getElem?_cons_succ] at f0 f1 f2); clear y1
          have HLN : Hid ((P.length + 1) * 56 ≤ 140737488355328) := Lib.hid (by have := HF.out.2.1; have := HSM.out; omega)
          have HOK : Hid (∀ k, wo.heap.size + 1 ≤ k → True ∧ some k ≠ (Value.slice A3 n3 c3).ownBlock) := Lib.hid (fun k hk => ⟨trivial, fun he => by have := HA2.out.rp.1 k he.symm; omega⟩)
          have HS0 : Hid (w.heap.size + 1 ≤ (wr.drewN n2).heap.size) := Lib.hid (by have := HA2.out.keep.1; rw [al_size] at this; exact this)
          go_upto_region 6 with (first
            | ((with_reducible refine gate_builtin (b := .append) (xs := #[.tmp 40, .tmp 42]) rfl ?_); at_builtin; go_loud (refine Kd.R_append k26 (w0 := wr.drewN n2) (w.heap.size + 1) rfl (.tmp 40) (.tmp 42) 24 26 _ 56 rfl Try.underlying24 info26 rfl (by decide) (by omega) (.slice A3 n3 c3) P (catN K) [.int .i64 2, .slice none 0 0, .slice AK nK cK] (fun _ => True) (fun k => wo.heap.size + 1 ≤ k) rfl rfl ?aP HOK.out ?aF ?aO ?aB ?aS ?aL ?_; (case aP => exact kid_M (t := catN K) (Kd.R_nil _ _ _ _ _) HA2.out.rk (Nat.succ_le_succ (Nat.le_of_lt HA2.out.lt))); (case aF => exact fun _ _ => trivial); (case aO => exact Kd.R_mono HA2.out.rp (fun _ _ => trivial)); (case aB => exact Below.refl _ _); (case aS => exact HS0.out); (case aL => exact HLN.out); intro v9 w9 hr9 hb9 _ _; (obtain ⟨A9, n9, c9, rfl⟩ : ∃ A n c, v9 = .slice A n c := by obtain ⟨A, c, e⟩ := Kd.R_slice hr9; exact ⟨A, _, c, e⟩); have HO9 := Lib.hid (HA2.out.part hb9 hr9); clear hr9 hb9)))
          clear f0 f1 f2 f3 f4 f5 HS0 HOK HLN
          cases r2 with
          | nil =>
            have IS : Hid (∀ W : World, At W g s [] → Calls Try.prog 21 #[.pointer (some ⟨g, 0, none⟩), .int .u8 124] W (Got W g s (.bool false) [])) := Lib.hid (fun W hW => by have := is_any hW 124; exact this)
            have HEQ : Hid (res = .ok (mkAlt (P ++ [catN K])) []) := Lib.hid (by rw [HG.out.2.2]; rfl)
            cases P with
            | nil =>
              go_wp2_with (first | (go_at_call 21; (have hguard := HO9; clear hguard); refine (IS.out _ HO9.out.at_).mono ?_; rintro e wx ⟨rfl, hk, ha⟩; have HOX := Lib.hid (HO9.out.on hk ha); clear hk ha; obtain ⟨bx, B1, m1, d1, B2, m2, d2, rfl, rfl, k0, k1, k2, g1, g2⟩ := first_of HOX.out.rp; have G1 := Lib.hid g1; have G2 := Lib.hid g2; clear g1 g2; have y2 := HOX.out.box; have f6 := blk_cell y2 0; have f7 := blk_cell y2 1; have f8 := blk_cell y2 2; have f9 := blk_frozen y2 0; have f10 := blk_frozen y2 1; have f11 := blk_frozen y2 2; (simp only [List.getElem?_toArray, List.getElem?_cons_zero, List.getElem?_cons_succ] at f6 f7 f8); clear y2))
              have hg := store3 HOX.out.box (.int .i64 (catN K).f0) (.slice B1 m1 d1) (.slice B2 m2 d2)
              rw [HEQ.out, List.nil_append, mkAlt_one]
              refine bodyPost_ret (results_cell_row (p := 2) rfl _ _ w.heap.size 26 _ (0, 0) _ rfl hg Try.underlying26 rfl size26) rfl ?_
              exact tree_done HOX.out.gl HOX.out.keep G1.out G2.out HOX.out.at_
            | cons x P =>
              have hn9 := (Kd.R_reads' HO9.out.rp).1
              have g7 : ((n9 : Int) == 1) = false := by simp only [List.length_append, List.length_cons, List.length_nil] at hn9; simp; omega
              clear hn9
              go_wp2_with (first | (go_at_call 21; (have hguard := HO9; clear hguard); refine (IS.out _ HO9.out.at_).mono ?_; rintro e wx ⟨rfl, hk, ha⟩; have HOX := Lib.hid (HO9.out.on hk ha); clear hk ha; have y2 := HOX.out.box; have f6 := blk_cell y2 0; have f7 := blk_cell y2 1; have f8 := blk_cell y2 2; have f9 := blk_frozen y2 0; have f10 := blk_frozen y2 1; have f11 := blk_frozen y2 2; (simp only [List.getElem?_toArray, List.getElem?_cons_zero, List.getElem?_cons_succ] at f6 f7 f8); clear y2))
              have hg := store3 HOX.out.box (.int .i64 3) (.slice none 0 0) (.slice A9 n9 c9)
              rw [HEQ.out, mkAlt_more]
              refine bodyPost_ret (results_cell_row (p := 2) rfl _ _ w.heap.size 26 _ (0, 0) _ rfl hg Try.underlying26 rfl size26) rfl ?_
              exact tree_done (t := ⟨3, [], x :: P ++ [catN K]⟩) HOX.out.gl HOX.out.keep (Kd.R_nil _ _ _ _ _) HOX.out.rp HOX.out.at_
          | cons c r2 =>
            by_cases h124 : c = 124
            · subst h124
              have IS : Hid (∀ W : World, At W g s (124 :: r2) → Calls Try.prog 21 #[.pointer (some ⟨g, 0, none⟩), .int .u8 124] W (Got W g s (.bool true) r2)) := Lib.hid (fun W hW => by have := is_any hW 124; rwa [show isB 124 (124 :: r2) = true from by simp [isB], show isT 124 (124 :: r2) = r2 from by simp [isT]] at this)
              go_wp2_with (first | (go_at_call 21; (have hguard := HO9; clear hguard); refine (IS.out _ HO9.out.at_).mono ?_; rintro e wx ⟨rfl, hk, ha⟩; have HOX := Lib.hid (HO9.out.on hk ha); clear hk ha; skip))
              go_roundg (ko - 1)
              case measure => have := HF.out.1; omega
              case rel => exact ⟨P ++ [catN K], r2, A9, n9, c9, rfl, HOX, Lib.hid ⟨by have := HF.out.1; have := HG.out.2.1; simp only [List.length_cons] at this; omega, by have := HF.out.2.1; have := HG.out.2.1; simp only [List.length_cons] at this; simp only [List.length_append, List.length_cons, List.length_nil]; omega, by have := HF.out.2.2.1; have := HG.out.2.1; simp only [List.length_cons] at this; omega, by rw [HG.out.2.2, parts_bar]⟩⟩
            · have h41 : c = 41 := by
                have h := HTB.out
                have h0 : (c == 124) = false := by simpa using h124
                have h1 : more (c :: r2) = (!(c == 124) && !(c == 41)) := rfl
                rw [h1, h0] at h
                by_cases h2 : c = 41
                · exact h2
                · simp [h2] at h
              subst h41
              have IS : Hid (∀ W : World, At W g s (41 :: r2) → Calls Try.prog 21 #[.pointer (some ⟨g, 0, none⟩), .int .u8 124] W (Got W g s (.bool false) (41 :: r2))) := Lib.hid (fun W hW => by have := is_any hW 124; rwa [show isB 124 (41 :: r2) = false from by simp [isB], show isT 124 (41 :: r2) = 41 :: r2 from by simp [isT]] at this)
              have HEQ : Hid (res = .ok (mkAlt (P ++ [catN K])) (41 :: r2)) := Lib.hid (by rw [HG.out.2.2]; rfl)
              clear h124
              cases P with
              | nil =>
                go_wp2_with (first | (go_at_call 21; (have hguard := HO9; clear hguard); refine (IS.out _ HO9.out.at_).mono ?_; rintro e wx ⟨rfl, hk, ha⟩; have HOX := Lib.hid (HO9.out.on hk ha); clear hk ha; obtain ⟨bx, B1, m1, d1, B2, m2, d2, rfl, rfl, k0, k1, k2, g1, g2⟩ := first_of HOX.out.rp; have G1 := Lib.hid g1; have G2 := Lib.hid g2; clear g1 g2; have y2 := HOX.out.box; have f6 := blk_cell y2 0; have f7 := blk_cell y2 1; have f8 := blk_cell y2 2; have f9 := blk_frozen y2 0; have f10 := blk_frozen y2 1; have f11 := blk_frozen y2 2; (simp only [List.getElem?_toArray, List.getElem?_cons_zero, List.getElem?_cons_succ] at f6 f7 f8); clear y2))
                have hg := store3 HOX.out.box (.int .i64 (catN K).f0) (.slice B1 m1 d1) (.slice B2 m2 d2)
                rw [HEQ.out, List.nil_append, mkAlt_one]
                refine bodyPost_ret (results_cell_row (p := 2) rfl _ _ w.heap.size 26 _ (0, 0) _ rfl hg Try.underlying26 rfl size26) rfl ?_
                exact tree_done HOX.out.gl HOX.out.keep G1.out G2.out HOX.out.at_
              | cons x P =>
                have hn9 := (Kd.R_reads' HO9.out.rp).1
                have g7 : ((n9 : Int) == 1) = false := by simp only [List.length_append, List.length_cons, List.length_nil] at hn9; simp; omega
                clear hn9
                go_wp2_with (first | (go_at_call 21; (have hguard := HO9; clear hguard); refine (IS.out _ HO9.out.at_).mono ?_; rintro e wx ⟨rfl, hk, ha⟩; have HOX := Lib.hid (HO9.out.on hk ha); clear hk ha; have y2 := HOX.out.box; have f6 := blk_cell y2 0; have f7 := blk_cell y2 1; have f8 := blk_cell y2 2; have f9 := blk_frozen y2 0; have f10 := blk_frozen y2 1; have f11 := blk_frozen y2 2; (simp only [List.getElem?_toArray, List.getElem?_cons_zero, List.getElem?_cons_succ] at f6 f7 f8); clear y2))
                have hg := store3 HOX.out.box (.int .i64 3) (.slice none 0 0) (.slice A9 n9 c9)
                rw [HEQ.out, mkAlt_more]
                refine bodyPost_ret (results_cell_row (p := 2) rfl _ _ w.heap.size 26 _ (0, 0) _ rfl hg Try.underlying26 rfl size26) rfl ?_
                exact tree_done (t := ⟨3, [], x :: P ++ [catN K]⟩) HOX.out.gl HOX.out.keep (Kd.R_nil _ _ _ _ _) HOX.out.rp HOX.out.at_
        | true =>
          clear HA
          generalize wr.drewN n2 = wi at HA2 ⊢
          have y1 := HA2.out.cell; have f0 := blk_cell y1 0; have f1 := blk_cell y1 1; have f2 := blk_cell y1 2; have f3 := blk_frozen y1 0; have f4 := blk_frozen y1 1; have f5 := blk_frozen y1 2; (simp only [List.getElem?_toArray, List.getElem?_cons_zero, List.getElem?_cons_succ] at f0 f1 f2); clear y1
          have HPC : Hid (∀ W : World, At W g s r2 → Calls Try.prog 20 #[.pointer (some ⟨g, 0, none⟩)] W (TRes W g s (pieceR r2))) := Lib.hid (fun W hW => piece_any H (by have := HLEN.out; have := HF.out.2.2.1; have := HG.out.2.1; omega) hW)
          have HEQ : Hid (res = ((pieceR r2).bind fun t r1 => partsR P (K ++ [t]) r1).bind fun ps r => .ok (mkAlt ps) r) := by
            refine Lib.hid ?_
            rw [HG.out.2.2]
            cases r2 with
            | nil => have := HTB.out; cases this
            | cons c r2 =>
              have h1 : more (c :: r2) = (!(c == 124) && !(c == 41)) := rfl
              have h := HTB.out
              rw [h1] at h
              rw [parts_piece P K c r2 (by intro e; subst e; simp at h) (by intro e; subst e; simp at h)]
          cases hq : pieceR r2 with
          | err ce ke =>
            have HEQ2 : Hid (res = .err ce ke) := Lib.hid (by rw [HEQ.out, hq]; rfl)
            rw [hq] at HPC
            clear hq HEQ
            go_wp2_with fail
            refine wp_region_any (by kernel_rfl) ?_
            change wpAny _ _ _ _ _ _ _ (World.drew _)
            refine wpAny_take (i := 0) (v := ?_) rfl (by kernel_rfl) (by kernel_rfl) (by kernel_rfl) (fun _ _ _ h => h) (Or.inl ⟨by rfl, ?_⟩) ?_
            rotate_left
            · intro w; go_simp; with_reducible rfl
            refine wpAny_take (i := 2) (v := ?_) rfl (by kernel_rfl) (by kernel_rfl) (by kernel_rfl) (fun _ _ _ h => h) (Or.inl ⟨by rfl, ?_⟩) ?_
            rotate_left
            · intro w; go_simp; with_reducible rfl
            refine wpAny_ready (rs := [1, 3]) (by kernel_rfl) (by simp) ?_
            refine AllReady.cons rfl (fun K hK => ?_) ?_
            · go_simp
              refine hK _ _ ?_
              clear hK K
              refine wpAny_ready (rs := [3]) (by kernel_rfl) (by simp) ?_
              refine AllReady.cons rfl (fun K hK => ?_) ?_
              · go_simp
                go_at_call 20
                refine (HPC.out wi.drew ⟨HA2.out.at_.cell, HA2.out.at_.small⟩).mono ?_
                rintro e w5 ⟨rfl, hk⟩
                have HK5 := Lib.hid ((keep_drew (KeepBut.refl wi g none)).trans hk (.inl rfl))
                clear hk
                rw [HEQ2.out]
                exact ⟨rfl, rfl, sub_keep (HA2.out.keep.trans HK5.out (.inl rfl)) HA2.out.gl⟩
              · exact AllReady.nil
            · refine AllReady.cons rfl (fun K hK => ?_) ?_
              · go_simp
                go_at_call 20
                refine (HPC.out wi.drew ⟨HA2.out.at_.cell, HA2.out.at_.small⟩).mono ?_
                rintro e w5 ⟨rfl, hk⟩
                have HK5 := Lib.hid ((keep_drew (KeepBut.refl wi g none)).trans hk (.inl rfl))
                clear hk
                rw [HEQ2.out]
                exact ⟨rfl, rfl, sub_keep (HA2.out.keep.trans HK5.out (.inl rfl)) HA2.out.gl⟩
              · exact AllReady.nil
          | ok t r1 =>
            have HSH := Lib.hid (piece_shrinks hq)
            have HEQ2 : Hid (res = (partsR P (K ++ [t]) r1).bind fun ps r => .ok (mkAlt ps) r) := Lib.hid (by rw [HEQ.out, hq]; rfl)
            rw [hq] at HPC
            clear hq HEQ
            have HLN : Hid ((K.length + 1) * 56 ≤ 140737488355328) := Lib.hid (by have := HF.out.2.2.1; have := HSM.out; have := HG.out.2.1; omega)
            have HQ0 : Hid (wo.heap.size + 1 ≤ wi.heap.size) := Lib.hid (blk_lt HA2.out.cell)
            go_wp2_with fail
            go_region_law (first
              | (refine Kd.R_append_step k26 (w0 := w5) (wo.heap.size + 1) rfl (.tmp 34) (.tmp 37) 24 26 _ 56 rfl Try.underlying24 info26 rfl (by decide) (by omega) (.slice AK nK cK) K t [.int .i64 t.f0, .slice A1 n1 c1, .slice A5 n5 c5] (fun _ => True) (fun k => wi.heap.size ≤ k) rfl rfl (kid_M HR1.out HR2.out HQ0.out) (own_small (w := wi) HA2.out.rk) (fun _ _ => trivial) HA5.out.rk (Below.refl _ _) (Nat.le_trans HQ0.out HK5.out) HLN.out ?_; intro v9 w9 hr9 hb9 _ _; (obtain ⟨A9, n9, c9, rfl⟩ : ∃ A n c, v9 = .slice A n c := by obtain ⟨A, c, e⟩ := Kd.R_slice hr9; exact ⟨A, _, c, e⟩); (have HA9 := Lib.hid (HA5.out.kid hb9 hr9)); (have y9 := (hb9.block wo.heap.size (Nat.lt_succ_self _)).trans HA5.out.cell); (have k92 := blk_cell y9 2); (have k93 := blk_frozen y9 2); (simp only [List.getElem?_toArray, List.getElem?_cons_zero, List.getElem?_cons_succ] at k92); clear y9 hr9 hb9)
              | (go_simp; go_at_call 20; refine (HPC.out wi.drew ⟨HA2.out.at_.cell, HA2.out.at_.small⟩).mono ?_; rintro e w5 ⟨v, rfl, ⟨A1, n1, c1, A5, n5, c5, rfl, hr1, hr2⟩, hk, ha⟩; (have hk5 := (keep_drew (KeepBut.refl wi g none)).trans hk (.inl rfl)); (have HA5 := Lib.hid (HA2.out.on hk5 ha)); (have HR1 := Lib.hid hr1); (have HR2 := Lib.hid hr2); (have HK5 := Lib.hid hk5.1); (have y1 := HA5.out.cell); (have k2 := blk_cell y1 2); (have k5 := blk_frozen y1 2); (have k6 := blk_cell (blk_alloc y1 (.cells #[.int .i64 t.f0, .slice A1 n1 c1, .slice A5 n5 c5] 26)) 2); (simp only [List.getElem?_toArray, List.getElem?_cons_zero, List.getElem?_cons_succ] at k2 k6); clear y1 hk hk5 ha hr1 hr2; go_wp2))
            all_goals
              go_wp2_with fail
              go_roundg (gk - 1)
              case measure => have := HG.out.1; omega
              case rel => exact ⟨K ++ [t], r1, A9, n9, c9, HA9, Lib.hid ⟨by have := HG.out.1; have := HSH.out; omega, by have := HG.out.2.1; have := HSH.out; simp only [List.length_append, List.length_cons, List.length_nil]; omega, HEQ2.out⟩⟩
theorem alt_all : ∀ n, AltH n
  | 0 => fun w g s r h _ => by omega
  | n + 1 => fun w g s r h ha => alt_step (alt_all n) (by omega) ha
theorem alt_any {w : World} {g : Nat} {s : ByteArray} {r : List Int} (h : At w g s r) : Calls Try.prog 14 #[.pointer (some ⟨g, 0, none⟩)] w (TRes w g s (altR r)) := alt_all (r.length + 1) w g s r (Nat.lt_succ_self _) h
end Go.Proofs.Ytcdkooebhpfknaa.Rx
