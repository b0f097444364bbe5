/- pat.Compile, of a file pattern and of a regular expression. pat: the statements' own examples (alive). pat: alive, walked. -/
import Derived.Test.YtdgidcfmggmbiaaNq
import Derived.Test.YtdgidcfmggmbiaaMj
import Derived.Lib.SlBytesConst
namespace Go.Proofs.Ytdgidcfmggmbiaa.Qp
set_option linter.unusedVariables false
set_option linter.unusedSimpArgs false
open Go.RowKit Go.Proofs.Ytdgidcfmggmbiaa.Mem Go.Proofs.Ytdgidcfmggmbiaa.Re Go.Proofs.Ytdgidcfmggmbiaa.Nm Go.Proofs.Ytdgidcfmggmbiaa.Tree Go.Proofs.Ytdgidcfmggmbiaa.PRx Go.Proofs.Ytdgidcfmggmbiaa.Rx Go.Proofs.YtdgidcfmggmbiaaW.PrintWords

theorem tree_K {w : World} {B : Nat} {v : Value} {t : S30} (h : Rx.Tree w B v t) : ∃ A1 n1 c1 A2 n2 c2, v = .agg #[.int .i64 t.f0, .slice A1 n1 c1, .slice A2 n2 c2] ∧ k30.K w t [.int .i64 t.f0, .slice A1 n1 c1, .slice A2 n2 c2] := by
  obtain ⟨A1, n1, c1, A2, n2, c2, rfl, h1, h2⟩ := h
  obtain ⟨rfl, l1, g1⟩ := Kd.R_reads' h1
  obtain ⟨rfl, l2, g2⟩ := Kd.R_reads' h2
  exact ⟨A1, _, c1, A2, _, c2, rfl, k30_mk w t l1 g1 l2 g2⟩
/-- What is read of a parse's answer. -/
theorem pres_use {w : World} {q : S30 × Int × Int} {e : Ending} {w' : World} (h : PRes w q e w') : ∃ A1 n1 c1 A2 n2 c2, e = .returned (.tuple #[.agg #[.int .i64 q.1.f0, .slice A1 n1 c1, .slice A2 n2 c2], .int .i64 q.2.1, .int .i64 q.2.2]) ∧ k30.K w' q.1 [.int .i64 q.1.f0, .slice A1 n1 c1, .slice A2 n2 c2] ∧ Below w.heap.size w w' := by
  obtain ⟨v, rfl, ht, hb⟩ := h
  obtain ⟨A1, n1, c1, A2, n2, c2, rfl, hk⟩ := tree_K ht
  exact ⟨A1, n1, c1, A2, n2, c2, rfl, hk, hb⟩
/-- Compile's machine of a parsed tree that lies in a variable. -/
theorem comp_mach {w5 W : World} {t : S30} {cs : List Value} (hk : k30.K w5 t cs) (hb : Below w5.heap.size w5 W) (hs : Small t) : Calls Try.prog 15 #[.agg cs.toArray] W fun e w' => ∃ b, e = .returned (.tuple #[.pointer (some ⟨b, 0, none⟩), .int .i64 0]) ∧ Mach w' W.heap.size b (re t) 0 ∧ W.heap.size ≤ b ∧ Below W.heap.size W w' := by
  obtain ⟨cs', e, hk'⟩ := NV.below ⟨cs, rfl, hk⟩ hb
  have e2 : cs' = cs := by
    injection e with e
    have := congrArg Array.toList e
    simpa using this.symm
  rw [e2] at hk'
  exact compile_right W t cs hk' hs.1.len hs.1.ok hs.2.1 hs.2.2 hs.1.right
def nodeBox (w5 : World) (k : Int) (A1 : Option Addr) (n1 c1 : Nat) (A2 : Option Addr) (n2 c2 : Nat) : World := w5.alloc (.cells #[.int .i64 k, .slice A1 n1 c1, .slice A2 n2 c2] 30)
set_option maxHeartbeats 2000000 in
set_option maxRecDepth 100000 in
theorem comp_glob (w : World) (s : ByteArray) (hm : s.size ≤ maxLen) : Calls Try.prog 8 #[.int .i64 2, .string s] w (CompQ 2 s w) := by
  have HP := Lib.hid (gparse_any w s hm)
  have HC : Hid (compP 2 s = (globP (bI s)).2) := Lib.hid (by simp [compP])
  have HR : Hid (reP 2 s = re (globP (bI s)).1) := Lib.hid (by simp [reP])
  have HS := Lib.hid (globP_right (s := s))
  obtain ⟨⟨t, ce, ka⟩, hq⟩ : ∃ q, q = globP (bI s) := ⟨_, rfl⟩
  rw [← hq] at HP HC HR HS
  clear hm hq
  by_cases hce : ce = 0
  · obtain ⟨hsm, hsz⟩ := HS.out hce
    have HSM := Lib.hid hsm
    have HSZ := Lib.hid hsz
    subst hce
    clear hsm hsz HS
    go_enter Try.func8, Try.ntmps8
    go_wp2_with (first
      | (go_at_call 14; refine HP.out.mono ?_; intro e w5 hpr; (obtain ⟨A1, n1, c1, A2, n2, c2, rfl, hk, hb⟩ := pres_use hpr); have HK := Lib.hid hk; have HB := Lib.hid hb; dsimp only; clear hpr hk hb)
      | (go_at_call 15; refine (comp_mach HK.out (by exact (Below.refl _ _).alloc (Nat.le_refl _) _) HSM.out).mono ?_; rintro e w7 ⟨b, rfl, hM, hge, hb⟩; have HM := Lib.hid hM; have HGE := Lib.hid hge; have HB7 := Lib.hid hb; clear hM hge hb))
    go_ret3
    have hb0 : Below w.heap.size w (w7.alloc (.cells #[.int .i64 2, .string s, .pointer (some ⟨b, 0, none⟩)] 48)) := ((HB.out.alloc HB.out.size _).trans (HB7.out.mono (by rw [al_size]; have := HB.out.size; omega))).alloc (by have := HB7.out.size; rw [al_size] at this; have := HB.out.size; omega) _
    have hge : w.heap.size ≤ b := by have := HGE.out; rw [al_size] at this; have := HB.out.size; omega
    refine ⟨hb0, .inl ⟨by rw [HC.out], ⟨w7.heap.size, some b, 2, s, reP 2 s⟩, rfl, rfl, rfl, rfl, ?_, HSZ.out, Blk.new _ _ _, hge, _, 0, by rw [HR.out]; exact HM.out.below ((Below.refl _ _).alloc (Nat.le_refl _) _)⟩⟩
    show w.heap.size ≤ w7.heap.size
    have := HB7.out.size
    rw [al_size] at this
    have := HB.out.size
    omega
  · have g0 : (ce != 0) = true := bne_iff_ne.mpr hce
    have HCE := Lib.hid hce
    clear hce HS
    go_enter Try.func8, Try.ntmps8
    go_wp2_with (first
      | (go_at_call 14; refine HP.out.mono ?_; intro e w5 hpr; (obtain ⟨A1, n1, c1, A2, n2, c2, rfl, hk, hb⟩ := pres_use hpr); have HK := Lib.hid hk; have HB := Lib.hid hb; dsimp only; clear hpr hk hb))
    go_ret3
    exact ⟨HB.out.alloc HB.out.size _, .inr (by rw [HC.out]; exact ⟨HCE.out, rfl⟩)⟩
set_option maxHeartbeats 2000000 in
set_option maxRecDepth 100000 in
theorem comp_rex (w : World) (s : ByteArray) (hm : s.size ≤ maxLen) : Calls Try.prog 8 #[.int .i64 3, .string s] w (CompQ 3 s w) := by
  have HP := Lib.hid (Rx.parse_any s w)
  have HC : Hid (compP 3 s = (parseP (bI s)).2) := Lib.hid (by simp [compP])
  have HR : Hid (reP 3 s = re (parseP (bI s)).1) := Lib.hid (by simp [reP])
  have HS := Lib.hid (parseP_right (s := s))
  obtain ⟨⟨t, ce, ka⟩, hq⟩ : ∃ q, q = parseP (bI s) := ⟨_, rfl⟩
  rw [← hq] at HP HC HR HS
  clear hm hq
  by_cases hce : ce = 0
  · obtain ⟨hsm, hsz⟩ := HS.out hce
    have HSM := Lib.hid hsm
    have HSZ := Lib.hid hsz
    subst hce
    clear hsm hsz HS
    go_enter Try.func8, Try.ntmps8
    go_wp2_with (first
      | (go_at_call 13; refine HP.out.mono ?_; intro e w5 hpr; (obtain ⟨A1, n1, c1, A2, n2, c2, rfl, hk, hb⟩ := pres_use hpr); have HK := Lib.hid hk; have HB := Lib.hid hb; dsimp only; clear hpr hk hb)
      | (go_at_call 15; refine (comp_mach HK.out (by exact (Below.refl _ _).alloc (Nat.le_refl _) _) HSM.out).mono ?_; rintro e w7 ⟨b, rfl, hM, hge, hb⟩; have HM := Lib.hid hM; have HGE := Lib.hid hge; have HB7 := Lib.hid hb; clear hM hge hb))
    go_ret3
    have hb0 : Below w.heap.size w (w7.alloc (.cells #[.int .i64 3, .string s, .pointer (some ⟨b, 0, none⟩)] 48)) := ((HB.out.alloc HB.out.size _).trans (HB7.out.mono (by rw [al_size]; have := HB.out.size; omega))).alloc (by have := HB7.out.size; rw [al_size] at this; have := HB.out.size; omega) _
    have hge : w.heap.size ≤ b := by have := HGE.out; rw [al_size] at this; have := HB.out.size; omega
    refine ⟨hb0, .inl ⟨by rw [HC.out], ⟨w7.heap.size, some b, 3, s, reP 3 s⟩, rfl, rfl, rfl, rfl, ?_, HSZ.out, Blk.new _ _ _, hge, _, 0, by rw [HR.out]; exact HM.out.below ((Below.refl _ _).alloc (Nat.le_refl _) _)⟩⟩
    show w.heap.size ≤ w7.heap.size
    have := HB7.out.size
    rw [al_size] at this
    have := HB.out.size
    omega
  · have g0 : (ce != 0) = true := bne_iff_ne.mpr hce
    have HCE := Lib.hid hce
    clear hce HS
    go_enter Try.func8, Try.ntmps8
    go_wp2_with (first
      | (go_at_call 13; refine HP.out.mono ?_; intro e w5 hpr; (obtain ⟨A1, n1, c1, A2, n2, c2, rfl, hk, hb⟩ := pres_use hpr); have HK := Lib.hid hk; have HB := Lib.hid hb; dsimp only; clear hpr hk hb))
    go_ret3
    exact ⟨HB.out.alloc HB.out.size _, .inr (by rw [HC.out]; exact ⟨HCE.out, rfl⟩)⟩
theorem comp_any (kind : Int) (w : World) (s : ByteArray) (hm : s.size ≤ maxLen) : Calls Try.prog 8 #[.int .i64 kind, .string s] w (CompQ kind s w) := by
  by_cases h1 : kind = 1
  · subst h1; exact comp_exact w s hm
  · by_cases h2 : kind = 2
    · subst h2; exact comp_glob w s hm
    · by_cases h3 : kind = 3
      · subst h3; exact comp_rex w s hm
      · exact comp_else kind w s h1 h2 h3
end Go.Proofs.Ytdgidcfmggmbiaa.Qp
namespace Go.Proofs.Ytdgidcfmggmbiaa.Qp
set_option linter.unusedVariables false
set_option linter.unusedSimpArgs false
open Go.RowKit Go.Proofs.Ytdgidcfmggmbiaa.Mem Go.Proofs.Ytdgidcfmggmbiaa.Re Go.Proofs.Ytdgidcfmggmbiaa.Nm Go.Proofs.Ytdgidcfmggmbiaa.Tree Go.Proofs.Ytdgidcfmggmbiaa.PRx Go.Proofs.Ytdgidcfmggmbiaa.Rx Go.Proofs.YtdgidcfmggmbiaaW.PrintWords

theorem kind_any {w : World} {b : Nat} {k : Int} {x : ByteArray} {pv : Value} (hb : Blk w b 48 #[.int .i64 k, .string x, pv]) : Calls Try.prog 10 #[.pointer (some ⟨b, 0, none⟩)] w fun e w' => e = .returned (.int .i64 k) ∧ w = w' := by
  have k0 := hb.cell 0
  simp only [List.getElem?_toArray, List.getElem?_cons_zero, List.getElem?_cons_succ] at k0
  clear hb
  go_enter Try.func10, Try.ntmps10
  go_wp2
  go_ret
  exact ⟨rfl, rfl⟩
theorem text_any {w : World} {b : Nat} {k : Int} {x : ByteArray} {pv : Value} (hb : Blk w b 48 #[.int .i64 k, .string x, pv]) : Calls Try.prog 11 #[.pointer (some ⟨b, 0, none⟩)] w fun e w' => e = .returned (.string x) ∧ w = w' := by
  have k0 := hb.cell 1
  simp only [List.getElem?_toArray, List.getElem?_cons_zero, List.getElem?_cons_succ] at k0
  clear hb
  go_enter Try.func11, Try.ntmps11
  go_wp2
  go_ret
  exact ⟨rfl, rfl⟩
/-! The three patterns, plainly. -/
def xab : ByteArray := ⟨#[120, 97, 98]⟩
def tab : ByteArray := ⟨#[97, 98]⟩
def tas : ByteArray := ⟨#[97, 42]⟩
def tor : ByteArray := ⟨#[98, 124, 97, 98]⟩
theorem xab_b (k : Nat) (h : k < 3) : bS xab k = [120, 97, 98].getD k (0 : Int) := by
  match k, h with
  | 0, _ => rfl
  | 1, _ => rfl
  | 2, _ => rfl
theorem ones_re (cs : List Int) : re (catN (cs.map oneN)) = .cat (cs.map fun c => .set ((fun c x => inR [⟨c, c⟩] x) c)) := by
  have h : ∀ cs : List Int, reL (cs.map oneN) = cs.map fun c => Re.set ((fun c x => inR [⟨c, c⟩] x) c) := fun cs => by
    induction cs with
    | nil => rfl
    | cons c cs ih => rw [List.map_cons, List.map_cons, reL, ih]; rfl
  rw [← h]
  rfl
theorem inR_one (c x : Int) : (fun c x => inR [⟨c, c⟩] x) c x = true ↔ x = c := by
  simp [inR]; omega
theorem ones_nd (s : ByteArray) (cs : List Int) {i j : Nat} (hj : j ≤ s.size) : Re.mt (bS s) s.size (re (catN (cs.map oneN))) i j ↔ j = i + cs.length ∧ Stands (bS s) s.size cs i := by
  rw [ones_re]
  exact ones_mt s cs (fun c x => inR [⟨c, c⟩] x) inR_one hj
theorem st_xab {cs : List Int} {i : Nat} (h : Stands (bS xab) xab.size cs i) (k : Nat) (hk : k < cs.length) : [120, 97, 98].getD (i + k) (0 : Int) = cs[k] := by
  have e : xab.size = 3 := rfl
  rw [← h.2 k hk, xab_b]
  have := h.1
  omega
theorem fq1 : FQ (Re.mt (bS xab) xab.size (exRe tab)) xab.size 1 3 true := by
  have e : bI tab = [97, 98] := rfl
  have e3 : xab.size = 3 := rfl
  refine .inr ⟨rfl, 1, 3, rfl, rfl, by decide, (ex_mt xab tab (by decide)).2 ⟨rfl, ?_⟩, fun a j hj hm => ?_⟩
  · rw [e]
    refine ⟨by decide, fun k hk => ?_⟩
    match k, hk with
    | 0, _ => rfl
    | 1, _ => rfl
  · obtain ⟨h1, h2⟩ := (ex_mt xab tab hj).1 hm
    rw [e] at h1 h2
    have h3 := h2.1
    have h4 := st_xab h2 0 (by decide)
    simp only [List.length_cons, List.length_nil] at h1 h3
    match a, h4 with
    | 0, h4 => simp at h4
    | 1, _ => omega
    | a + 2, _ => omega
theorem fq2 : FQ (Re.mt (bS xab) xab.size (re (catN [oneN 97, ⟨4, [], [anyN]⟩]))) xab.size 1 3 true := by
  have e3 : xab.size = 3 := rfl
  have hr : re (catN [oneN 97, ⟨4, [], [anyN]⟩]) = .cat [.set (inR [⟨97, 97⟩]), .star (.set (inR [⟨0, 255⟩]))] := by
    simp [catN, oneN, anyN, re, reL, reK]
  have hm0 : ∀ i j, Re.mt (bS xab) xab.size (re (catN [oneN 97, ⟨4, [], [anyN]⟩])) i j → i < 3 ∧ bS xab i = 97 ∧ i + 1 ≤ j := fun i j h => by
    rw [hr, Re.mt, seqM] at h
    obtain ⟨m, h1, h2⟩ := h
    rw [seqM] at h2
    obtain ⟨m2, h3, h4⟩ := h2
    rw [seqM] at h4
    rw [Re.mt] at h1
    have := mt_ord _ _ _ _ _ h3
    refine ⟨by omega, ?_, by omega⟩
    have := h1.2.2
    simp [inR] at this
    omega
  have any : ∀ i, i < 3 → Re.mt (bS xab) xab.size (.set (inR [⟨0, 255⟩])) i (i + 1) := fun i hi => by
    rw [Re.mt]
    refine ⟨by omega, rfl, ?_⟩
    have := bS_lt xab i
    simp [inR]; omega
  refine .inr ⟨rfl, 1, 3, rfl, rfl, by decide, ?_, fun a j hj hm => ?_⟩
  · rw [hr, Re.mt, seqM]
    refine ⟨2, ?_, ?_⟩
    · rw [Re.mt]; exact ⟨by decide, rfl, by decide⟩
    · rw [seqM]
      refine ⟨3, ?_, by rw [seqM]⟩
      rw [Re.mt]
      exact .step (any 2 (by decide)) (.refl _)
  · obtain ⟨h1, h2, h3⟩ := hm0 a j hm
    match a, h2 with
    | 0, h2 => exact absurd h2 (by decide)
    | 1, _ => omega
    | a + 2, _ => omega
theorem fq3 : FQ (Re.mt (bS xab) xab.size (re ⟨3, [], [catN ([98].map oneN), catN ([97, 98].map oneN)]⟩)) xab.size 1 3 true := by
  have e3 : xab.size = 3 := rfl
  have hr : re ⟨3, [], [catN ([98].map oneN), catN ([97, 98].map oneN)]⟩ = .alt [re (catN ([98].map oneN)), re (catN ([97, 98].map oneN))] := by
    rw [re]; rfl
  rw [hr]
  refine .inr ⟨rfl, 1, 3, rfl, rfl, by decide, ?_, fun a j hj hm => ?_⟩
  · rw [Re.mt, anyM]
    refine .inr ?_
    rw [anyM]
    refine .inl ((ones_nd xab [97, 98] (by decide)).2 ⟨rfl, by decide, fun k hk => ?_⟩)
    match k, hk with
    | 0, _ => rfl
    | 1, _ => rfl
  · rw [Re.mt, anyM] at hm
    rcases hm with hm | hm
    · obtain ⟨h1, h2⟩ := (ones_nd xab [98] hj).1 hm
      have h3 := h2.1
      have h4 := st_xab h2 0 (by decide)
      simp only [List.length_cons, List.length_nil] at h1 h3
      match a, h4 with
      | 0, h4 => simp at h4
      | 1, h4 => simp at h4
      | a + 2, _ => omega
    · rw [anyM] at hm
      rcases hm with hm | hm
      · obtain ⟨h1, h2⟩ := (ones_nd xab [97, 98] hj).1 hm
        have h3 := h2.1
        have h4 := st_xab h2 0 (by decide)
        simp only [List.length_cons, List.length_nil] at h1 h3
        match a, h4 with
        | 0, h4 => simp at h4
        | 1, _ => omega
        | a + 2, _ => omega
      · rw [anyM] at hm; exact hm.elim
theorem glob_tas : globP (bI tas) = (catN [oneN 97, ⟨4, [], [anyN]⟩], 0, 0) := by rfl
theorem rex_tor : parseP (bI tor) = (⟨3, [], [catN ([98].map oneN), catN ([97, 98].map oneN)]⟩, 0, 0) := by
  have h1 := alt_sgn [98] (by simp)
  have h2 := alt_sgn [97, 98] (by simp)
  have e1 : [98].flatMap sgn = [98] := rfl
  have e2 : [97, 98].flatMap sgn = [97, 98] := rfl
  rw [e1] at h1
  rw [e2] at h2
  have h := join_or h1 h2
  have e : bI tor = [98] ++ 124 :: [97, 98] := rfl
  unfold parseP
  rw [e, h, if_neg (by decide)]
  rfl
theorem c1 : compP 1 tab = (0, 0) := by rfl
theorem c2 : compP 2 tas = (0, 0) := by rw [compP, if_neg (by decide), if_pos rfl, glob_tas]
theorem c3 : compP 3 tor = (0, 0) := by rw [compP, if_neg (by decide), if_neg (by decide), if_pos rfl, rex_tor]
theorem r1 : reP 1 tab = exRe tab := by rfl
theorem r2 : reP 2 tas = re (catN [oneN 97, ⟨4, [], [anyN]⟩]) := by rw [reP, if_neg (by decide), if_pos rfl, glob_tas]
theorem r3 : reP 3 tor = re ⟨3, [], [catN ([98].map oneN), catN ([97, 98].map oneN)]⟩ := by rw [reP, if_neg (by decide), if_neg (by decide), rex_tor]
/-- Each of the three finds the same. -/
theorem find_all {kind : Int} {s : ByteArray} (h : (kind = 1 ∧ s = tab) ∨ (kind = 2 ∧ s = tas) ∨ (kind = 3 ∧ s = tor)) : compP kind s = (0, 0) ∧ ∀ f t ok, FindP xab (reP kind s) f t ok → f = 1 ∧ t = 3 ∧ ok = true := by
  rcases h with ⟨rfl, rfl⟩ | ⟨rfl, rfl⟩ | ⟨rfl, rfl⟩
  · exact ⟨c1, fun f t ok hf => by rw [r1] at hf; exact fq_uniq (fun _ _ _ => Iff.rfl) (fq_of hf) fq1⟩
  · exact ⟨c2, fun f t ok hf => by rw [r2] at hf; exact fq_uniq (fun _ _ _ => Iff.rfl) (fq_of hf) fq2⟩
  · exact ⟨c3, fun f t ok hf => by rw [r3] at hf; exact fq_uniq (fun _ _ _ => Iff.rfl) (fq_of hf) fq3⟩
end Go.Proofs.Ytdgidcfmggmbiaa.Qp
namespace Go.Proofs.Ytdgidcfmggmbiaa.Qp
set_option linter.unusedVariables false
set_option linter.unusedSimpArgs false
open Go.RowKit Go.Proofs.Ytdgidcfmggmbiaa.Mem Go.Proofs.Ytdgidcfmggmbiaa.Re Go.Proofs.Ytdgidcfmggmbiaa.Nm Go.Proofs.Ytdgidcfmggmbiaa.Tree Go.Proofs.Ytdgidcfmggmbiaa.PRx Go.Proofs.Ytdgidcfmggmbiaa.Rx Go.Proofs.YtdgidcfmggmbiaaW.PrintWords

abbrev fourRow : Array Value := #[.string ⟨#[]⟩, .string tab, .string tas, .string tor]
theorem buf_lit {w : World} {g : Nat} {s : ByteArray} {mk : Nat × Nat} (h : w.heap[g]? = some (.cells ((bI s).map (Value.int .u8)).toArray 5 mk)) : BufAt w (.slice (some ⟨g, 0, none⟩) s.size s.size) s := by
  refine .inr ⟨_, _, rfl, Nat.le_refl _, fun _ => rfl, fun i hi => ?_⟩
  rw [add_plain, Nat.zero_add]
  have hl : i < (bI s).length := by rw [bI_len]; exact hi
  simp [World.cell?, h, hl]
theorem comp_yes {kind : Int} {s : ByteArray} {w : World} {e : Ending} {w' : World} (h : (compP kind s).1 = 0) (hq : CompQ kind s w e w') : Below w.heap.size w w' ∧ ∃ p : Pn, e = .returned (.tuple #[.pointer (some ⟨p.b, 0, none⟩), .int .i64 0, .int .i64 0]) ∧ p.kind = kind ∧ p.text = s ∧ p.r = reP kind s ∧ PnAt w.heap.size w' p := by
  obtain ⟨hb, ⟨_, hp⟩ | ⟨hc, _⟩⟩ := hq
  · exact ⟨hb, hp⟩
  · exact (hc h).elim
theorem Ps.one {B : Nat} {w : World} {p : Pn} (h : PnAt B w p) : Ps B w [p] := by
  refine ⟨?_, fun q hq => by obtain rfl := List.mem_singleton.mp hq; exact h⟩
  cases hm : p.mb with
  | none => simp [hm]
  | some m => simp [hm]
/-- What a Find leaves alone. -/
theorem kp_below {B : Nat} {w W w' : World} {p : Pn} (hb : Below B w W) (hk : Kp W w' (fun k => p.mb = some k ∧ ∃ cs, Blk W k 76 cs)) (hge : ∀ k, p.mb = some k → B ≤ k) (hB : B ≤ W.heap.size) : Below B w w' :=
  hb.trans (hk.below hB (fun k h => hge k h.1))
set_option maxHeartbeats 4000000 in
set_option maxRecDepth 100000 in
theorem alive_any (w : World) (m : Int) (hm : w.cell? ⟨0, 0, none⟩ = some (.int .i64 m)) : Calls Try.prog 7 #[] w fun e w' => e = .returned (.bool true) ∧ Below w.heap.size w w' := by
  have h0 := World.block_lt_of_cell? w _ hm
  have HM := Lib.hid hm
  have H0 : Hid (0 < w.heap.size) := Lib.hid h0
  have kc := fun (w : World) (C : Array Value) (n c : Nat) => Lib.run_convert_bytes_const (P := Try.prog) w 38 5 C n c Try.underlying38 Try.underlying5
  clear hm h0
  go_enter Try.func7, Try.ntmps7
  go_wp2_with fail
  go_loopg [11] (5) (fun kq v11 wr => ∃ k : Nat, k ≤ 4 ∧ v11 = .int .i64 k ∧ Hid (kq = 5 - k) ∧ Hid (Blk wr w.heap.size 9 fourRow) ∧ Hid (Below w.heap.size w wr))
  case atStart => exact ⟨0, by omega, rfl, Lib.hid rfl, Lib.hid (Blk.new _ _ _), Lib.hid ((Below.refl _ _).alloc (Nat.le_refl _) _)⟩
  case round =>
    obtain ⟨k, hk, rfl, HKQ, HB, HW⟩ := hrel
    have HMR : Hid (wr.cell? ⟨0, 0, none⟩ = some (.int .i64 m)) := Lib.hid ((HW.out.cell (p := ⟨0, 0, none⟩) H0.out).trans HM.out)
    have q0 := HB.out.cell 0; have q1 := HB.out.cell 1; have q2 := HB.out.cell 2; have q3 := HB.out.cell 3
    simp only [fourRow, List.getElem?_toArray, List.getElem?_cons_zero, List.getElem?_cons_succ] at q0 q1 q2 q3
    by_cases hk4 : k = 4
    · subst hk4
      clear kc
      go_wp2_with fail
      go_ret
      exact ⟨rfl, HW.out⟩
    · by_cases hk0 : k = 0
      · subst hk0
        clear kc
        go_wp2_with fail
        go_roundg (4)
        case measure => have := HKQ.out; omega
        case rel => exact ⟨1, by omega, rfl, Lib.hid rfl, HB, HW⟩
      · obtain ⟨s, hs, hcell⟩ : ∃ s, (((k : Int) = 1 ∧ s = tab) ∨ ((k : Int) = 2 ∧ s = tas) ∨ ((k : Int) = 3 ∧ s = tor)) ∧ wr.cell? ⟨w.heap.size, k, none⟩ = some (.string s) := by
          obtain rfl | rfl | rfl : k = 1 ∨ k = 2 ∨ k = 3 := by omega
          · exact ⟨tab, .inl ⟨rfl, rfl⟩, q1⟩
          · exact ⟨tas, .inr (.inl ⟨rfl, rfl⟩), q2⟩
          · exact ⟨tor, .inr (.inr ⟨rfl, rfl⟩), q3⟩
        have HA := Lib.hid (find_all hs)
        have hsz : s.size ≤ maxLen := by rcases hs with ⟨_, rfl⟩ | ⟨_, rfl⟩ | ⟨_, rfl⟩ <;> decide
        have HSZ := Lib.hid hsz
        have hk1 : 1 ≤ k := by omega
        have hk3 : k < 4 := by omega
        have g0 : ((k : Int) == 0) = false := by simp; omega
        have g1 : ((k : Int) != (k : Int)) = false := by simp
        clear q0 q1 q2 q3 hs hsz hk hk4 hk0
        go_wp2_with (first
          | (go_at_call 8; refine (comp_any _ _ _ HSZ.out).mono ?_; intro e w5 hq; (obtain ⟨hb, p, rfl, hpk, hpt, hpr, hpa⟩ := comp_yes (by rw [HA.out.1]) hq); (have HB5 := Lib.hid hb; have HPA := Lib.hid hpa; have HPK := Lib.hid hpk; have HPT := Lib.hid hpt; have HPR := Lib.hid hpr; clear hq hb hpk hpt hpr hpa); dsimp only)
          | (go_at_call 12; refine (ps_find (p := p) (B := wr.heap.size) (s := xab) (m := m) (Ps.one (HPA.out.below ((Below.refl _ _).alloc (Nat.le_refl _) _))) (List.mem_singleton.mpr rfl) (buf_lit (heap_alloc_new w5 _)) (by decide) (by rw [((HB5.out.alloc HB5.out.size _).cell (p := ⟨0, 0, none⟩) (by show 0 < wr.heap.size; have := H0.out; have := HW.out.size; omega))]; exact HMR.out)).mono ?_; rintro e w6 ⟨f, t, ok, rfl, hf, hps, hk, hge⟩; (obtain ⟨rfl, rfl, rfl⟩ := HA.out.2 f t ok (by rw [← HPR.out]; exact hf)); (obtain ⟨pv, hpb⟩ := (hps.at_ p (List.mem_singleton.mpr rfl)).blk); (rw [HPK.out, HPT.out] at hpb); have HPB := Lib.hid hpb; have HB6 : Hid (Below wr.heap.size wr w6) := Lib.hid (kp_below (HB5.out.alloc HB5.out.size _) hk hge (by rw [al_size]; have := HB5.out.size; omega)); clear hf hps hk hge hpb; dsimp only)
          | (go_at_call 10; refine (kind_any HPB.out).mono ?_; rintro e w7 ⟨rfl, rfl⟩)
          | (go_at_call 11; refine (text_any HPB.out).mono ?_; rintro e w7 ⟨rfl, rfl⟩))
        go_roundg (4 - k)
        case measure => have := HKQ.out; omega
        case rel => exact ⟨k + 1, by omega, by go_num, Lib.hid (by omega), Lib.hid (HB.out.below HB6.out HB.out.lt), Lib.hid (HW.out.trans (HB6.out.mono HW.out.size))⟩
end Go.Proofs.Ytdgidcfmggmbiaa.Qp
