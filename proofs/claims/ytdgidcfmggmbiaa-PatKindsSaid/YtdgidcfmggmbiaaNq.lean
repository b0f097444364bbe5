/- A pattern with a machine: Find; all patterns' Find; Compile. -/
import Derived.Test.YtdgidcfmggmbiaaMq
import Derived.Test.YtdgidcfmggmbiaaNo
import Derived.Deep.RegionHeld3
namespace Go.Proofs.Ytdgidcfmggmbiaa.Qp
set_option linter.unusedVariables false
set_option linter.unusedSimpArgs false
open Go.RowKit Go.Proofs.Ytdgidcfmggmbiaa.Mem Go.Proofs.Ytdgidcfmggmbiaa.Re Go.Proofs.Ytdgidcfmggmbiaa.Nm Go.Proofs.Ytdgidcfmggmbiaa.Tree Go.Proofs.Ytdgidcfmggmbiaa.PRx Go.Proofs.Ytdgidcfmggmbiaa.Rx Go.Proofs.YtdgidcfmggmbiaaW.PrintWords

set_option maxHeartbeats 2000000 in
set_option maxRecDepth 100000 in
theorem find_tree {w : World} {b m base : Nat} {kind stp : Int} {r : Re} {x s : ByteArray} {v : Value} (hb : Blk w b 48 #[.int .i64 kind, .string x, .pointer (some ⟨m, 0, none⟩)]) (hM : Mach w base m r stp) (h : BufAt w v s) (hs : s.size ≤ 1000000000) :
    Calls Try.prog 12 #[.pointer (some ⟨b, 0, none⟩), v] w fun e w' => ∃ f t ok stp', e = .returned (.tuple #[.int .i64 f, .int .i64 t, .bool ok]) ∧ FindP s r f t ok ∧ Mach w' base m r stp' ∧ Kp w w' (fun k => k = m) := by
  have k2 := hb.cell 2
  simp only [List.getElem?_toArray, List.getElem?_cons_zero, List.getElem?_cons_succ] at k2
  have hc1 := h.convert
  have hc2 := h.drew.convert
  have hcn : ∀ n, (convert 38 9 v).run Try.prog (w.drewN n) = .ok (.string s) (w.drewN n) := fun n => (h.drewN n).convert
  have HF : Hid (∀ W, Below w.heap.size w W → Calls Try.prog 19 #[.pointer (some ⟨m, 0, none⟩), .string s] W fun e w' => ∃ f t ok stp', e = .returned (.tuple #[.int .i64 f, .int .i64 t, .bool ok]) ∧ FindP s r f t ok ∧ Mach w' base m r stp' ∧ Kp w w' (fun k => k = m)) := Lib.hid fun W hW => by
    refine (find_any W base m r stp s (hM.below hW) hs).mono ?_
    rintro e w' ⟨f, t, ok, stp', h1, h2, _, _, h3, h4⟩
    exact ⟨f, t, ok, stp', h1, h2, h3, (Kp.of_below hW (fun k a c => by omega)).trans h4 (fun _ _ c => c)⟩
  clear hb hM h hs
  go_enter Try.func12, Try.ntmps12
  go_wp2_with fail
  go_region_with (first | (go_at_call 19; refine (HF.out _ (by first | exact Below.refl _ _ | exact below_drew (Below.refl _ _) | exact below_drewN (Below.refl _ _) _)).mono ?_; rintro e w2 ⟨f, t, ok, stp', rfl, h1, h2, h3⟩; (have H1 := Lib.hid h1; have H2 := Lib.hid h2; have H3 := Lib.hid h3; clear h1 h2 h3)))
  all_goals
    go_wp2
    go_ret3
    exact ⟨_, _, _, _, rfl, H1.out, H2.out, H3.out⟩
/-- Find, of one of some patterns. -/
theorem ps_find {B : Nat} {w : World} {l : List Pn} {p : Pn} {s : ByteArray} {v : Value} {m : Int} (h : Ps B w l) (hp : p ∈ l) (hv : BufAt w v s) (hs : s.size ≤ 1000000000) (hm : w.cell? ⟨0, 0, none⟩ = some (.int .i64 m)) :
    Calls Try.prog 12 #[.pointer (some ⟨p.b, 0, none⟩), v] w fun e w' => ∃ f t ok, e = .returned (.tuple #[.int .i64 f, .int .i64 t, .bool ok]) ∧ FindP s p.r f t ok ∧ Ps B w' l ∧ Kp w w' (fun k => p.mb = some k ∧ ∃ cs, Blk w k 76 cs) ∧ ∀ k, p.mb = some k → B ≤ k := by
  have hat := h.at_ p hp
  obtain ⟨h1, h2, h3⟩ := hat
  cases hmb : p.mb with
  | none =>
    rw [hmb] at h3
    rw [h3.2]
    refine (find_text h3.1 h2 hv hs hm).mono ?_
    rintro e w' ⟨f, t, ok, he, hf, hb⟩
    exact ⟨f, t, ok, he, hf, h.below hb, Kp.of_below hb (fun k a c => by omega), fun k hk => by cases hk⟩
  | some mb =>
    rw [hmb] at h3
    obtain ⟨h4, h5, base, stp, h6⟩ := h3
    refine (find_tree h4 h6 hv hs).mono ?_
    rintro e w' ⟨f, t, ok, stp', he, hf, hM, hk⟩
    exact ⟨f, t, ok, he, hf, h.ran hp hmb hk h6 hM, hk.mono (fun k _ e => by subst e; exact ⟨rfl, h6.blk⟩), fun k e => by injection e with e; subst e; exact h5⟩
/-- A pattern's error, its place; its expression. -/
def compP (kind : Int) (s : ByteArray) : Int × Int :=
  if kind = 1 then (if 256 < s.size then (2, 0) else (0, 0)) else if kind = 2 then (globP (bI s)).2 else if kind = 3 then (parseP (bI s)).2 else (1, 0)
def reP (kind : Int) (s : ByteArray) : Re := if kind = 1 then exRe s else if kind = 2 then re (globP (bI s)).1 else re (parseP (bI s)).1
/-- What Compile answers. -/
def CompQ (kind : Int) (s : ByteArray) (w : World) (e : Ending) (w' : World) : Prop :=
  Below w.heap.size w w' ∧ (((compP kind s).1 = 0 ∧ ∃ p : Pn, e = .returned (.tuple #[.pointer (some ⟨p.b, 0, none⟩), .int .i64 0, .int .i64 0]) ∧ p.kind = kind ∧ p.text = s ∧ p.r = reP kind s ∧ PnAt w.heap.size w' p) ∨
    ((compP kind s).1 ≠ 0 ∧ e = .returned (.tuple #[.pointer none, .int .i64 (compP kind s).1, .int .i64 (compP kind s).2]))) 
set_option maxHeartbeats 1000000 in
set_option maxRecDepth 100000 in
theorem comp_exact (w : World) (s : ByteArray) (hm : s.size ≤ maxLen) : Calls Try.prog 8 #[.int .i64 1, .string s] w (CompQ 1 s w) := by
  unfold maxLen at hm
  by_cases hl : 256 < s.size
  · have HC : Hid (compP 1 s = (2, 0)) := Lib.hid (by simp [compP, hl])
    have g0 : decide ((256 : Int) < (s.size : Int)) = true := by simp; omega
    clear hl
    go_enter Try.func8, Try.ntmps8
    go_wp2_with fail
    go_ret3
    exact ⟨Below.refl _ _, .inr (by rw [HC.out]; exact ⟨by decide, rfl⟩)⟩
  · have HC : Hid (compP 1 s = (0, 0)) := Lib.hid (by simp [compP, hl])
    have g0 : decide ((256 : Int) < (s.size : Int)) = false := by simp; omega
    have HL := Lib.hid hl
    clear hl
    go_enter Try.func8, Try.ntmps8
    go_wp2_with fail
    go_ret3
    exact ⟨(Below.refl _ _).alloc (Nat.le_refl _) _, .inl (by rw [HC.out]; exact ⟨rfl, ⟨w.heap.size, none, 1, s, exRe s⟩, rfl, rfl, rfl, by simp [reP], ⟨Nat.le_refl _, by have := HL.out; show s.size ≤ 256; omega, Blk.new _ _ _, rfl⟩⟩)⟩
set_option maxHeartbeats 1000000 in
set_option maxRecDepth 100000 in
theorem comp_else (kind : Int) (w : World) (s : ByteArray) (h1 : kind ≠ 1) (h2 : kind ≠ 2) (h3 : kind ≠ 3) : Calls Try.prog 8 #[.int .i64 kind, .string s] w (CompQ kind s w) := by
  have HC : Hid (compP kind s = (1, 0)) := Lib.hid (by simp [compP, h1, h2, h3])
  have g1 : (kind == 1) = false := by simpa using h1
  have g2 : (kind == 2) = false := by simpa using h2
  have g3 : (kind == 3) = false := by simpa using h3
  clear h1 h2 h3
  go_enter Try.func8, Try.ntmps8
  go_wp2_with fail
  go_ret3
  exact ⟨Below.refl _ _, .inr (by rw [HC.out]; exact ⟨by decide, rfl⟩)⟩
end Go.Proofs.Ytdgidcfmggmbiaa.Qp
