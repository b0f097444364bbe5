/- The law BookUnpacks: the walk. -/
import Derived.Test.YtnognmbapciegaaKe
namespace Go.Proofs.Ytnognmbapciegaa.Bk
open Go.RowKit Go.Proofs.YtnognmbapciegaaW.PrintWords Go.Proofs.YtnognmbapciegaaW.PrintLast Go.Proofs.YtnognmbapciegaaW.PrintMore Go.Proofs.Ytnognmbapciegaa.PBk
set_option linter.unusedVariables false
set_option linter.unusedSimpArgs false

theorem getRs_each : ∀ (k : Nat) {xs r : List Int} {l : List (S42 × List S44)}, By xs → getRs k xs = some (l, r) → ∀ x, x ∈ l → x.2.length ≤ xs.length
  | 0, xs, r, l, hb, h => by
    simp only [getRs, Option.some.injEq, Prod.mk.injEq] at h
    obtain ⟨rfl, rfl⟩ := h
    intro x hx
    cases hx
  | k + 1, xs, r, l, hb, h => by
    rw [getRs] at h
    obtain ⟨⟨e, r1⟩, h1, h⟩ := Option.bind_eq_some_iff.mp h
    obtain ⟨⟨l', r2⟩, h2, h⟩ := Option.bind_eq_some_iff.mp h
    simp only [Option.some.injEq, Prod.mk.injEq] at h
    obtain ⟨rfl, rfl⟩ := h
    have i1 := getR_len hb h1
    have b1 : By r1 := by
      have := (getR_inv hb h1).1
      rw [this] at hb
      exact hb.right
    intro x hx
    rcases List.mem_cons.mp hx with rfl | hx
    · have i1' : r1.length + 1 + x.2.length ≤ xs.length := i1
      omega
    · have := getRs_each k b1 h2 x hx
      omega
theorem unpack_inv {xs : List Int} {en : Ent} (hb : By xs) (h : unpack xs = some en) : getAll xs = some (en, []) ∧ rightE en = true := by
  unfold unpack at h
  obtain ⟨⟨e, r⟩, h1, h2⟩ := Option.bind_eq_some_iff.mp h
  by_cases hc : (r.isEmpty && rightE e) = true
  · simp only [hc, if_true, Option.some.injEq] at h2
    subst h2
    simp only [Bool.and_eq_true, List.isEmpty_iff] at hc
    rw [hc.1] at h1
    exact ⟨h1, hc.2⟩
  · simp [hc] at h2
theorem unpack_sm {xs : List Int} {en : Ent} (hb : By xs) (hx : xs.length ≤ 1099511627776) (h : unpack xs = some en) : Sm en := by
  have h1 := (unpack_inv hb h).1
  unfold getAll at h1
  obtain ⟨⟨g, r1⟩, m1, h1⟩ := Option.bind_eq_some_iff.mp h1
  obtain ⟨⟨n, r2⟩, m2, h1⟩ := Option.bind_eq_some_iff.mp h1
  obtain ⟨⟨l, r3⟩, m3, h1⟩ := Option.bind_eq_some_iff.mp h1
  simp only [Option.some.injEq, Prod.mk.injEq] at h1
  obtain ⟨rfl, rfl⟩ := h1
  have b1 := getI_by hb m1
  have b2 := get_by b1 m2
  have l1 := getI_len hb m1
  have l2 := get_len b1 m2
  have l3 := getRs_len _ b2 m3
  have l4 := (getRs_inv _ _ _ _ b2 m3).2.1
  have l5 := getRs_each _ b2 m3
  refine ⟨by show (l.map _).length ≤ _; rw [List.length_map]; omega, by show (l.map _).length ≤ _; rw [List.length_map]; omega, fun t ht => ?_⟩
  obtain ⟨x, hx', rfl⟩ := List.mem_map.mp ht
  have := l5 x hx'
  omega
/-- Both readings at one outcome. -/
def PN (w : World) (word : Value) (e : Ending) (w' : World) : Prop := e = .returned (.tuple #[.agg #[.int .i64 0, .slice none 0 0, .slice none 0 0], word]) ∧ Below w.heap.size w w'
def PS (w : World) (g : Int) (en : Ent) (word : Value) (e : Ending) (w' : World) : Prop := ∃ (A1 : Option Addr) (n1 c1 : Nat) (A2 : Option Addr) (n2 c2 : Nat), e = .returned (.tuple #[.agg #[.int .i64 g, .slice A1 n1 c1, .slice A2 n2 c2], word]) ∧ EntV w' en A1 n1 c1 A2 n2 c2 ∧ Below w.heap.size w w'
theorem PU.some_ {w w' : World} {en : Ent} {yes no : Value} {e : Ending} (h : PU w (some en) yes no e w') : PS w en.g en yes e w' := h
theorem EntV.zero {w : World} {A1 A2 : Option Addr} {n1 c1 n2 c2 : Nat} (h : EntV w ⟨0, [], []⟩ A1 n1 c1 A2 n2 c2) : n1 = 0 ∧ n2 = 0 := ⟨h.h1, h.h2⟩
theorem c11n {w w0 : World} {xs : List Int} {A : Option Addr} {n c : Nat} (h : Bytes w0 w xs A n c) (hy : By xs) (hx : xs.length ≤ 1099511627776) (hu : unpack xs = none) : Calls Try.prog 11 #[.slice A n c] w (PS w 0 ⟨0, [], []⟩ (.int .i64 80)) := by
  have := c11 h hy hx
  rw [hu] at this
  exact this
theorem c15n {w w0 : World} {xs : List Int} {A : Option Addr} {n c : Nat} (h : Bytes w0 w xs A n c) (hy : By xs) (hx : xs.length ≤ 1099511627776) (hu : unpack xs = none) : Calls Try.prog 15 #[.slice A n c] w (PS w 0 ⟨0, [], []⟩ (.bool false)) := by
  have := c15 h hy hx
  rw [hu] at this
  exact this
theorem c11s {w w0 : World} {xs : List Int} {A : Option Addr} {n c : Nat} (h : Bytes w0 w xs A n c) (hy : By xs) (hx : xs.length ≤ 1099511627776) {en : Ent} (hu : unpack xs = some en) : Calls Try.prog 11 #[.slice A n c] w (PS w en.g en (.int .i64 0)) := by
  have := c11 h hy hx
  rw [hu] at this
  exact this
theorem c15s {w w0 : World} {xs : List Int} {A : Option Addr} {n c : Nat} (h : Bytes w0 w xs A n c) (hy : By xs) (hx : xs.length ≤ 1099511627776) {en : Ent} (hu : unpack xs = some en) : Calls Try.prog 15 #[.slice A n c] w (PS w en.g en (.bool true)) := by
  have := c15 h hy hx
  rw [hu] at this
  exact this
theorem c14t {w : World} {a : Ent} {g g' : Int} {A1 A2 A3 A4 : Option Addr} {n1 c1 n2 c2 n3 c3 n4 c4 : Nat} (hg : g = a.g) (hg' : g' = a.g) (h : EntV w a A1 n1 c1 A2 n2 c2) (h' : EntV w a A3 n3 c3 A4 n4 c4) (s : Sm a) : Calls Try.prog 14 #[.agg #[.int .i64 g, .slice A1 n1 c1, .slice A2 n2 c2], .agg #[.int .i64 g', .slice A3 n3 c3, .slice A4 n4 c4]] w fun e w' => e = .returned (.bool true) ∧ Below w.heap.size w w' := by
  subst hg
  subst hg'
  have := c14 h h' s
  rw [decide_eq_true rfl] at this
  exact this
theorem sm0 : Sm ⟨0, [], []⟩ := ⟨by simp, by simp, fun t ht => by cases ht⟩

set_option maxHeartbeats 800000 in
theorem unpacks_walk (w : World) (xs : List Int) (A : Option Addr) (n c : Nat) (h : Bytes w w xs A n c) (hy : By xs) : Calls Try.prog 4 #[.slice A n c] w fun e w' => e = .returned (.bool true) ∧ Below w.heap.size w w' := by
  have H := Lib.hid h
  by_cases hn : n > 5000
  · have g1 : decide ((n : Int) > 5000) = true := by simp; omega
    clear h hn
    go_enter Try.func4, Try.ntmps4
    go_wp2_with (first | (go_at_call 6; refine (packing_any _).mono ?_; rintro e w1 ⟨rfl, hb1⟩))
    go_ret
    exact ⟨rfl, hb1⟩
  · have g1 : decide ((n : Int) > 5000) = false := by simp; omega
    have hxl : xs.length ≤ 1099511627776 := by have := h.1; omega
    have HX := Lib.hid hxl
    clear h hn hxl
    cases hu : unpack xs with
    | none =>
      have HU := Lib.hid hu
      clear hu
      go_enter Try.func4, Try.ntmps4
      go_wp2_with (first
        | (go_at_call 14; go_loud ((with_reducible refine (c14t rfl rfl (HE2.out.below (HB3b.out.trans ((al_below w3 (.cells #[.int .i64 0, .slice A3 n3 c3, .slice A4 n4 c4] 25)).mono HB3b.out.size))) (EntV.nil _) sm0).mono ?_); rintro e w4 ⟨rfl, hb⟩; have HB4 := Lib.hid ((HB3.out.trans ((al_below w3 (.cells #[.int .i64 0, .slice A3 n3 c3, .slice A4 n4 c4] 25)).mono HB3.out.size)).trans (hb.mono (HB3.out.trans ((al_below w3 (.cells #[.int .i64 0, .slice A3 n3 c3, .slice A4 n4 c4] 25)).mono HB3.out.size)).size)); clear hb))
        | (go_at_call 15; go_loud (refine (c15n (H.out.below (HB2.out.trans ((al_below w2 _).mono HB2.out.size))) hy HX.out HU.out).mono ?_; rintro e w3 ⟨A3, n3, c3, A4, n4, c4, rfl, hen, hb⟩; have HE3 := Lib.hid hen; have HB3b := Lib.hid ((al_below w2 (.cells #[.int .i64 0, .slice A1 n1 c1, .slice A2 n2 c2] 25)).trans (hb.mono (al_below w2 (.cells #[.int .i64 0, .slice A1 n1 c1, .slice A2 n2 c2] 25)).size)); have HB3 := Lib.hid ((HB2.out.trans ((al_below w2 _).mono HB2.out.size)).trans (hb.mono (HB2.out.trans ((al_below w2 _).mono HB2.out.size)).size)); have hz := blk_alloc (blk_below (blk_new w2 (.cells #[.int .i64 0, .slice A1 n1 c1, .slice A2 n2 c2] 25)) hb) (.cells #[.int .i64 0, .slice A3 n3 c3, .slice A4 n4 c4] 25); have z0 : (w3.alloc (.cells #[.int .i64 0, .slice A3 n3 c3, .slice A4 n4 c4] 25)).cell? ⟨w2.heap.size, 0, none⟩ = some (.int .i64 0) := blk_cell hz 0; have z1 : (w3.alloc (.cells #[.int .i64 0, .slice A3 n3 c3, .slice A4 n4 c4] 25)).cell? ⟨w2.heap.size, 1, none⟩ = some (.slice A1 n1 c1) := blk_cell hz 1; have z2 : (w3.alloc (.cells #[.int .i64 0, .slice A3 n3 c3, .slice A4 n4 c4] 25)).cell? ⟨w2.heap.size, 2, none⟩ = some (.slice A2 n2 c2) := blk_cell hz 2; clear hb hen hz))
        | (go_at_call 11; go_loud (refine (c11n (H.out.below HB1.out) hy HX.out HU.out).mono ?_; rintro e w2 ⟨A1, n1, c1, A2, n2, c2, rfl, hen, hb⟩; have HE2 := Lib.hid hen; have HB2 := Lib.hid (HB1.out.trans (hb.mono HB1.out.size)); clear hb hen))
        | (go_at_call 6; refine (packing_any _).mono ?_; rintro e w1 ⟨rfl, hb1⟩; have HB1 := Lib.hid hb1; clear hb1))
      go_ret
      exact ⟨rfl, HB4.out⟩
    | some en =>
      have SM := Lib.hid (unpack_sm hy HX.out hu)
      have HU := Lib.hid hu
      clear hu
      obtain ⟨G, hG⟩ : ∃ G, G = en.g := ⟨_, rfl⟩
      have GE := Lib.hid hG
      have C11 : Hid (∀ W, Below w.heap.size w W → Calls Try.prog 11 #[.slice A n c] W (PS W G en (.int .i64 0))) := Lib.hid (fun W hb => by rw [hG]; exact c11s (H.out.below hb) hy HX.out HU.out)
      have C15 : Hid (∀ W, Below w.heap.size w W → Calls Try.prog 15 #[.slice A n c] W (PS W G en (.bool true))) := Lib.hid (fun W hb => by rw [hG]; exact c15s (H.out.below hb) hy HX.out HU.out)
      clear hG
      go_enter Try.func4, Try.ntmps4
      go_wp2_with (first
        | (go_at_call 14; go_loud ((with_reducible refine (c14t GE.out GE.out (HE2.out.below (HB3b.out.trans ((al_below w3 (.cells #[.int .i64 G, .slice A3 n3 c3, .slice A4 n4 c4] 25)).mono HB3b.out.size))) (HE3.out.below (al_below w3 (.cells #[.int .i64 G, .slice A3 n3 c3, .slice A4 n4 c4] 25))) SM.out).mono ?_); rintro e w4 ⟨rfl, hb⟩; have HB4 := Lib.hid ((HB3.out.trans ((al_below w3 (.cells #[.int .i64 G, .slice A3 n3 c3, .slice A4 n4 c4] 25)).mono HB3.out.size)).trans (hb.mono (HB3.out.trans ((al_below w3 (.cells #[.int .i64 G, .slice A3 n3 c3, .slice A4 n4 c4] 25)).mono HB3.out.size)).size)); clear hb))
        | (go_at_call 15; go_loud (refine (C15.out _ (HB2.out.trans ((al_below w2 _).mono HB2.out.size))).mono ?_; rintro e w3 ⟨A3, n3, c3, A4, n4, c4, rfl, hen, hb⟩; have HE3 := Lib.hid hen; have HB3b := Lib.hid ((al_below w2 (.cells #[.int .i64 G, .slice A1 n1 c1, .slice A2 n2 c2] 25)).trans (hb.mono (al_below w2 (.cells #[.int .i64 G, .slice A1 n1 c1, .slice A2 n2 c2] 25)).size)); have HB3 := Lib.hid ((HB2.out.trans ((al_below w2 _).mono HB2.out.size)).trans (hb.mono (HB2.out.trans ((al_below w2 _).mono HB2.out.size)).size)); have hz := blk_alloc (blk_below (blk_new w2 (.cells #[.int .i64 G, .slice A1 n1 c1, .slice A2 n2 c2] 25)) hb) (.cells #[.int .i64 G, .slice A3 n3 c3, .slice A4 n4 c4] 25); have z0 : (w3.alloc (.cells #[.int .i64 G, .slice A3 n3 c3, .slice A4 n4 c4] 25)).cell? ⟨w2.heap.size, 0, none⟩ = some (.int .i64 G) := blk_cell hz 0; have z1 : (w3.alloc (.cells #[.int .i64 G, .slice A3 n3 c3, .slice A4 n4 c4] 25)).cell? ⟨w2.heap.size, 1, none⟩ = some (.slice A1 n1 c1) := blk_cell hz 1; have z2 : (w3.alloc (.cells #[.int .i64 G, .slice A3 n3 c3, .slice A4 n4 c4] 25)).cell? ⟨w2.heap.size, 2, none⟩ = some (.slice A2 n2 c2) := blk_cell hz 2; clear hb hen hz))
        | (go_at_call 11; go_loud (refine (C11.out _ HB1.out).mono ?_; rintro e w2 ⟨A1, n1, c1, A2, n2, c2, rfl, hen, hb⟩; have HE2 := Lib.hid hen; have HB2 := Lib.hid (HB1.out.trans (hb.mono HB1.out.size)); clear hb hen))
        | (go_at_call 6; refine (packing_any _).mono ?_; rintro e w1 ⟨rfl, hb1⟩; have HB1 := Lib.hid hb1; clear hb1))
      go_ret
      exact ⟨rfl, HB4.out⟩
end Go.Proofs.Ytnognmbapciegaa.Bk
