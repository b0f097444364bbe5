/- The law BookPacks: the walk. -/
import Derived.Test.YtnognmbapciegaaT3
namespace Go.Proofs.Ytnognmbapciegaa.Bk
open Go.RowKit Go.Proofs.YtnognmbapciegaaW.PrintWords Go.Proofs.YtnognmbapciegaaW.PrintLast Go.Proofs.YtnognmbapciegaaW.PrintMore Go.Proofs.Ytnognmbapciegaa.PBk
set_option linter.unusedVariables false
set_option linter.unusedSimpArgs false

theorem evs_len : ∀ (es : List S44), (∀ e, e ∈ es → EvOk e) → (evsB es).length ≤ es.length * 1048700
  | [], _ => by simp [evsB]
  | e :: es, h => by
    have h1 := h e (by simp)
    have h2 := evs_len es (fun x hx => h x (by simp [hx]))
    have h3 : evsB (e :: es) = evB e ++ evsB es := rfl
    have h4 := h1.s1
    have t1 := (num_len e.f0).2
    have t2 := (num_len (e.f1 + 1)).2
    have t3 := (num_len e.f3).2
    have t4 := (num_len (e.f2.size : Int)).2
    rw [h3, List.length_append, List.length_cons]
    simp only [evB, txt, List.length_append, bytesOf_length]
    omega
theorem reses_len : ∀ (l : List (S42 × List S44)), (∀ x, x ∈ l → RsOk x) → (resesB l).length ≤ l.length * 200 + (l.map fun x => x.2.length).sum * 1048700
  | [], _ => by simp [resesB]
  | x :: l, h => by
    have h1 := h x (by simp)
    have h2 := reses_len l (fun y hy => h y (by simp [hy]))
    have h3 : resesB (x :: l) = resB x ++ resesB l := rfl
    have h4 := h1.s1
    have h5 := evs_len x.2 h1.es
    have t1 := (num_len (x.1.f0.size : Int)).2
    have t2 := (num_len x.1.f1).2
    have t3 := (num_len (x.2.length : Int)).2
    rw [h3, List.length_append, List.length_cons, List.map_cons, List.sum_cons, Nat.add_mul]
    simp only [resB, txt, List.length_append, bytesOf_length]
    omega
theorem zip_sum : ∀ (rs : List S42) (ts : List (List S44)), rs.length = ts.length → ((rs.zip ts).map fun x => x.2.length).sum = total ts
  | [], [], _ => rfl
  | r :: rs, t :: ts, h => by
    have := zip_sum rs ts (by simpa using h)
    simp only [List.zip_cons_cons, List.map_cons, List.sum_cons, total] at this ⊢
    omega
  | [], t :: ts, h => by simp at h
  | r :: rs, [], h => by simp at h
theorem pack_len {en : Ent} (hr : rightE en = true) (s : Sm en) (hf : en.rs.length + en.ts.length + total en.ts ≤ 500) : (pack en).length ≤ 1099511627776 := by
  have h1 := sm_ok hr s
  have h2 := reses_len (en.rs.zip en.ts) h1.rs
  have h3 := zip_sum en.rs en.ts h1.l0
  have t1 := (num_len en.g).2
  have t2 := (num_len (en.rs.length : Int)).2
  rw [h3, List.length_zip] at h2
  have h4 : min en.rs.length en.ts.length ≤ 500 := by omega
  unfold pack
  rw [List.length_append, List.length_append]
  omega
theorem c8' {w : World} {en : Ent} {G : Int} {A1 A2 : Option Addr} {n1 c1 n2 c2 : Nat} (hG : G = en.g) (h : EntV w en A1 n1 c1 A2 n2 c2) (s : Sm en) : Calls Try.prog 8 #[.agg #[.int .i64 G, .slice A1 n1 c1, .slice A2 n2 c2]] w fun e w' => e = .returned (.bool (rightE en)) ∧ Below w.heap.size w w' := by
  subst hG
  exact c8 h s
theorem c10' {w : World} {en : Ent} {G : Int} {A1 A2 : Option Addr} {n1 c1 n2 c2 : Nat} (hG : G = en.g) (h : EntV w en A1 n1 c1 A2 n2 c2) (s : Sm en) : Calls Try.prog 10 #[.agg #[.int .i64 G, .slice A1 n1 c1, .slice A2 n2 c2]] w fun e w' => e = .returned (.bool (rightE en)) ∧ Below w.heap.size w w' := by
  subst hG
  exact c10 h s
theorem c9' {w : World} {en : Ent} {G : Int} {A1 A2 : Option Addr} {n1 c1 n2 c2 : Nat} (hG : G = en.g) (h : EntV w en A1 n1 c1 A2 n2 c2) (s : Sm en) (hr : rightE en = true) (ho : (pack en).length ≤ 8796093022208) : Calls Try.prog 9 #[.agg #[.int .i64 G, .slice A1 n1 c1, .slice A2 n2 c2]] w (P9 w (pack en) 0) := by
  subst hG
  exact c9 h s hr ho
theorem c9bad' {w : World} {en : Ent} {G : Int} {A1 A2 : Option Addr} {n1 c1 n2 c2 : Nat} (hG : G = en.g) (h : EntV w en A1 n1 c1 A2 n2 c2) (s : Sm en) (hr : rightE en = false) : Calls Try.prog 9 #[.agg #[.int .i64 G, .slice A1 n1 c1, .slice A2 n2 c2]] w fun e w' => e = .returned (.tuple #[.slice none 0 0, .int .i64 1]) ∧ Below w.heap.size w w' := by
  subst hG
  exact c9bad h s hr
theorem c13' {w : World} {en : Ent} {G : Int} {A1 A2 : Option Addr} {n1 c1 n2 c2 : Nat} (hG : G = en.g) (h : EntV w en A1 n1 c1 A2 n2 c2) (s : Sm en) (hr : rightE en = true) (ho : (pack en).length ≤ 8796093022208) : Calls Try.prog 13 #[.agg #[.int .i64 G, .slice A1 n1 c1, .slice A2 n2 c2]] w (P13 w (pack en)) := by
  subst hG
  exact c13 h s hr ho
theorem c12t {w w0 w1 : World} {xs : List Int} {A1 A2 : Option Addr} {n1 c1 n2 c2 : Nat} (h1 : Bytes w0 w xs A1 n1 c1) (h2 : Bytes w1 w xs A2 n2 c2) (hn : xs.length ≤ 140737488355328) : Calls Try.prog 12 #[.slice A1 n1 c1, .slice A2 n2 c2] w fun e w' => e = .returned (.bool true) ∧ Below w.heap.size w w' := by
  have := c12 h1 h2 hn
  rw [decide_eq_true rfl] at this
  exact this

set_option maxHeartbeats 1000000 in
theorem packs_walk (w : World) (en : Ent) (A1 : Option Addr) (n1 c1 : Nat) (A2 : Option Addr) (n2 c2 : Nat) (hE : EntV w en A1 n1 c1 A2 n2 c2) (hS : Sm en) : Calls Try.prog 3 #[.agg #[.int .i64 en.g, .slice A1 n1 c1, .slice A2 n2 c2]] w fun e w' => e = .returned (.bool true) ∧ Below w.heap.size w w' := by
  have HE := Lib.hid hE
  have HS := Lib.hid hS
  obtain ⟨G, hG⟩ : ∃ G, G = en.g := ⟨_, rfl⟩
  have HG := Lib.hid hG
  obtain ⟨fb, hfew, hfc⟩ := c7 hE hS
  rw [← hG] at hfc ⊢
  have HFC := Lib.hid hfc
  have HB0 : Hid (Below w.heap.size w (w.alloc (.cells #[.int .i64 G, .slice A1 n1 c1, .slice A2 n2 c2] 25))) := Lib.hid (al_below w _)
  have HX0 : Hid ((w.alloc (.cells #[.int .i64 G, .slice A1 n1 c1, .slice A2 n2 c2] 25)).heap[w.heap.size]? = some (.cells #[.int .i64 G, .slice A1 n1 c1, .slice A2 n2 c2] 25 (0, 0))) := Lib.hid (blk_new w _)
  clear hG hfc hE hS
  cases fb with
  | false =>
    clear hfew
    go_enter Try.func3, Try.ntmps3
    go_wp2_with (first
      | (go_at_call 7; go_loud (refine (HFC.out _ HB1.out).mono ?_; rintro e' w2 ⟨rfl, hb⟩; have HB2 := Lib.hid (HB1.out.trans (hb.mono HB1.out.size)); have hz := blk_below HX1.out hb; have HX2 := Lib.hid hz; have e02 : w2.cell? ⟨w.heap.size, 0, none⟩ = some (.int .i64 G) := blk_cell hz 0; have e12 : w2.cell? ⟨w.heap.size, 1, none⟩ = some (.slice A1 n1 c1) := blk_cell hz 1; have e22 : w2.cell? ⟨w.heap.size, 2, none⟩ = some (.slice A2 n2 c2) := blk_cell hz 2; clear hz; clear hb))
      | (go_at_call 6; go_loud (refine (packing_any _).mono ?_; rintro e' w1 ⟨rfl, hb⟩; have HB1 := Lib.hid (HB0.out.trans (hb.mono HB0.out.size)); have hz := blk_below HX0.out hb; have HX1 := Lib.hid hz; have e01 : w1.cell? ⟨w.heap.size, 0, none⟩ = some (.int .i64 G) := blk_cell hz 0; have e11 : w1.cell? ⟨w.heap.size, 1, none⟩ = some (.slice A1 n1 c1) := blk_cell hz 1; have e21 : w1.cell? ⟨w.heap.size, 2, none⟩ = some (.slice A2 n2 c2) := blk_cell hz 2; clear hz; clear hb)))
    go_ret
    exact ⟨rfl, HB2.out⟩
  | true =>
    cases hr : rightE en with
    | false =>
      have HR := Lib.hid hr
      clear hr hfew
      go_enter Try.func3, Try.ntmps3
      go_wp2_with (first
        | (go_at_call 10; go_loud (refine (c10' HG.out (HE.out.below HB4.out) HS.out).mono ?_; (try simp only [HR.out]); rintro e' w5 ⟨rfl, hb⟩; have HB5 := Lib.hid (HB4.out.trans (hb.mono HB4.out.size)); have hz := blk_below HX4.out hb; have HX5 := Lib.hid hz; have e05 : w5.cell? ⟨w.heap.size, 0, none⟩ = some (.int .i64 G) := blk_cell hz 0; have e15 : w5.cell? ⟨w.heap.size, 1, none⟩ = some (.slice A1 n1 c1) := blk_cell hz 1; have e25 : w5.cell? ⟨w.heap.size, 2, none⟩ = some (.slice A2 n2 c2) := blk_cell hz 2; clear hz; clear hb))
        | (go_at_call 9; go_loud (refine (c9bad' HG.out (HE.out.below HB3.out) HS.out HR.out).mono ?_; rintro e' w4 ⟨rfl, hb⟩; have HB4 := Lib.hid (HB3.out.trans (hb.mono HB3.out.size)); have hz := blk_below HX3.out hb; have HX4 := Lib.hid hz; have e04 : w4.cell? ⟨w.heap.size, 0, none⟩ = some (.int .i64 G) := blk_cell hz 0; have e14 : w4.cell? ⟨w.heap.size, 1, none⟩ = some (.slice A1 n1 c1) := blk_cell hz 1; have e24 : w4.cell? ⟨w.heap.size, 2, none⟩ = some (.slice A2 n2 c2) := blk_cell hz 2; clear hz; clear hb))
        | (go_at_call 8; go_loud (refine (c8' HG.out (HE.out.below HB2.out) HS.out).mono ?_; (try simp only [HR.out]); rintro e' w3 ⟨rfl, hb⟩; have HB3 := Lib.hid (HB2.out.trans (hb.mono HB2.out.size)); have hz := blk_below HX2.out hb; have HX3 := Lib.hid hz; have e03 : w3.cell? ⟨w.heap.size, 0, none⟩ = some (.int .i64 G) := blk_cell hz 0; have e13 : w3.cell? ⟨w.heap.size, 1, none⟩ = some (.slice A1 n1 c1) := blk_cell hz 1; have e23 : w3.cell? ⟨w.heap.size, 2, none⟩ = some (.slice A2 n2 c2) := blk_cell hz 2; clear hz; clear hb))
        | (go_at_call 7; go_loud (refine (HFC.out _ HB1.out).mono ?_; rintro e' w2 ⟨rfl, hb⟩; have HB2 := Lib.hid (HB1.out.trans (hb.mono HB1.out.size)); have hz := blk_below HX1.out hb; have HX2 := Lib.hid hz; have e02 : w2.cell? ⟨w.heap.size, 0, none⟩ = some (.int .i64 G) := blk_cell hz 0; have e12 : w2.cell? ⟨w.heap.size, 1, none⟩ = some (.slice A1 n1 c1) := blk_cell hz 1; have e22 : w2.cell? ⟨w.heap.size, 2, none⟩ = some (.slice A2 n2 c2) := blk_cell hz 2; clear hz; clear hb))
        | (go_at_call 6; go_loud (refine (packing_any _).mono ?_; rintro e' w1 ⟨rfl, hb⟩; have HB1 := Lib.hid (HB0.out.trans (hb.mono HB0.out.size)); have hz := blk_below HX0.out hb; have HX1 := Lib.hid hz; have e01 : w1.cell? ⟨w.heap.size, 0, none⟩ = some (.int .i64 G) := blk_cell hz 0; have e11 : w1.cell? ⟨w.heap.size, 1, none⟩ = some (.slice A1 n1 c1) := blk_cell hz 1; have e21 : w1.cell? ⟨w.heap.size, 2, none⟩ = some (.slice A2 n2 c2) := blk_cell hz 2; clear hz; clear hb)))
      go_ret
      exact ⟨rfl, HB5.out⟩
    | true =>
      have HR := Lib.hid hr
      have HPL := Lib.hid (pack_len hr HS.out (hfew rfl))
      have C11 : Hid (∀ (w0 W : World) (A : Option Addr) (n c : Nat), Bytes w0 W (pack en) A n c → Calls Try.prog 11 #[.slice A n c] W (PS W G en (.int .i64 0))) := Lib.hid (fun w0 W A n c hb => by rw [HG.out]; exact c11s hb (pack_by en) HPL.out (unpack_pack HR.out HS.out))
      clear hr hfew
      go_enter Try.func3, Try.ntmps3
      go_wp2_with (first
        | (go_at_call 14; go_loud (refine (c14t HG.out HG.out (HN6.out.below (((al_below w6 (.cells #[.int .i64 G, .slice A3 n3 c3, .slice A4 n4 c4] 25)).trans (HK7.out.mono (al_below w6 (.cells #[.int .i64 G, .slice A3 n3 c3, .slice A4 n4 c4] 25)).size)).trans (HK8.out.mono ((al_below w6 (.cells #[.int .i64 G, .slice A3 n3 c3, .slice A4 n4 c4] 25)).trans (HK7.out.mono (al_below w6 (.cells #[.int .i64 G, .slice A3 n3 c3, .slice A4 n4 c4] 25)).size)).size))) (HE.out.below HB8.out) HS.out).mono ?_; rintro e' w9 ⟨rfl, hb⟩; have HB9 := Lib.hid (HB8.out.trans (hb.mono HB8.out.size)); have hz := blk_below HX8.out hb; have HX9 := Lib.hid hz; have e09 : w9.cell? ⟨w.heap.size, 0, none⟩ = some (.int .i64 G) := blk_cell hz 0; have e19 : w9.cell? ⟨w.heap.size, 1, none⟩ = some (.slice A1 n1 c1) := blk_cell hz 1; have e29 : w9.cell? ⟨w.heap.size, 2, none⟩ = some (.slice A2 n2 c2) := blk_cell hz 2; clear hz; clear hb))
        | (go_at_call 12; go_loud (refine (c12t (HY6.out.below HK7.out) HY7.out (by have := HPL.out; omega)).mono ?_; rintro e' w8 ⟨rfl, hb⟩; have HB8 := Lib.hid (HB7.out.trans (hb.mono HB7.out.size)); have hz := blk_below HX7.out hb; have HX8 := Lib.hid hz; have e08 : w8.cell? ⟨w.heap.size, 0, none⟩ = some (.int .i64 G) := blk_cell hz 0; have e18 : w8.cell? ⟨w.heap.size, 1, none⟩ = some (.slice A1 n1 c1) := blk_cell hz 1; have e28 : w8.cell? ⟨w.heap.size, 2, none⟩ = some (.slice A2 n2 c2) := blk_cell hz 2; clear hz; have hx8 := blk_below (blk_below (blk_new w6 (.cells #[.int .i64 G, .slice A3 n3 c3, .slice A4 n4 c4] 25)) HK7.out) hb; have x08 : w8.cell? ⟨w6.heap.size, 0, none⟩ = some (.int .i64 G) := blk_cell hx8 0; have x18 : w8.cell? ⟨w6.heap.size, 1, none⟩ = some (.slice A3 n3 c3) := blk_cell hx8 1; have x28 : w8.cell? ⟨w6.heap.size, 2, none⟩ = some (.slice A4 n4 c4) := blk_cell hx8 2; have HK8 := Lib.hid hb; clear hx8; clear hb))
        | (go_at_call 13; go_loud (refine (c13' HG.out (HE.out.below HB6.out) HS.out HR.out (by have := HPL.out; omega)).mono ?_; rintro e' w7 ⟨Ac, nc, cc, rfl, hy, hb⟩; have HB7 := Lib.hid (HB6.out.trans (hb.mono HB6.out.size)); have hz := blk_below HX6.out hb; have HX7 := Lib.hid hz; have e07 : w7.cell? ⟨w.heap.size, 0, none⟩ = some (.int .i64 G) := blk_cell hz 0; have e17 : w7.cell? ⟨w.heap.size, 1, none⟩ = some (.slice A1 n1 c1) := blk_cell hz 1; have e27 : w7.cell? ⟨w.heap.size, 2, none⟩ = some (.slice A2 n2 c2) := blk_cell hz 2; clear hz; have HY7 := Lib.hid hy; have HK7 := Lib.hid hb; clear hy; clear hb))
        | (go_at_call 11; go_loud (refine (C11.out _ _ _ _ _ (HY4.out.below HK5.out)).mono ?_; rintro e' w6 ⟨A3, n3, c3, A4, n4, c4, rfl, hen, hb⟩; have HN6 := Lib.hid hen; have HY6 := Lib.hid (HY4.out.below (HK5.out.trans ((hb.mono HK5.out.size).trans ((al_below w6 (.cells #[.int .i64 G, .slice A3 n3 c3, .slice A4 n4 c4] 25)).mono (Nat.le_trans HK5.out.size hb.size))))); have HB6 := Lib.hid ((HB5.out.trans (hb.mono HB5.out.size)).trans ((al_below w6 (.cells #[.int .i64 G, .slice A3 n3 c3, .slice A4 n4 c4] 25)).mono (HB5.out.trans (hb.mono HB5.out.size)).size)); have hz := blk_alloc (blk_below HX5.out hb) (.cells #[.int .i64 G, .slice A3 n3 c3, .slice A4 n4 c4] 25); have HX6 := Lib.hid hz; have e06 : (w6.alloc (.cells #[.int .i64 G, .slice A3 n3 c3, .slice A4 n4 c4] 25)).cell? ⟨w.heap.size, 0, none⟩ = some (.int .i64 G) := blk_cell hz 0; have e16 : (w6.alloc (.cells #[.int .i64 G, .slice A3 n3 c3, .slice A4 n4 c4] 25)).cell? ⟨w.heap.size, 1, none⟩ = some (.slice A1 n1 c1) := blk_cell hz 1; have e26 : (w6.alloc (.cells #[.int .i64 G, .slice A3 n3 c3, .slice A4 n4 c4] 25)).cell? ⟨w.heap.size, 2, none⟩ = some (.slice A2 n2 c2) := blk_cell hz 2; clear hz hb hen))
        | (go_at_call 10; go_loud (refine (c10' HG.out (HE.out.below HB4.out) HS.out).mono ?_; (try simp only [HR.out]); rintro e' w5 ⟨rfl, hb⟩; have HB5 := Lib.hid (HB4.out.trans (hb.mono HB4.out.size)); have hz := blk_below HX4.out hb; have HX5 := Lib.hid hz; have e05 : w5.cell? ⟨w.heap.size, 0, none⟩ = some (.int .i64 G) := blk_cell hz 0; have e15 : w5.cell? ⟨w.heap.size, 1, none⟩ = some (.slice A1 n1 c1) := blk_cell hz 1; have e25 : w5.cell? ⟨w.heap.size, 2, none⟩ = some (.slice A2 n2 c2) := blk_cell hz 2; clear hz; have HK5 := Lib.hid hb; clear hb))
        | (go_at_call 9; go_loud (refine (c9' HG.out (HE.out.below HB3.out) HS.out HR.out (by have := HPL.out; omega)).mono ?_; rintro e' w4 ⟨Ab, nb, cb, rfl, hy, hb⟩; have HB4 := Lib.hid (HB3.out.trans (hb.mono HB3.out.size)); have hz := blk_below HX3.out hb; have HX4 := Lib.hid hz; have e04 : w4.cell? ⟨w.heap.size, 0, none⟩ = some (.int .i64 G) := blk_cell hz 0; have e14 : w4.cell? ⟨w.heap.size, 1, none⟩ = some (.slice A1 n1 c1) := blk_cell hz 1; have e24 : w4.cell? ⟨w.heap.size, 2, none⟩ = some (.slice A2 n2 c2) := blk_cell hz 2; clear hz; have HY4 := Lib.hid hy; clear hy; clear hb))
        | (go_at_call 8; go_loud (refine (c8' HG.out (HE.out.below HB2.out) HS.out).mono ?_; (try simp only [HR.out]); rintro e' w3 ⟨rfl, hb⟩; have HB3 := Lib.hid (HB2.out.trans (hb.mono HB2.out.size)); have hz := blk_below HX2.out hb; have HX3 := Lib.hid hz; have e03 : w3.cell? ⟨w.heap.size, 0, none⟩ = some (.int .i64 G) := blk_cell hz 0; have e13 : w3.cell? ⟨w.heap.size, 1, none⟩ = some (.slice A1 n1 c1) := blk_cell hz 1; have e23 : w3.cell? ⟨w.heap.size, 2, none⟩ = some (.slice A2 n2 c2) := blk_cell hz 2; clear hz; clear hb))
        | (go_at_call 7; go_loud (refine (HFC.out _ HB1.out).mono ?_; rintro e' w2 ⟨rfl, hb⟩; have HB2 := Lib.hid (HB1.out.trans (hb.mono HB1.out.size)); have hz := blk_below HX1.out hb; have HX2 := Lib.hid hz; have e02 : w2.cell? ⟨w.heap.size, 0, none⟩ = some (.int .i64 G) := blk_cell hz 0; have e12 : w2.cell? ⟨w.heap.size, 1, none⟩ = some (.slice A1 n1 c1) := blk_cell hz 1; have e22 : w2.cell? ⟨w.heap.size, 2, none⟩ = some (.slice A2 n2 c2) := blk_cell hz 2; clear hz; clear hb))
        | (go_at_call 6; go_loud (refine (packing_any _).mono ?_; rintro e' w1 ⟨rfl, hb⟩; have HB1 := Lib.hid (HB0.out.trans (hb.mono HB0.out.size)); have hz := blk_below HX0.out hb; have HX1 := Lib.hid hz; have e01 : w1.cell? ⟨w.heap.size, 0, none⟩ = some (.int .i64 G) := blk_cell hz 0; have e11 : w1.cell? ⟨w.heap.size, 1, none⟩ = some (.slice A1 n1 c1) := blk_cell hz 1; have e21 : w1.cell? ⟨w.heap.size, 2, none⟩ = some (.slice A2 n2 c2) := blk_cell hz 2; clear hz; clear hb)))
      go_ret
      exact ⟨rfl, HB9.out⟩
end Go.Proofs.Ytnognmbapciegaa.Bk
