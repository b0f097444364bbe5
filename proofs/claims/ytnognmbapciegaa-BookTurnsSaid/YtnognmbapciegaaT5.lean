/- The law BookTurns: the walk. -/
import Derived.Test.YtnognmbapciegaaT4
import Derived.Test.YtnognmbapciegaaRz
import Derived.BigQuiet
namespace Go.Proofs.Ytnognmbapciegaa.Bk
open Go.RowKit Go.BigFrame Go.Proofs.YtnognmbapciegaaW.PrintWords Go.Proofs.YtnognmbapciegaaW.PrintLast Go.Proofs.YtnognmbapciegaaW.PrintMore Go.Proofs.Ytnognmbapciegaa.PBk
set_option linter.unusedVariables false
set_option linter.unusedSimpArgs false

theorem andM (n : Int) : bits .and .i64 n 1048575 = n % 1048576 := by
  have hand : (BitVec.ofInt 64 n &&& BitVec.ofInt 64 1048575).toNat = (n % 1048576).toNat := by
    rw [BitVec.toNat_and, BitVec.toNat_ofInt, BitVec.toNat_ofInt]
    rw [show ((1048575 : Int) % (2 ^ 64 : Nat)).toNat = 2 ^ 20 - 1 by decide, Nat.and_two_pow_sub_one_eq_mod]
    omega
  show IntKind.i64.wrap ((BitVec.ofInt 64 n &&& BitVec.ofInt 64 1048575).toNat : Int) = _
  rw [hand, IntKind.wrap_i64]
  omega
theorem pack_inj {a b : Ent} (ha : rightE a = true) (hb : rightE b = true) (sa : Sm a) (sb : Sm b) : pack a = pack b ↔ a = b := by
  refine ⟨fun h => ?_, fun h => by rw [h]⟩
  have h1 := unpack_pack ha sa
  have h2 := unpack_pack hb sb
  rw [h, h2] at h1
  exact (Option.some.inj h1).symm
theorem pack_front {a : Ent} (ha : rightE a = true) (sa : Sm a) {k : Nat} (hk : k < (pack a).length) : unpack ((pack a).take k) = none := by
  cases hu : unpack ((pack a).take k) with
  | none => rfl
  | some b =>
    have hy : By ((pack a).take k) := (pack_by a).take k
    have h1 := (unpack_inv hy hu).1
    have h2 := getAll_inv hy h1
    have h3 : pack a = pack b ++ (pack a).drop k := by
      have : pack a = (pack a).take k ++ (pack a).drop k := (List.take_append_drop k _).symm
      rw [h2.1, List.append_nil] at this
      exact this
    have h4 := getAll_pack b ((pack a).drop k) h2.2
    have h5 := getAll_pack a [] (sm_ok ha sa)
    rw [List.append_nil, h3, h4] at h5
    have h6 : (pack a).drop k = [] := (Prod.mk.inj (Option.some.inj h5)).2
    have h7 := congrArg List.length h6
    rw [List.length_drop, List.length_nil] at h7
    omega
theorem pack_pos (a : Ent) : 0 < (pack a).length := by
  have := (num_len a.g).1
  unfold pack
  rw [List.length_append]
  omega
theorem bytes_take {w0 w : World} {xs : List Int} {A : Option Addr} {n c : Nat} (h : Bytes w0 w xs A n c) {k : Int} (h0 : 0 ≤ k) (hk : k ≤ (n : Int)) : ∃ m : Nat, (∀ W : World, (Instr.slice 28 (.slice A n c) none (some (.int .i64 k)) none).run Try.prog W = .ok (.slice A m c) W) ∧ Bytes w0 w (xs.take k.toNat) A m c := by
  obtain ⟨rfl, hl, hC⟩ := h
  obtain ⟨i05, hi05, _, hsz5, _⟩ := info_parts info5
  obtain ⟨hrun, hreads, hlen⟩ := print_take_of (P := Try.prog) (Value.int .u8) (0 : Int) 28 5 .i64 Try.underlying28 hi05 hsz5 A c xs k h0 hk hl
  exact ⟨(xs.take k.toNat).length, hrun, rfl, hlen, Kd.C_of_reads (h1 := fun _ => rfl) (hreads w (Kd.reads_of_C (enc := Value.int .u8) (d := (0 : Int)) (h1 := fun _ => rfl) hC))⟩

theorem c11f {w w0 : World} {a : Ent} {A : Option Addr} {n c k : Nat} (ha : rightE a = true) (sa : Sm a) (hp : (pack a).length ≤ 1099511627776) (hk : k < (pack a).length) (h : Bytes w0 w ((pack a).take k) A n c) : Calls Try.prog 11 #[.slice A n c] w (PS w 0 ⟨0, [], []⟩ (.int .i64 80)) :=
  c11n h ((pack_by a).take k) (by rw [List.length_take]; omega) (pack_front ha sa hk)
set_option maxHeartbeats 2000000 in
theorem turns_walk (w : World) (a : Ent) (A1 : Option Addr) (n1 c1 : Nat) (A2 : Option Addr) (n2 c2 : Nat) (hE : EntV w a A1 n1 c1 A2 n2 c2) (hS : Sm a) (b : Ent) (B1 : Option Addr) (m1 d1 : Nat) (B2 : Option Addr) (m2 d2 : Nat) (hD : EntV w b B1 m1 d1 B2 m2 d2) (hT : Sm b) (at_ : Int) (hat : (Lit.int .i64 at_).wf = true) : Calls Try.prog 5 #[.agg #[.int .i64 a.g, .slice A1 n1 c1, .slice A2 n2 c2], .agg #[.int .i64 b.g, .slice B1 m1 d1, .slice B2 m2 d2], .int .i64 at_] w fun e w' => e = .returned (.bool true) ∧ Below w.heap.size w w' := by
  have HE := Lib.hid hE
  have HS := Lib.hid hS
  have HD := Lib.hid hD
  have HT := Lib.hid hT
  obtain ⟨G, hG⟩ : ∃ G, G = a.g := ⟨_, rfl⟩
  obtain ⟨F, hF⟩ : ∃ F, F = b.g := ⟨_, rfl⟩
  have HG := Lib.hid hG
  have HF := Lib.hid hF
  obtain ⟨fa, hfa, hca⟩ := c7 hE hS
  obtain ⟨fb, hfb, hcb⟩ := c7 hD hT
  rw [← hG] at hca ⊢
  rw [← hF] at hcb ⊢
  have HCA := Lib.hid hca
  have HCB := Lib.hid hcb
  have HB0 : Hid (Below w.heap.size w ((w.alloc (.cells #[.int .i64 G, .slice A1 n1 c1, .slice A2 n2 c2] 25)).alloc (.cells #[.int .i64 F, .slice B1 m1 d1, .slice B2 m2 d2] 25))) := Lib.hid (((Below.refl _ _).alloc (Nat.le_refl _) _).alloc (by simp) _)
  have HX0 : Hid (((w.alloc (.cells #[.int .i64 G, .slice A1 n1 c1, .slice A2 n2 c2] 25)).alloc (.cells #[.int .i64 F, .slice B1 m1 d1, .slice B2 m2 d2] 25)).heap[w.heap.size]? = some (.cells #[.int .i64 G, .slice A1 n1 c1, .slice A2 n2 c2] 25 (0, 0)) ∧ ((w.alloc (.cells #[.int .i64 G, .slice A1 n1 c1, .slice A2 n2 c2] 25)).alloc (.cells #[.int .i64 F, .slice B1 m1 d1, .slice B2 m2 d2] 25)).heap[w.heap.size + 1]? = some (.cells #[.int .i64 F, .slice B1 m1 d1, .slice B2 m2 d2] 25 (0, 0))) := Lib.hid ⟨blk_alloc (blk_new w _) _, by have := blk_new (w.alloc (.cells #[.int .i64 G, .slice A1 n1 c1, .slice A2 n2 c2] 25)) (.cells #[.int .i64 F, .slice B1 m1 d1, .slice B2 m2 d2] 25); rw [al_size] at this; exact this⟩
  clear hG hF hca hcb hE hS hD hT
  have ham := andM at_
  obtain ⟨M, hM⟩ : ∃ M, M = at_ % 1048576 := ⟨_, rfl⟩
  have hM0 : 0 ≤ M ∧ M < 1048576 := by omega
  have ham2 : bits .and .i64 at_ 1048575 = M := by rw [ham, hM]
  clear ham hM hat
  cases fa with
  | false =>
    clear hfa hfb
    go_enter Try.func5, Try.ntmps5
    go_wp2_with (first
      | (go_at_call 7; (have hguard := HB1; clear hguard); go_loud (refine (HCA.out _ HB1.out).mono ?_; rintro e' w2 ⟨rfl, hb⟩; have HB2 := Lib.hid (HB1.out.trans (hb.mono HB1.out.size)); have hz := And.intro (blk_below HX1.out.1 hb) (blk_below HX1.out.2 hb); have HX2 := Lib.hid hz; have e02 : w2.cell? ⟨w.heap.size, 0, none⟩ = some (.int .i64 G) := blk_cell hz.1 0; have e12 : w2.cell? ⟨w.heap.size, 1, none⟩ = some (.slice A1 n1 c1) := blk_cell hz.1 1; have e22 : w2.cell? ⟨w.heap.size, 2, none⟩ = some (.slice A2 n2 c2) := blk_cell hz.1 2; have f02 : w2.cell? ⟨w.heap.size + 1, 0, none⟩ = some (.int .i64 F) := blk_cell hz.2 0; have f12 : w2.cell? ⟨w.heap.size + 1, 1, none⟩ = some (.slice B1 m1 d1) := blk_cell hz.2 1; have f22 : w2.cell? ⟨w.heap.size + 1, 2, none⟩ = some (.slice B2 m2 d2) := blk_cell hz.2 2; clear hz hb))
      | (go_at_call 6; go_loud (refine (packing_any _).mono ?_; rintro e' w1 ⟨rfl, hb⟩; have HB1 := Lib.hid (HB0.out.trans (hb.mono HB0.out.size)); have hz := And.intro (blk_below HX0.out.1 hb) (blk_below HX0.out.2 hb); have HX1 := Lib.hid hz; have e01 : w1.cell? ⟨w.heap.size, 0, none⟩ = some (.int .i64 G) := blk_cell hz.1 0; have e11 : w1.cell? ⟨w.heap.size, 1, none⟩ = some (.slice A1 n1 c1) := blk_cell hz.1 1; have e21 : w1.cell? ⟨w.heap.size, 2, none⟩ = some (.slice A2 n2 c2) := blk_cell hz.1 2; have f01 : w1.cell? ⟨w.heap.size + 1, 0, none⟩ = some (.int .i64 F) := blk_cell hz.2 0; have f11 : w1.cell? ⟨w.heap.size + 1, 1, none⟩ = some (.slice B1 m1 d1) := blk_cell hz.2 1; have f21 : w1.cell? ⟨w.heap.size + 1, 2, none⟩ = some (.slice B2 m2 d2) := blk_cell hz.2 2; clear hz hb)))
    go_ret
    exact ⟨rfl, HB2.out⟩
  | true =>
    cases fb with
    | false =>
      clear hfa hfb
      go_enter Try.func5, Try.ntmps5
      go_wp2_with (first
        | (go_at_call 7; (have hguard := HB2; clear hguard); go_loud (refine (HCB.out _ HB2.out).mono ?_; rintro e' w3 ⟨rfl, hb⟩; have HB3 := Lib.hid (HB2.out.trans (hb.mono HB2.out.size)); have hz := And.intro (blk_below HX2.out.1 hb) (blk_below HX2.out.2 hb); have HX3 := Lib.hid hz; have e03 : w3.cell? ⟨w.heap.size, 0, none⟩ = some (.int .i64 G) := blk_cell hz.1 0; have e13 : w3.cell? ⟨w.heap.size, 1, none⟩ = some (.slice A1 n1 c1) := blk_cell hz.1 1; have e23 : w3.cell? ⟨w.heap.size, 2, none⟩ = some (.slice A2 n2 c2) := blk_cell hz.1 2; have f03 : w3.cell? ⟨w.heap.size + 1, 0, none⟩ = some (.int .i64 F) := blk_cell hz.2 0; have f13 : w3.cell? ⟨w.heap.size + 1, 1, none⟩ = some (.slice B1 m1 d1) := blk_cell hz.2 1; have f23 : w3.cell? ⟨w.heap.size + 1, 2, none⟩ = some (.slice B2 m2 d2) := blk_cell hz.2 2; clear hz hb))
        | (go_at_call 7; (have hguard := HB1; clear hguard); go_loud (refine (HCA.out _ HB1.out).mono ?_; rintro e' w2 ⟨rfl, hb⟩; have HB2 := Lib.hid (HB1.out.trans (hb.mono HB1.out.size)); have hz := And.intro (blk_below HX1.out.1 hb) (blk_below HX1.out.2 hb); have HX2 := Lib.hid hz; have e02 : w2.cell? ⟨w.heap.size, 0, none⟩ = some (.int .i64 G) := blk_cell hz.1 0; have e12 : w2.cell? ⟨w.heap.size, 1, none⟩ = some (.slice A1 n1 c1) := blk_cell hz.1 1; have e22 : w2.cell? ⟨w.heap.size, 2, none⟩ = some (.slice A2 n2 c2) := blk_cell hz.1 2; have f02 : w2.cell? ⟨w.heap.size + 1, 0, none⟩ = some (.int .i64 F) := blk_cell hz.2 0; have f12 : w2.cell? ⟨w.heap.size + 1, 1, none⟩ = some (.slice B1 m1 d1) := blk_cell hz.2 1; have f22 : w2.cell? ⟨w.heap.size + 1, 2, none⟩ = some (.slice B2 m2 d2) := blk_cell hz.2 2; clear hz hb))
        | (go_at_call 6; go_loud (refine (packing_any _).mono ?_; rintro e' w1 ⟨rfl, hb⟩; have HB1 := Lib.hid (HB0.out.trans (hb.mono HB0.out.size)); have hz := And.intro (blk_below HX0.out.1 hb) (blk_below HX0.out.2 hb); have HX1 := Lib.hid hz; have e01 : w1.cell? ⟨w.heap.size, 0, none⟩ = some (.int .i64 G) := blk_cell hz.1 0; have e11 : w1.cell? ⟨w.heap.size, 1, none⟩ = some (.slice A1 n1 c1) := blk_cell hz.1 1; have e21 : w1.cell? ⟨w.heap.size, 2, none⟩ = some (.slice A2 n2 c2) := blk_cell hz.1 2; have f01 : w1.cell? ⟨w.heap.size + 1, 0, none⟩ = some (.int .i64 F) := blk_cell hz.2 0; have f11 : w1.cell? ⟨w.heap.size + 1, 1, none⟩ = some (.slice B1 m1 d1) := blk_cell hz.2 1; have f21 : w1.cell? ⟨w.heap.size + 1, 2, none⟩ = some (.slice B2 m2 d2) := blk_cell hz.2 2; clear hz hb)))
      go_ret
      exact ⟨rfl, HB3.out⟩
    | true =>
      cases hra : rightE a with
      | false =>
        have HRA := Lib.hid hra
        clear hfa hfb hra
        go_enter Try.func5, Try.ntmps5
        go_wp2_with (first
          | (go_at_call 10; (have hguard := HB3; clear hguard); go_loud (refine (c10' HG.out (HE.out.below HB3.out) HS.out).mono ?_; (try simp only [HRA.out]); rintro e' w4 ⟨rfl, hb⟩; have HB4 := Lib.hid (HB3.out.trans (hb.mono HB3.out.size)); have hz := And.intro (blk_below HX3.out.1 hb) (blk_below HX3.out.2 hb); have HX4 := Lib.hid hz; have e04 : w4.cell? ⟨w.heap.size, 0, none⟩ = some (.int .i64 G) := blk_cell hz.1 0; have e14 : w4.cell? ⟨w.heap.size, 1, none⟩ = some (.slice A1 n1 c1) := blk_cell hz.1 1; have e24 : w4.cell? ⟨w.heap.size, 2, none⟩ = some (.slice A2 n2 c2) := blk_cell hz.1 2; have f04 : w4.cell? ⟨w.heap.size + 1, 0, none⟩ = some (.int .i64 F) := blk_cell hz.2 0; have f14 : w4.cell? ⟨w.heap.size + 1, 1, none⟩ = some (.slice B1 m1 d1) := blk_cell hz.2 1; have f24 : w4.cell? ⟨w.heap.size + 1, 2, none⟩ = some (.slice B2 m2 d2) := blk_cell hz.2 2; clear hz hb))
          | (go_at_call 7; (have hguard := HB2; clear hguard); go_loud (refine (HCB.out _ HB2.out).mono ?_; rintro e' w3 ⟨rfl, hb⟩; have HB3 := Lib.hid (HB2.out.trans (hb.mono HB2.out.size)); have hz := And.intro (blk_below HX2.out.1 hb) (blk_below HX2.out.2 hb); have HX3 := Lib.hid hz; have e03 : w3.cell? ⟨w.heap.size, 0, none⟩ = some (.int .i64 G) := blk_cell hz.1 0; have e13 : w3.cell? ⟨w.heap.size, 1, none⟩ = some (.slice A1 n1 c1) := blk_cell hz.1 1; have e23 : w3.cell? ⟨w.heap.size, 2, none⟩ = some (.slice A2 n2 c2) := blk_cell hz.1 2; have f03 : w3.cell? ⟨w.heap.size + 1, 0, none⟩ = some (.int .i64 F) := blk_cell hz.2 0; have f13 : w3.cell? ⟨w.heap.size + 1, 1, none⟩ = some (.slice B1 m1 d1) := blk_cell hz.2 1; have f23 : w3.cell? ⟨w.heap.size + 1, 2, none⟩ = some (.slice B2 m2 d2) := blk_cell hz.2 2; clear hz hb))
          | (go_at_call 7; (have hguard := HB1; clear hguard); go_loud (refine (HCA.out _ HB1.out).mono ?_; rintro e' w2 ⟨rfl, hb⟩; have HB2 := Lib.hid (HB1.out.trans (hb.mono HB1.out.size)); have hz := And.intro (blk_below HX1.out.1 hb) (blk_below HX1.out.2 hb); have HX2 := Lib.hid hz; have e02 : w2.cell? ⟨w.heap.size, 0, none⟩ = some (.int .i64 G) := blk_cell hz.1 0; have e12 : w2.cell? ⟨w.heap.size, 1, none⟩ = some (.slice A1 n1 c1) := blk_cell hz.1 1; have e22 : w2.cell? ⟨w.heap.size, 2, none⟩ = some (.slice A2 n2 c2) := blk_cell hz.1 2; have f02 : w2.cell? ⟨w.heap.size + 1, 0, none⟩ = some (.int .i64 F) := blk_cell hz.2 0; have f12 : w2.cell? ⟨w.heap.size + 1, 1, none⟩ = some (.slice B1 m1 d1) := blk_cell hz.2 1; have f22 : w2.cell? ⟨w.heap.size + 1, 2, none⟩ = some (.slice B2 m2 d2) := blk_cell hz.2 2; clear hz hb))
          | (go_at_call 6; go_loud (refine (packing_any _).mono ?_; rintro e' w1 ⟨rfl, hb⟩; have HB1 := Lib.hid (HB0.out.trans (hb.mono HB0.out.size)); have hz := And.intro (blk_below HX0.out.1 hb) (blk_below HX0.out.2 hb); have HX1 := Lib.hid hz; have e01 : w1.cell? ⟨w.heap.size, 0, none⟩ = some (.int .i64 G) := blk_cell hz.1 0; have e11 : w1.cell? ⟨w.heap.size, 1, none⟩ = some (.slice A1 n1 c1) := blk_cell hz.1 1; have e21 : w1.cell? ⟨w.heap.size, 2, none⟩ = some (.slice A2 n2 c2) := blk_cell hz.1 2; have f01 : w1.cell? ⟨w.heap.size + 1, 0, none⟩ = some (.int .i64 F) := blk_cell hz.2 0; have f11 : w1.cell? ⟨w.heap.size + 1, 1, none⟩ = some (.slice B1 m1 d1) := blk_cell hz.2 1; have f21 : w1.cell? ⟨w.heap.size + 1, 2, none⟩ = some (.slice B2 m2 d2) := blk_cell hz.2 2; clear hz hb)))
        go_ret
        exact ⟨rfl, HB4.out⟩
      | true =>
        cases hrb : rightE b with
        | false =>
          have HRA := Lib.hid hra
          have HRB := Lib.hid hrb
          clear hfa hfb hra hrb
          go_enter Try.func5, Try.ntmps5
          go_wp2_with (first
            | (go_at_call 10; (have hguard := HB4; clear hguard); go_loud (refine (c10' HF.out (HD.out.below HB4.out) HT.out).mono ?_; (try simp only [HRB.out]); rintro e' w5 ⟨rfl, hb⟩; have HB5 := Lib.hid (HB4.out.trans (hb.mono HB4.out.size)); have hz := And.intro (blk_below HX4.out.1 hb) (blk_below HX4.out.2 hb); have HX5 := Lib.hid hz; have e05 : w5.cell? ⟨w.heap.size, 0, none⟩ = some (.int .i64 G) := blk_cell hz.1 0; have e15 : w5.cell? ⟨w.heap.size, 1, none⟩ = some (.slice A1 n1 c1) := blk_cell hz.1 1; have e25 : w5.cell? ⟨w.heap.size, 2, none⟩ = some (.slice A2 n2 c2) := blk_cell hz.1 2; have f05 : w5.cell? ⟨w.heap.size + 1, 0, none⟩ = some (.int .i64 F) := blk_cell hz.2 0; have f15 : w5.cell? ⟨w.heap.size + 1, 1, none⟩ = some (.slice B1 m1 d1) := blk_cell hz.2 1; have f25 : w5.cell? ⟨w.heap.size + 1, 2, none⟩ = some (.slice B2 m2 d2) := blk_cell hz.2 2; clear hz hb))
            | (go_at_call 10; (have hguard := HB3; clear hguard); go_loud (refine (c10' HG.out (HE.out.below HB3.out) HS.out).mono ?_; (try simp only [HRA.out]); rintro e' w4 ⟨rfl, hb⟩; have HB4 := Lib.hid (HB3.out.trans (hb.mono HB3.out.size)); have hz := And.intro (blk_below HX3.out.1 hb) (blk_below HX3.out.2 hb); have HX4 := Lib.hid hz; have e04 : w4.cell? ⟨w.heap.size, 0, none⟩ = some (.int .i64 G) := blk_cell hz.1 0; have e14 : w4.cell? ⟨w.heap.size, 1, none⟩ = some (.slice A1 n1 c1) := blk_cell hz.1 1; have e24 : w4.cell? ⟨w.heap.size, 2, none⟩ = some (.slice A2 n2 c2) := blk_cell hz.1 2; have f04 : w4.cell? ⟨w.heap.size + 1, 0, none⟩ = some (.int .i64 F) := blk_cell hz.2 0; have f14 : w4.cell? ⟨w.heap.size + 1, 1, none⟩ = some (.slice B1 m1 d1) := blk_cell hz.2 1; have f24 : w4.cell? ⟨w.heap.size + 1, 2, none⟩ = some (.slice B2 m2 d2) := blk_cell hz.2 2; clear hz hb))
            | (go_at_call 7; (have hguard := HB2; clear hguard); go_loud (refine (HCB.out _ HB2.out).mono ?_; rintro e' w3 ⟨rfl, hb⟩; have HB3 := Lib.hid (HB2.out.trans (hb.mono HB2.out.size)); have hz := And.intro (blk_below HX2.out.1 hb) (blk_below HX2.out.2 hb); have HX3 := Lib.hid hz; have e03 : w3.cell? ⟨w.heap.size, 0, none⟩ = some (.int .i64 G) := blk_cell hz.1 0; have e13 : w3.cell? ⟨w.heap.size, 1, none⟩ = some (.slice A1 n1 c1) := blk_cell hz.1 1; have e23 : w3.cell? ⟨w.heap.size, 2, none⟩ = some (.slice A2 n2 c2) := blk_cell hz.1 2; have f03 : w3.cell? ⟨w.heap.size + 1, 0, none⟩ = some (.int .i64 F) := blk_cell hz.2 0; have f13 : w3.cell? ⟨w.heap.size + 1, 1, none⟩ = some (.slice B1 m1 d1) := blk_cell hz.2 1; have f23 : w3.cell? ⟨w.heap.size + 1, 2, none⟩ = some (.slice B2 m2 d2) := blk_cell hz.2 2; clear hz hb))
            | (go_at_call 7; (have hguard := HB1; clear hguard); go_loud (refine (HCA.out _ HB1.out).mono ?_; rintro e' w2 ⟨rfl, hb⟩; have HB2 := Lib.hid (HB1.out.trans (hb.mono HB1.out.size)); have hz := And.intro (blk_below HX1.out.1 hb) (blk_below HX1.out.2 hb); have HX2 := Lib.hid hz; have e02 : w2.cell? ⟨w.heap.size, 0, none⟩ = some (.int .i64 G) := blk_cell hz.1 0; have e12 : w2.cell? ⟨w.heap.size, 1, none⟩ = some (.slice A1 n1 c1) := blk_cell hz.1 1; have e22 : w2.cell? ⟨w.heap.size, 2, none⟩ = some (.slice A2 n2 c2) := blk_cell hz.1 2; have f02 : w2.cell? ⟨w.heap.size + 1, 0, none⟩ = some (.int .i64 F) := blk_cell hz.2 0; have f12 : w2.cell? ⟨w.heap.size + 1, 1, none⟩ = some (.slice B1 m1 d1) := blk_cell hz.2 1; have f22 : w2.cell? ⟨w.heap.size + 1, 2, none⟩ = some (.slice B2 m2 d2) := blk_cell hz.2 2; clear hz hb))
            | (go_at_call 6; go_loud (refine (packing_any _).mono ?_; rintro e' w1 ⟨rfl, hb⟩; have HB1 := Lib.hid (HB0.out.trans (hb.mono HB0.out.size)); have hz := And.intro (blk_below HX0.out.1 hb) (blk_below HX0.out.2 hb); have HX1 := Lib.hid hz; have e01 : w1.cell? ⟨w.heap.size, 0, none⟩ = some (.int .i64 G) := blk_cell hz.1 0; have e11 : w1.cell? ⟨w.heap.size, 1, none⟩ = some (.slice A1 n1 c1) := blk_cell hz.1 1; have e21 : w1.cell? ⟨w.heap.size, 2, none⟩ = some (.slice A2 n2 c2) := blk_cell hz.1 2; have f01 : w1.cell? ⟨w.heap.size + 1, 0, none⟩ = some (.int .i64 F) := blk_cell hz.2 0; have f11 : w1.cell? ⟨w.heap.size + 1, 1, none⟩ = some (.slice B1 m1 d1) := blk_cell hz.2 1; have f21 : w1.cell? ⟨w.heap.size + 1, 2, none⟩ = some (.slice B2 m2 d2) := blk_cell hz.2 2; clear hz hb)))
          go_ret
          exact ⟨rfl, HB5.out⟩
        | true =>
          have HRA := Lib.hid hra
          have HRB := Lib.hid hrb
          have HPA := Lib.hid (pack_len hra HS.out (hfa rfl))
          have HPB := Lib.hid (pack_len hrb HT.out (hfb rfl))
          have HPP := Lib.hid (pack_pos a)
          have HIN := Lib.hid (pack_inj hra hrb HS.out HT.out)
          clear hfa hfb hra hrb
          go_enter Try.func5, Try.ntmps5
          go_upto_region 9 with (first
            | (go_at_call 9; (have hguard := HB6; clear hguard); go_loud (refine (c9' HF.out (HD.out.below HB6.out) HT.out HRB.out (by have := HPB.out; omega)).mono ?_; rintro e' w7 ⟨Ay, ny, cy, rfl, hy, hb⟩; have HB7 := Lib.hid (HB6.out.trans (hb.mono HB6.out.size)); have hz := And.intro (blk_below HX6.out.1 hb) (blk_below HX6.out.2 hb); have HX7 := Lib.hid hz; have e07 : w7.cell? ⟨w.heap.size, 0, none⟩ = some (.int .i64 G) := blk_cell hz.1 0; have e17 : w7.cell? ⟨w.heap.size, 1, none⟩ = some (.slice A1 n1 c1) := blk_cell hz.1 1; have e27 : w7.cell? ⟨w.heap.size, 2, none⟩ = some (.slice A2 n2 c2) := blk_cell hz.1 2; have f07 : w7.cell? ⟨w.heap.size + 1, 0, none⟩ = some (.int .i64 F) := blk_cell hz.2 0; have f17 : w7.cell? ⟨w.heap.size + 1, 1, none⟩ = some (.slice B1 m1 d1) := blk_cell hz.2 1; have f27 : w7.cell? ⟨w.heap.size + 1, 2, none⟩ = some (.slice B2 m2 d2) := blk_cell hz.2 2; have HY7 := Lib.hid hy; have HK7 := Lib.hid hb; clear hy; clear hz hb))
            | (go_at_call 9; (have hguard := HB5; clear hguard); go_loud (refine (c9' HG.out (HE.out.below HB5.out) HS.out HRA.out (by have := HPA.out; omega)).mono ?_; rintro e' w6 ⟨Ax, nx, cx, rfl, hy, hb⟩; have HB6 := Lib.hid (HB5.out.trans (hb.mono HB5.out.size)); have hz := And.intro (blk_below HX5.out.1 hb) (blk_below HX5.out.2 hb); have HX6 := Lib.hid hz; have e06 : w6.cell? ⟨w.heap.size, 0, none⟩ = some (.int .i64 G) := blk_cell hz.1 0; have e16 : w6.cell? ⟨w.heap.size, 1, none⟩ = some (.slice A1 n1 c1) := blk_cell hz.1 1; have e26 : w6.cell? ⟨w.heap.size, 2, none⟩ = some (.slice A2 n2 c2) := blk_cell hz.1 2; have f06 : w6.cell? ⟨w.heap.size + 1, 0, none⟩ = some (.int .i64 F) := blk_cell hz.2 0; have f16 : w6.cell? ⟨w.heap.size + 1, 1, none⟩ = some (.slice B1 m1 d1) := blk_cell hz.2 1; have f26 : w6.cell? ⟨w.heap.size + 1, 2, none⟩ = some (.slice B2 m2 d2) := blk_cell hz.2 2; have HY6 := Lib.hid hy; have hnx : 0 < nx := (by have h1 := hy.1; have h2 := HPP.out; omega); have hnx2 : ((nx : Int) == 0) = false := (by simp; omega); have hnx3 : nx ≤ 1099511627776 := (by have h1 := hy.1; have h2 := HPA.out; omega); clear hy; clear hz hb))
            | (go_at_call 10; (have hguard := HB4; clear hguard); go_loud (refine (c10' HF.out (HD.out.below HB4.out) HT.out).mono ?_; (try simp only [HRB.out]); rintro e' w5 ⟨rfl, hb⟩; have HB5 := Lib.hid (HB4.out.trans (hb.mono HB4.out.size)); have hz := And.intro (blk_below HX4.out.1 hb) (blk_below HX4.out.2 hb); have HX5 := Lib.hid hz; have e05 : w5.cell? ⟨w.heap.size, 0, none⟩ = some (.int .i64 G) := blk_cell hz.1 0; have e15 : w5.cell? ⟨w.heap.size, 1, none⟩ = some (.slice A1 n1 c1) := blk_cell hz.1 1; have e25 : w5.cell? ⟨w.heap.size, 2, none⟩ = some (.slice A2 n2 c2) := blk_cell hz.1 2; have f05 : w5.cell? ⟨w.heap.size + 1, 0, none⟩ = some (.int .i64 F) := blk_cell hz.2 0; have f15 : w5.cell? ⟨w.heap.size + 1, 1, none⟩ = some (.slice B1 m1 d1) := blk_cell hz.2 1; have f25 : w5.cell? ⟨w.heap.size + 1, 2, none⟩ = some (.slice B2 m2 d2) := blk_cell hz.2 2; clear hz hb))
            | (go_at_call 10; (have hguard := HB3; clear hguard); go_loud (refine (c10' HG.out (HE.out.below HB3.out) HS.out).mono ?_; (try simp only [HRA.out]); rintro e' w4 ⟨rfl, hb⟩; have HB4 := Lib.hid (HB3.out.trans (hb.mono HB3.out.size)); have hz := And.intro (blk_below HX3.out.1 hb) (blk_below HX3.out.2 hb); have HX4 := Lib.hid hz; have e04 : w4.cell? ⟨w.heap.size, 0, none⟩ = some (.int .i64 G) := blk_cell hz.1 0; have e14 : w4.cell? ⟨w.heap.size, 1, none⟩ = some (.slice A1 n1 c1) := blk_cell hz.1 1; have e24 : w4.cell? ⟨w.heap.size, 2, none⟩ = some (.slice A2 n2 c2) := blk_cell hz.1 2; have f04 : w4.cell? ⟨w.heap.size + 1, 0, none⟩ = some (.int .i64 F) := blk_cell hz.2 0; have f14 : w4.cell? ⟨w.heap.size + 1, 1, none⟩ = some (.slice B1 m1 d1) := blk_cell hz.2 1; have f24 : w4.cell? ⟨w.heap.size + 1, 2, none⟩ = some (.slice B2 m2 d2) := blk_cell hz.2 2; clear hz hb))
            | (go_at_call 7; (have hguard := HB2; clear hguard); go_loud (refine (HCB.out _ HB2.out).mono ?_; rintro e' w3 ⟨rfl, hb⟩; have HB3 := Lib.hid (HB2.out.trans (hb.mono HB2.out.size)); have hz := And.intro (blk_below HX2.out.1 hb) (blk_below HX2.out.2 hb); have HX3 := Lib.hid hz; have e03 : w3.cell? ⟨w.heap.size, 0, none⟩ = some (.int .i64 G) := blk_cell hz.1 0; have e13 : w3.cell? ⟨w.heap.size, 1, none⟩ = some (.slice A1 n1 c1) := blk_cell hz.1 1; have e23 : w3.cell? ⟨w.heap.size, 2, none⟩ = some (.slice A2 n2 c2) := blk_cell hz.1 2; have f03 : w3.cell? ⟨w.heap.size + 1, 0, none⟩ = some (.int .i64 F) := blk_cell hz.2 0; have f13 : w3.cell? ⟨w.heap.size + 1, 1, none⟩ = some (.slice B1 m1 d1) := blk_cell hz.2 1; have f23 : w3.cell? ⟨w.heap.size + 1, 2, none⟩ = some (.slice B2 m2 d2) := blk_cell hz.2 2; clear hz hb))
            | (go_at_call 7; (have hguard := HB1; clear hguard); go_loud (refine (HCA.out _ HB1.out).mono ?_; rintro e' w2 ⟨rfl, hb⟩; have HB2 := Lib.hid (HB1.out.trans (hb.mono HB1.out.size)); have hz := And.intro (blk_below HX1.out.1 hb) (blk_below HX1.out.2 hb); have HX2 := Lib.hid hz; have e02 : w2.cell? ⟨w.heap.size, 0, none⟩ = some (.int .i64 G) := blk_cell hz.1 0; have e12 : w2.cell? ⟨w.heap.size, 1, none⟩ = some (.slice A1 n1 c1) := blk_cell hz.1 1; have e22 : w2.cell? ⟨w.heap.size, 2, none⟩ = some (.slice A2 n2 c2) := blk_cell hz.1 2; have f02 : w2.cell? ⟨w.heap.size + 1, 0, none⟩ = some (.int .i64 F) := blk_cell hz.2 0; have f12 : w2.cell? ⟨w.heap.size + 1, 1, none⟩ = some (.slice B1 m1 d1) := blk_cell hz.2 1; have f22 : w2.cell? ⟨w.heap.size + 1, 2, none⟩ = some (.slice B2 m2 d2) := blk_cell hz.2 2; clear hz hb))
            | (go_at_call 6; go_loud (refine (packing_any _).mono ?_; rintro e' w1 ⟨rfl, hb⟩; have HB1 := Lib.hid (HB0.out.trans (hb.mono HB0.out.size)); have hz := And.intro (blk_below HX0.out.1 hb) (blk_below HX0.out.2 hb); have HX1 := Lib.hid hz; have e01 : w1.cell? ⟨w.heap.size, 0, none⟩ = some (.int .i64 G) := blk_cell hz.1 0; have e11 : w1.cell? ⟨w.heap.size, 1, none⟩ = some (.slice A1 n1 c1) := blk_cell hz.1 1; have e21 : w1.cell? ⟨w.heap.size, 2, none⟩ = some (.slice A2 n2 c2) := blk_cell hz.1 2; have f01 : w1.cell? ⟨w.heap.size + 1, 0, none⟩ = some (.int .i64 F) := blk_cell hz.2 0; have f11 : w1.cell? ⟨w.heap.size + 1, 1, none⟩ = some (.slice B1 m1 d1) := blk_cell hz.2 1; have f21 : w1.cell? ⟨w.heap.size + 1, 2, none⟩ = some (.slice B2 m2 d2) := blk_cell hz.2 2; clear hz hb)))
          obtain ⟨mk, hrun, hbk⟩ := bytes_take (HY6.out.below HK7.out) (k := M % (nx : Int)) (Int.emod_nonneg _ (by omega)) (Int.le_of_lt (Int.emod_lt_of_pos _ (by omega)))
          have hkl : (M % (nx : Int)).toNat < (pack a).length := by
            have h1 := HY6.out.1
            have h2 := Int.emod_lt_of_pos M (show (0 : Int) < (nx : Int) by omega)
            have h3 := Int.emod_nonneg M (show (nx : Int) ≠ 0 by omega)
            omega
          have HKL := Lib.hid hkl
          have HBK := Lib.hid hbk
          have hz0 : (0 : Int) < (nx : Int) := by omega
          clear hkl hbk
          go_upto_region 10 with (first | (go_at_call 11; go_loud (refine (c11f HRA.out HS.out HPA.out HKL.out HBK.out).mono ?_; rintro e' w8 ⟨A3, n3, c3, A4, n4, c4, rfl, hen, hb⟩; have HK8 := Lib.hid hb; have HZ := Lib.hid hen.zero; clear hb hen)))
          have HB8 := Lib.hid (HB7.out.trans ((HK8.out.trans ((al_below w8 (.cells #[.int .i64 0, .slice A3 n3 c3, .slice A4 n4 c4] 25)).mono HK8.out.size)).mono HB7.out.size))
          have hk8 : ∀ c : BW (w8.alloc (.cells #[.int .i64 0, .slice A3 n3 c3, .slice A4 n4 c4] 25)), Below w7.heap.size w7 c.w1 := fun c => (HK8.out.trans ((al_below w8 (.cells #[.int .i64 0, .slice A3 n3 c3, .slice A4 n4 c4] 25)).mono HK8.out.size)).trans (c.hb.mono (HK8.out.trans ((al_below w8 (.cells #[.int .i64 0, .slice A3 n3 c3, .slice A4 n4 c4] 25)).mono HK8.out.size)).size)
          have hxa : ∀ c : BW (w8.alloc (.cells #[.int .i64 0, .slice A3 n3 c3, .slice A4 n4 c4] 25)), c.w1.heap[w.heap.size]? = some (.cells #[.int .i64 G, .slice A1 n1 c1, .slice A2 n2 c2] 25 (0, 0)) := fun c => blk_below HX7.out.1 (hk8 c)
          have hxb : ∀ c : BW (w8.alloc (.cells #[.int .i64 0, .slice A3 n3 c3, .slice A4 n4 c4] 25)), c.w1.heap[w.heap.size + 1]? = some (.cells #[.int .i64 F, .slice B1 m1 d1, .slice B2 m2 d2] 25 (0, 0)) := fun c => blk_below HX7.out.2 (hk8 c)
          have p0 : ∀ c : BW (w8.alloc (.cells #[.int .i64 0, .slice A3 n3 c3, .slice A4 n4 c4] 25)), c.w1.cell? ⟨w.heap.size, 0, none⟩ = some (.int .i64 G) := fun c => blk_cell (hxa c) 0
          have p1 : ∀ c : BW (w8.alloc (.cells #[.int .i64 0, .slice A3 n3 c3, .slice A4 n4 c4] 25)), c.w1.cell? ⟨w.heap.size, 1, none⟩ = some (.slice A1 n1 c1) := fun c => blk_cell (hxa c) 1
          have p2 : ∀ c : BW (w8.alloc (.cells #[.int .i64 0, .slice A3 n3 c3, .slice A4 n4 c4] 25)), c.w1.cell? ⟨w.heap.size, 2, none⟩ = some (.slice A2 n2 c2) := fun c => blk_cell (hxa c) 2
          have q0 : ∀ c : BW (w8.alloc (.cells #[.int .i64 0, .slice A3 n3 c3, .slice A4 n4 c4] 25)), c.w1.cell? ⟨w.heap.size + 1, 0, none⟩ = some (.int .i64 F) := fun c => blk_cell (hxb c) 0
          have q1 : ∀ c : BW (w8.alloc (.cells #[.int .i64 0, .slice A3 n3 c3, .slice A4 n4 c4] 25)), c.w1.cell? ⟨w.heap.size + 1, 1, none⟩ = some (.slice B1 m1 d1) := fun c => blk_cell (hxb c) 1
          have q2 : ∀ c : BW (w8.alloc (.cells #[.int .i64 0, .slice A3 n3 c3, .slice A4 n4 c4] 25)), c.w1.cell? ⟨w.heap.size + 1, 2, none⟩ = some (.slice B2 m2 d2) := fun c => blk_cell (hxb c) 2
          obtain ⟨P, hP⟩ : ∃ P, decide (a = b) = P := ⟨_, rfl⟩
          have hP2 : decide (pack a = pack b) = P := by rw [← hP]; exact decide_eq_decide.mpr HIN.out
          have D12 : ∀ c : BW (w8.alloc (.cells #[.int .i64 0, .slice A3 n3 c3, .slice A4 n4 c4] 25)), Calls Try.prog 12 #[.slice Ax nx cx, .slice Ay ny cy] c.w1 fun e' w' => e' = .returned (.bool P) ∧ Below c.w1.heap.size c.w1 w' := fun c => by
            have := c12 ((HY6.out.below HK7.out).below (hk8 c)) (HY7.out.below (hk8 c)) (by have := HPA.out; omega)
            rw [hP2] at this
            exact this
          have D14 : ∀ c : BW (w8.alloc (.cells #[.int .i64 0, .slice A3 n3 c3, .slice A4 n4 c4] 25)), Calls Try.prog 14 #[.agg #[.int .i64 G, .slice A1 n1 c1, .slice A2 n2 c2], .agg #[.int .i64 F, .slice B1 m1 d1, .slice B2 m2 d2]] c.w1 fun e' w' => e' = .returned (.bool P) ∧ Below c.w1.heap.size c.w1 w' := fun c => by
            have := c14 (HE.out.below (HB7.out.trans ((hk8 c).mono HB7.out.size))) (HD.out.below (HB7.out.trans ((hk8 c).mono HB7.out.size))) HS.out
            rw [hP, ← HG.out, ← HF.out] at this
            exact this
          have H12 := Lib.hid D12
          have H14 := Lib.hid D14
          clear hP hP2 D12 D14 hxa hxb hk8 hrun
          refine wp_region_quiet_bw (by kernel_rfl) (by kernel_rfl) ?_
          repeat (go_big_quiet_step ((first | (go_at_call 12; exact (H12.out _).mono (fun e' w3 h => ⟨h.1, BW.next h.2⟩)) | (go_at_call 14; exact (H14.out _).mono (fun e' w3 h => ⟨h.1, BW.next h.2⟩)))))
          refine wpQuiet_nil ?_
          rintro _ ⟨nq, rfl⟩
          have HBZ := Lib.hid (HB8.out.trans (nq.hb.mono HB8.out.size))
          go_wp2_with fail
          go_ret
          exact ⟨rfl, HBZ.out⟩
end Go.Proofs.Ytnognmbapciegaa.Bk
