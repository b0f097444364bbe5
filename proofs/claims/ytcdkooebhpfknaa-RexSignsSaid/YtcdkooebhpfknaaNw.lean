/- RexWrong's walk. -/
import Derived.Test.YtcdkooebhpfknaaMf
import Derived.Test.YtcdkooebhpfknaaMa
namespace Go.Proofs.Ytcdkooebhpfknaa.Rx
open Go.RowKit Go.Proofs.YtcdkooebhpfknaaW.PrintWords Go.Proofs.YtcdkooebhpfknaaW.PrintLast Go.Proofs.YtcdkooebhpfknaaW.PrintMore Go.Proofs.Ytcdkooebhpfknaa.PRx
set_option linter.unusedVariables false
set_option linter.unusedSimpArgs false

theorem bI_app (a b : ByteArray) : bI (a ++ b) = bI a ++ bI b := by
  simp [bI, ByteArray.data_append]
theorem size_app (a b : ByteArray) : (a ++ b).size = a.size + b.size := ByteArray.size_append
theorem calm_of {c : Int} {ys : List Int} (h : c ≠ 42 ∧ c ≠ 43 ∧ c ≠ 63) : calm (c :: ys) := by
  intro d hd
  obtain rfl : c = d := Option.some.inj hd
  exact h
/-- What is told of a pattern with something wrong behind it. -/
theorem wrong_tells {p : ByteArray} (s : ByteArray) (d : Int) (ys : List Int) (hb : bI s = d :: ys) {t : S26} {c pl : Int} {k : Nat} (h : altR (bI p) = .ok t []) (hp : p.size ≤ 240) (hs : s.size ≤ 6) (hpl : (s.size : Int) - (k : Int) = pl) (hc : d ≠ 42 ∧ d ≠ 43 ∧ d ≠ 63) (he : ∀ P K, partsR P K (d :: ys) = .err c k) (w : World) :
    Calls Try.prog 9 #[.string (p ++ s)] w (PRes w (z26, c, (p.size : Int) + pl)) := by
  have := parse_any (p ++ s) w
  have e : parseP (bI (p ++ s)) = (z26, c, (p.size : Int) + pl) := by
    unfold parseP
    rw [bI_app, hb, wrong_app h (calm_of hc) he, ← hb, ← bI_app, bI_len, size_app, if_neg (by omega)]
    show (z26, c, ((p.size + s.size : Nat) : Int) - (k : Int)) = _
    rw [show ((p.size + s.size : Nat) : Int) - (k : Int) = (p.size : Int) + pl by omega]
  rwa [e] at this
theorem wrong_close {p : ByteArray} {t : S26} (h : altR (bI p) = .ok t []) (hp : p.size ≤ 240) (w : World) :
    Calls Try.prog 9 #[.string (p ++ ⟨#[41]⟩)] w (PRes w (z26, 30, (p.size : Int) + 0)) := by
  have := parse_any (p ++ ⟨#[41]⟩) w
  have e : parseP (bI (p ++ ⟨#[41]⟩)) = (z26, 30, (p.size : Int) + 0) := by
    have e1 : bI ⟨#[41]⟩ = [41] := rfl
    have e2 : (⟨#[41]⟩ : ByteArray).size = 1 := rfl
    unfold parseP
    have e3 := wrong_end (s := []) h
    rw [bI_app, e1, e3, ← e1, ← bI_app, bI_len, size_app, if_neg (by omega), e2]
    show (z26, (30 : Int), ((p.size + 1 : Nat) : Int) - ((0 + 1 : Nat) : Int)) = _
    rw [show ((p.size + 1 : Nat) : Int) - ((0 + 1 : Nat) : Int) = (p.size : Int) + 0 by omega]
  rwa [e] at this
/-- What stands behind, the error, its place. -/
def bads : List (ByteArray × Int × Int) := [(⟨#[41]⟩, 30, 0), (⟨#[124, 42]⟩, 30, 1), (⟨#[40]⟩, 31, 1), (⟨#[91, 93]⟩, 30, 1), (⟨#[91, 97]⟩, 31, 2), (⟨#[92]⟩, 31, 1), (⟨#[92, 113]⟩, 30, 0), (⟨#[91, 122, 45, 97, 93]⟩, 32, 1), (⟨#[40, 124, 43]⟩, 30, 2), (⟨#[91, 94, 93]⟩, 30, 2)]
theorem wrong_all {p : ByteArray} {t : S26} (h : altR (bI p) = .ok t []) (hp : p.size ≤ 240) (q : ByteArray × Int × Int) (hq : q ∈ bads) (w : World) :
    Calls Try.prog 9 #[.string (p ++ q.1)] w (PRes w (z26, q.2.1, (p.size : Int) + q.2.2)) := by
  simp only [bads, List.mem_cons, List.not_mem_nil, or_false] at hq
  rcases hq with rfl | rfl | rfl | rfl | rfl | rfl | rfl | rfl | rfl | rfl
  · exact wrong_close h hp w
  · exact wrong_tells ⟨#[124, 42]⟩ 124 [42] rfl h hp (c := 30) (k := 1) (by decide) rfl (by decide) (fun P K => (parts_bar P K [42]).trans (parts_err _ _ (by decide) (by decide) (by with_unfolding_all rfl))) w
  · exact wrong_tells ⟨#[40]⟩ 40 [] rfl h hp (c := 31) (k := 0) (by decide) rfl (by decide) (fun P K => parts_err P K (by decide) (by decide) (by with_unfolding_all rfl)) w
  · exact wrong_tells ⟨#[91, 93]⟩ 91 [93] rfl h hp (c := 30) (k := 1) (by decide) rfl (by decide) (fun P K => parts_err P K (by decide) (by decide) (by with_unfolding_all rfl)) w
  · exact wrong_tells ⟨#[91, 97]⟩ 91 [97] rfl h hp (c := 31) (k := 0) (by decide) rfl (by decide) (fun P K => parts_err P K (by decide) (by decide) (by with_unfolding_all rfl)) w
  · exact wrong_tells ⟨#[92]⟩ 92 [] rfl h hp (c := 31) (k := 0) (by decide) rfl (by decide) (fun P K => parts_err P K (by decide) (by decide) (by with_unfolding_all rfl)) w
  · exact wrong_tells ⟨#[92, 113]⟩ 92 [113] rfl h hp (c := 30) (k := 2) (by decide) rfl (by decide) (fun P K => parts_err P K (by decide) (by decide) (by with_unfolding_all rfl)) w
  · exact wrong_tells ⟨#[91, 122, 45, 97, 93]⟩ 91 [122, 45, 97, 93] rfl h hp (c := 32) (k := 4) (by decide) rfl (by decide) (fun P K => parts_err P K (by decide) (by decide) (by with_unfolding_all rfl)) w
  · exact wrong_tells ⟨#[40, 124, 43]⟩ 40 [124, 43] rfl h hp (c := 30) (k := 1) (by decide) rfl (by decide) (fun P K => parts_err P K (by decide) (by decide) (by with_unfolding_all rfl)) w
  · exact wrong_tells ⟨#[91, 94, 93]⟩ 91 [94, 93] rfl h hp (c := 30) (k := 1) (by decide) rfl (by decide) (fun P K => parts_err P K (by decide) (by decide) (by with_unfolding_all rfl)) w
theorem parseP_ok {s : ByteArray} {t : S26} {c k : Int} (h : parseP (bI s) = (t, c, k)) (hc : c = 0) : altR (bI s) = .ok t [] ∧ s.size ≤ 256 := by
  subst hc
  unfold parseP at h
  rw [bI_len] at h
  by_cases hs : 256 < s.size
  · rw [if_pos hs] at h
    have := congrArg (fun q => q.2.1) h
    cases this
  · rw [if_neg hs] at h
    cases hq : altR (bI s) with
    | ok u r =>
      rw [hq] at h
      cases r with
      | nil =>
        have := congrArg (fun q => q.1) h
        exact ⟨by rw [show t = u from this.symm], by omega⟩
      | cons d r =>
        have := congrArg (fun q => q.2.1) h
        cases this
    | err d j =>
      rw [hq] at h
      have : d = 0 := congrArg (fun q => q.2.1) h
      exact absurd this (alt_err_ne hq)
theorem andK (n : Int) : bits .and .i64 n 1023 = n % 1024 := by
  have hand : (BitVec.ofInt 64 n &&& BitVec.ofInt 64 1023).toNat = (n % 1024).toNat := by
    rw [BitVec.toNat_and, BitVec.toNat_ofInt, BitVec.toNat_ofInt]
    rw [show ((1023 : Int) % (2 ^ 64 : Nat)).toNat = 2 ^ 10 - 1 by decide, Nat.and_two_pow_sub_one_eq_mod]
    omega
  show IntKind.i64.wrap ((BitVec.ofInt 64 n &&& BitVec.ofInt 64 1023).toNat : Int) = _
  rw [hand, IntKind.wrap_i64]
  omega
set_option maxHeartbeats 4000000 in
set_option maxRecDepth 100000 in
theorem wrong_0 (p : ByteArray) (t : S26) (k which : Int) (w : World) (HP : Hid (∀ w, Calls Try.prog 9 #[.string p] w (PRes w (t, 0, k)))) (hl' : (p.size : Int) ≤ 240) (hj : (bits BinOp.and IntKind.i64 which 1023).tmod 10 = 0)
    (HW : Hid (∀ w, Calls Try.prog 9 #[.string (p ++ ⟨#[41]⟩)] w (PRes w (z26, 30, (p.size : Int) + 0)))) : Calls Try.prog 4 #[.string p, .int .i64 which] w (Told w true) := by
  have hpl : (p.size : Int) + 0 - (p.size : Int) = 0 := by omega
  go_enter Try.func4, Try.ntmps4
  go_wp2_with (first
    | (go_at_call 8; refine (parsing_any _).mono ?_; rintro e w1 ⟨rfl, hk⟩; have HK1 := Lib.hid hk; clear hk)
    | (go_at_call 9; (with_reducible refine (HP.out _).mono ?_); rintro e w2 ⟨v, rfl, ⟨A3, n3, c3, A4, n4, c4, rfl, hr1, hr2⟩, hk⟩; have HK2 := Lib.hid hk; clear hr1 hr2 hk)
    | (go_at_call 9; (with_reducible refine (HW.out _).mono ?_); rintro e w3 ⟨v, rfl, ⟨A5, n5, c5, A6, n6, c6, rfl, hr1, hr2⟩, hk⟩; have HK3 := Lib.hid hk; clear hr1 hr2 hk))
  go_ret
  exact ⟨rfl, (((HK1.out.trans HK2.out).alloc _).alloc _ |>.trans HK3.out).alloc _⟩
set_option maxHeartbeats 4000000 in
set_option maxRecDepth 100000 in
theorem wrong_1 (p : ByteArray) (t : S26) (k which : Int) (w : World) (HP : Hid (∀ w, Calls Try.prog 9 #[.string p] w (PRes w (t, 0, k)))) (hl' : (p.size : Int) ≤ 240) (hj : (bits BinOp.and IntKind.i64 which 1023).tmod 10 = 1)
    (HW : Hid (∀ w, Calls Try.prog 9 #[.string (p ++ ⟨#[124, 42]⟩)] w (PRes w (z26, 30, (p.size : Int) + 1)))) : Calls Try.prog 4 #[.string p, .int .i64 which] w (Told w true) := by
  have hpl : (p.size : Int) + 1 - (p.size : Int) = 1 := by omega
  go_enter Try.func4, Try.ntmps4
  go_wp2_with (first
    | (go_at_call 8; refine (parsing_any _).mono ?_; rintro e w1 ⟨rfl, hk⟩; have HK1 := Lib.hid hk; clear hk)
    | (go_at_call 9; (with_reducible refine (HP.out _).mono ?_); rintro e w2 ⟨v, rfl, ⟨A3, n3, c3, A4, n4, c4, rfl, hr1, hr2⟩, hk⟩; have HK2 := Lib.hid hk; clear hr1 hr2 hk)
    | (go_at_call 9; (with_reducible refine (HW.out _).mono ?_); rintro e w3 ⟨v, rfl, ⟨A5, n5, c5, A6, n6, c6, rfl, hr1, hr2⟩, hk⟩; have HK3 := Lib.hid hk; clear hr1 hr2 hk))
  go_ret
  exact ⟨rfl, (((HK1.out.trans HK2.out).alloc _).alloc _ |>.trans HK3.out).alloc _⟩
set_option maxHeartbeats 4000000 in
set_option maxRecDepth 100000 in
theorem wrong_2 (p : ByteArray) (t : S26) (k which : Int) (w : World) (HP : Hid (∀ w, Calls Try.prog 9 #[.string p] w (PRes w (t, 0, k)))) (hl' : (p.size : Int) ≤ 240) (hj : (bits BinOp.and IntKind.i64 which 1023).tmod 10 = 2)
    (HW : Hid (∀ w, Calls Try.prog 9 #[.string (p ++ ⟨#[40]⟩)] w (PRes w (z26, 31, (p.size : Int) + 1)))) : Calls Try.prog 4 #[.string p, .int .i64 which] w (Told w true) := by
  have hpl : (p.size : Int) + 1 - (p.size : Int) = 1 := by omega
  go_enter Try.func4, Try.ntmps4
  go_wp2_with (first
    | (go_at_call 8; refine (parsing_any _).mono ?_; rintro e w1 ⟨rfl, hk⟩; have HK1 := Lib.hid hk; clear hk)
    | (go_at_call 9; (with_reducible refine (HP.out _).mono ?_); rintro e w2 ⟨v, rfl, ⟨A3, n3, c3, A4, n4, c4, rfl, hr1, hr2⟩, hk⟩; have HK2 := Lib.hid hk; clear hr1 hr2 hk)
    | (go_at_call 9; (with_reducible refine (HW.out _).mono ?_); rintro e w3 ⟨v, rfl, ⟨A5, n5, c5, A6, n6, c6, rfl, hr1, hr2⟩, hk⟩; have HK3 := Lib.hid hk; clear hr1 hr2 hk))
  go_ret
  exact ⟨rfl, (((HK1.out.trans HK2.out).alloc _).alloc _ |>.trans HK3.out).alloc _⟩
set_option maxHeartbeats 4000000 in
set_option maxRecDepth 100000 in
theorem wrong_3 (p : ByteArray) (t : S26) (k which : Int) (w : World) (HP : Hid (∀ w, Calls Try.prog 9 #[.string p] w (PRes w (t, 0, k)))) (hl' : (p.size : Int) ≤ 240) (hj : (bits BinOp.and IntKind.i64 which 1023).tmod 10 = 3)
    (HW : Hid (∀ w, Calls Try.prog 9 #[.string (p ++ ⟨#[91, 93]⟩)] w (PRes w (z26, 30, (p.size : Int) + 1)))) : Calls Try.prog 4 #[.string p, .int .i64 which] w (Told w true) := by
  have hpl : (p.size : Int) + 1 - (p.size : Int) = 1 := by omega
  go_enter Try.func4, Try.ntmps4
  go_wp2_with (first
    | (go_at_call 8; refine (parsing_any _).mono ?_; rintro e w1 ⟨rfl, hk⟩; have HK1 := Lib.hid hk; clear hk)
    | (go_at_call 9; (with_reducible refine (HP.out _).mono ?_); rintro e w2 ⟨v, rfl, ⟨A3, n3, c3, A4, n4, c4, rfl, hr1, hr2⟩, hk⟩; have HK2 := Lib.hid hk; clear hr1 hr2 hk)
    | (go_at_call 9; (with_reducible refine (HW.out _).mono ?_); rintro e w3 ⟨v, rfl, ⟨A5, n5, c5, A6, n6, c6, rfl, hr1, hr2⟩, hk⟩; have HK3 := Lib.hid hk; clear hr1 hr2 hk))
  go_ret
  exact ⟨rfl, (((HK1.out.trans HK2.out).alloc _).alloc _ |>.trans HK3.out).alloc _⟩
set_option maxHeartbeats 4000000 in
set_option maxRecDepth 100000 in
theorem wrong_4 (p : ByteArray) (t : S26) (k which : Int) (w : World) (HP : Hid (∀ w, Calls Try.prog 9 #[.string p] w (PRes w (t, 0, k)))) (hl' : (p.size : Int) ≤ 240) (hj : (bits BinOp.and IntKind.i64 which 1023).tmod 10 = 4)
    (HW : Hid (∀ w, Calls Try.prog 9 #[.string (p ++ ⟨#[91, 97]⟩)] w (PRes w (z26, 31, (p.size : Int) + 2)))) : Calls Try.prog 4 #[.string p, .int .i64 which] w (Told w true) := by
  have hpl : (p.size : Int) + 2 - (p.size : Int) = 2 := by omega
  go_enter Try.func4, Try.ntmps4
  go_wp2_with (first
    | (go_at_call 8; refine (parsing_any _).mono ?_; rintro e w1 ⟨rfl, hk⟩; have HK1 := Lib.hid hk; clear hk)
    | (go_at_call 9; (with_reducible refine (HP.out _).mono ?_); rintro e w2 ⟨v, rfl, ⟨A3, n3, c3, A4, n4, c4, rfl, hr1, hr2⟩, hk⟩; have HK2 := Lib.hid hk; clear hr1 hr2 hk)
    | (go_at_call 9; (with_reducible refine (HW.out _).mono ?_); rintro e w3 ⟨v, rfl, ⟨A5, n5, c5, A6, n6, c6, rfl, hr1, hr2⟩, hk⟩; have HK3 := Lib.hid hk; clear hr1 hr2 hk))
  go_ret
  exact ⟨rfl, (((HK1.out.trans HK2.out).alloc _).alloc _ |>.trans HK3.out).alloc _⟩
set_option maxHeartbeats 4000000 in
set_option maxRecDepth 100000 in
theorem wrong_5 (p : ByteArray) (t : S26) (k which : Int) (w : World) (HP : Hid (∀ w, Calls Try.prog 9 #[.string p] w (PRes w (t, 0, k)))) (hl' : (p.size : Int) ≤ 240) (hj : (bits BinOp.and IntKind.i64 which 1023).tmod 10 = 5)
    (HW : Hid (∀ w, Calls Try.prog 9 #[.string (p ++ ⟨#[92]⟩)] w (PRes w (z26, 31, (p.size : Int) + 1)))) : Calls Try.prog 4 #[.string p, .int .i64 which] w (Told w true) := by
  have hpl : (p.size : Int) + 1 - (p.size : Int) = 1 := by omega
  go_enter Try.func4, Try.ntmps4
  go_wp2_with (first
    | (go_at_call 8; refine (parsing_any _).mono ?_; rintro e w1 ⟨rfl, hk⟩; have HK1 := Lib.hid hk; clear hk)
    | (go_at_call 9; (with_reducible refine (HP.out _).mono ?_); rintro e w2 ⟨v, rfl, ⟨A3, n3, c3, A4, n4, c4, rfl, hr1, hr2⟩, hk⟩; have HK2 := Lib.hid hk; clear hr1 hr2 hk)
    | (go_at_call 9; (with_reducible refine (HW.out _).mono ?_); rintro e w3 ⟨v, rfl, ⟨A5, n5, c5, A6, n6, c6, rfl, hr1, hr2⟩, hk⟩; have HK3 := Lib.hid hk; clear hr1 hr2 hk))
  go_ret
  exact ⟨rfl, (((HK1.out.trans HK2.out).alloc _).alloc _ |>.trans HK3.out).alloc _⟩
set_option maxHeartbeats 4000000 in
set_option maxRecDepth 100000 in
theorem wrong_6 (p : ByteArray) (t : S26) (k which : Int) (w : World) (HP : Hid (∀ w, Calls Try.prog 9 #[.string p] w (PRes w (t, 0, k)))) (hl' : (p.size : Int) ≤ 240) (hj : (bits BinOp.and IntKind.i64 which 1023).tmod 10 = 6)
    (HW : Hid (∀ w, Calls Try.prog 9 #[.string (p ++ ⟨#[92, 113]⟩)] w (PRes w (z26, 30, (p.size : Int) + 0)))) : Calls Try.prog 4 #[.string p, .int .i64 which] w (Told w true) := by
  have hpl : (p.size : Int) + 0 - (p.size : Int) = 0 := by omega
  go_enter Try.func4, Try.ntmps4
  go_wp2_with (first
    | (go_at_call 8; refine (parsing_any _).mono ?_; rintro e w1 ⟨rfl, hk⟩; have HK1 := Lib.hid hk; clear hk)
    | (go_at_call 9; (with_reducible refine (HP.out _).mono ?_); rintro e w2 ⟨v, rfl, ⟨A3, n3, c3, A4, n4, c4, rfl, hr1, hr2⟩, hk⟩; have HK2 := Lib.hid hk; clear hr1 hr2 hk)
    | (go_at_call 9; (with_reducible refine (HW.out _).mono ?_); rintro e w3 ⟨v, rfl, ⟨A5, n5, c5, A6, n6, c6, rfl, hr1, hr2⟩, hk⟩; have HK3 := Lib.hid hk; clear hr1 hr2 hk))
  go_ret
  exact ⟨rfl, (((HK1.out.trans HK2.out).alloc _).alloc _ |>.trans HK3.out).alloc _⟩
set_option maxHeartbeats 4000000 in
set_option maxRecDepth 100000 in
theorem wrong_7 (p : ByteArray) (t : S26) (k which : Int) (w : World) (HP : Hid (∀ w, Calls Try.prog 9 #[.string p] w (PRes w (t, 0, k)))) (hl' : (p.size : Int) ≤ 240) (hj : (bits BinOp.and IntKind.i64 which 1023).tmod 10 = 7)
    (HW : Hid (∀ w, Calls Try.prog 9 #[.string (p ++ ⟨#[91, 122, 45, 97, 93]⟩)] w (PRes w (z26, 32, (p.size : Int) + 1)))) : Calls Try.prog 4 #[.string p, .int .i64 which] w (Told w true) := by
  have hpl : (p.size : Int) + 1 - (p.size : Int) = 1 := by omega
  go_enter Try.func4, Try.ntmps4
  go_wp2_with (first
    | (go_at_call 8; refine (parsing_any _).mono ?_; rintro e w1 ⟨rfl, hk⟩; have HK1 := Lib.hid hk; clear hk)
    | (go_at_call 9; (with_reducible refine (HP.out _).mono ?_); rintro e w2 ⟨v, rfl, ⟨A3, n3, c3, A4, n4, c4, rfl, hr1, hr2⟩, hk⟩; have HK2 := Lib.hid hk; clear hr1 hr2 hk)
    | (go_at_call 9; (with_reducible refine (HW.out _).mono ?_); rintro e w3 ⟨v, rfl, ⟨A5, n5, c5, A6, n6, c6, rfl, hr1, hr2⟩, hk⟩; have HK3 := Lib.hid hk; clear hr1 hr2 hk))
  go_ret
  exact ⟨rfl, (((HK1.out.trans HK2.out).alloc _).alloc _ |>.trans HK3.out).alloc _⟩
set_option maxHeartbeats 4000000 in
set_option maxRecDepth 100000 in
theorem wrong_8 (p : ByteArray) (t : S26) (k which : Int) (w : World) (HP : Hid (∀ w, Calls Try.prog 9 #[.string p] w (PRes w (t, 0, k)))) (hl' : (p.size : Int) ≤ 240) (hj : (bits BinOp.and IntKind.i64 which 1023).tmod 10 = 8)
    (HW : Hid (∀ w, Calls Try.prog 9 #[.string (p ++ ⟨#[40, 124, 43]⟩)] w (PRes w (z26, 30, (p.size : Int) + 2)))) : Calls Try.prog 4 #[.string p, .int .i64 which] w (Told w true) := by
  have hpl : (p.size : Int) + 2 - (p.size : Int) = 2 := by omega
  go_enter Try.func4, Try.ntmps4
  go_wp2_with (first
    | (go_at_call 8; refine (parsing_any _).mono ?_; rintro e w1 ⟨rfl, hk⟩; have HK1 := Lib.hid hk; clear hk)
    | (go_at_call 9; (with_reducible refine (HP.out _).mono ?_); rintro e w2 ⟨v, rfl, ⟨A3, n3, c3, A4, n4, c4, rfl, hr1, hr2⟩, hk⟩; have HK2 := Lib.hid hk; clear hr1 hr2 hk)
    | (go_at_call 9; (with_reducible refine (HW.out _).mono ?_); rintro e w3 ⟨v, rfl, ⟨A5, n5, c5, A6, n6, c6, rfl, hr1, hr2⟩, hk⟩; have HK3 := Lib.hid hk; clear hr1 hr2 hk))
  go_ret
  exact ⟨rfl, (((HK1.out.trans HK2.out).alloc _).alloc _ |>.trans HK3.out).alloc _⟩
set_option maxHeartbeats 4000000 in
set_option maxRecDepth 100000 in
theorem wrong_9 (p : ByteArray) (t : S26) (k which : Int) (w : World) (HP : Hid (∀ w, Calls Try.prog 9 #[.string p] w (PRes w (t, 0, k)))) (hl' : (p.size : Int) ≤ 240) (hj : (bits BinOp.and IntKind.i64 which 1023).tmod 10 = 9)
    (HW : Hid (∀ w, Calls Try.prog 9 #[.string (p ++ ⟨#[91, 94, 93]⟩)] w (PRes w (z26, 30, (p.size : Int) + 2)))) : Calls Try.prog 4 #[.string p, .int .i64 which] w (Told w true) := by
  have hpl : (p.size : Int) + 2 - (p.size : Int) = 2 := by omega
  go_enter Try.func4, Try.ntmps4
  go_wp2_with (first
    | (go_at_call 8; refine (parsing_any _).mono ?_; rintro e w1 ⟨rfl, hk⟩; have HK1 := Lib.hid hk; clear hk)
    | (go_at_call 9; (with_reducible refine (HP.out _).mono ?_); rintro e w2 ⟨v, rfl, ⟨A3, n3, c3, A4, n4, c4, rfl, hr1, hr2⟩, hk⟩; have HK2 := Lib.hid hk; clear hr1 hr2 hk)
    | (go_at_call 9; (with_reducible refine (HW.out _).mono ?_); rintro e w3 ⟨v, rfl, ⟨A5, n5, c5, A6, n6, c6, rfl, hr1, hr2⟩, hk⟩; have HK3 := Lib.hid hk; clear hr1 hr2 hk))
  go_ret
  exact ⟨rfl, (((HK1.out.trans HK2.out).alloc _).alloc _ |>.trans HK3.out).alloc _⟩
/-- A pattern that can't be read, or a long one. -/
theorem wrong_idle (p : ByteArray) (t : S26) (c k which : Int) (w : World) (HP : Hid (∀ w, Calls Try.prog 9 #[.string p] w (PRes w (t, c, k)))) (hp : (p.size : Int) ≤ 9223372036854775807) (hn : ¬ (c = 0 ∧ p.size ≤ 240)) : Calls Try.prog 4 #[.string p, .int .i64 which] w (Told w true) := by
  by_cases hc : c = 0
  · subst hc
    have hl : decide ((p.size : Int) > 240) = true := by
      have : ¬ p.size ≤ 240 := fun h => hn ⟨rfl, h⟩
      simp; omega
    have hl2 : decide (240 < (p.size : Int)) = true := by simpa using hl
    clear hn
    go_enter Try.func4, Try.ntmps4
    go_wp2_with (first
      | (go_at_call 8; refine (parsing_any _).mono ?_; rintro e w1 ⟨rfl, hk⟩; have HK1 := Lib.hid hk; clear hk)
      | (go_at_call 9; (with_reducible refine (HP.out _).mono ?_); rintro e w2 ⟨v, rfl, ⟨A3, n3, c3, A4, n4, c4, rfl, hr1, hr2⟩, hk⟩; have HK2 := Lib.hid hk; clear hr1 hr2 hk))
    go_ret
    exact ⟨rfl, (HK1.out.trans HK2.out).alloc _⟩
  · have g1 : (c == 0) = false := by simpa using hc
    have g2 : (c != 0) = true := by simpa using hc
    clear hc hn
    go_enter Try.func4, Try.ntmps4
    go_wp2_with (first
      | (go_at_call 8; refine (parsing_any _).mono ?_; rintro e w1 ⟨rfl, hk⟩; have HK1 := Lib.hid hk; clear hk)
      | (go_at_call 9; (with_reducible refine (HP.out _).mono ?_); rintro e w2 ⟨v, rfl, ⟨A3, n3, c3, A4, n4, c4, rfl, hr1, hr2⟩, hk⟩; have HK2 := Lib.hid hk; clear hr1 hr2 hk))
    go_ret
    exact ⟨rfl, (HK1.out.trans HK2.out).alloc _⟩
theorem wrong_walk (p : ByteArray) (which : Int) (hp : p.size ≤ maxLen) (hw : (Lit.int IntKind.i64 which).wf = true) (w : World) : Calls Try.prog 4 #[.string p, .int .i64 which] w (Told w true) := by
  have HP : Hid (∀ w, Calls Try.prog 9 #[.string p] w (PRes w (parseP (bI p)))) := Lib.hid (parse_any p)
  obtain ⟨⟨t, c, k⟩, hq⟩ : ∃ q, parseP (bI p) = q := ⟨_, rfl⟩
  rw [hq] at HP
  by_cases hn : c = 0 ∧ p.size ≤ 240
  · obtain ⟨rfl, hl⟩ := hn
    obtain ⟨ha, hs⟩ := parseP_ok hq rfl
    have hl' : (p.size : Int) ≤ 240 := by omega
    have hm : (bits BinOp.and IntKind.i64 which 1023).tmod 10 = (which % 1024) % 10 := by
      rw [andK, Int.tmod_eq_emod_of_nonneg (by omega)]
    have hW := fun q (hq : q ∈ bads) => Lib.hid (fun w => wrong_all ha hl q hq w)
    have h10 : (which % 1024) % 10 = 0 ∨ (which % 1024) % 10 = 1 ∨ (which % 1024) % 10 = 2 ∨ (which % 1024) % 10 = 3 ∨ (which % 1024) % 10 = 4 ∨ (which % 1024) % 10 = 5 ∨ (which % 1024) % 10 = 6 ∨ (which % 1024) % 10 = 7 ∨ (which % 1024) % 10 = 8 ∨ (which % 1024) % 10 = 9 := by omega
    rcases h10 with e | e | e | e | e | e | e | e | e | e
    · exact wrong_0 p t k which w HP hl' (hm.trans e) (hW (⟨#[41]⟩, 30, 0) (by simp [bads]))
    · exact wrong_1 p t k which w HP hl' (hm.trans e) (hW (⟨#[124, 42]⟩, 30, 1) (by simp [bads]))
    · exact wrong_2 p t k which w HP hl' (hm.trans e) (hW (⟨#[40]⟩, 31, 1) (by simp [bads]))
    · exact wrong_3 p t k which w HP hl' (hm.trans e) (hW (⟨#[91, 93]⟩, 30, 1) (by simp [bads]))
    · exact wrong_4 p t k which w HP hl' (hm.trans e) (hW (⟨#[91, 97]⟩, 31, 2) (by simp [bads]))
    · exact wrong_5 p t k which w HP hl' (hm.trans e) (hW (⟨#[92]⟩, 31, 1) (by simp [bads]))
    · exact wrong_6 p t k which w HP hl' (hm.trans e) (hW (⟨#[92, 113]⟩, 30, 0) (by simp [bads]))
    · exact wrong_7 p t k which w HP hl' (hm.trans e) (hW (⟨#[91, 122, 45, 97, 93]⟩, 32, 1) (by simp [bads]))
    · exact wrong_8 p t k which w HP hl' (hm.trans e) (hW (⟨#[40, 124, 43]⟩, 30, 2) (by simp [bads]))
    · exact wrong_9 p t k which w HP hl' (hm.trans e) (hW (⟨#[91, 94, 93]⟩, 30, 2) (by simp [bads]))
  · exact wrong_idle p t c k which w HP (by unfold maxLen at hp; omega) hn
end Go.Proofs.Ytcdkooebhpfknaa.Rx
