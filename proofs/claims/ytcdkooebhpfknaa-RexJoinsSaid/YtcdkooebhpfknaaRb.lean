/- rex's reader: a byte behind a backslash, an item of a class. -/
import Derived.Test.YtcdkooebhpfknaaRa
namespace Go.Proofs.Ytcdkooebhpfknaa.Rx
open Go.RowKit Go.Proofs.YtcdkooebhpfknaaW.PrintWords Go.Proofs.YtcdkooebhpfknaaW.PrintLast Go.Proofs.YtcdkooebhpfknaaW.PrintMore Go.Proofs.Ytcdkooebhpfknaa.PRx
set_option linter.unusedVariables false
set_option linter.unusedSimpArgs false

theorem alnum_any (c : Int) (w : World) : Calls Try.prog 47 #[.int .u8 c] w fun e w' => e = .returned (.bool (alnumI c)) ∧ ∃ q, w' = w.drewN q := by
  have h : rex_alnum.f c = some (alnumI c) := by
    unfold rex_alnum.f alnumI
    repeat' split
    all_goals simp only [Option.some.injEq, Bool.true_eq, Bool.false_eq, Bool.or_eq_true, Bool.or_eq_false_iff, decide_eq_true_eq, decide_eq_false_iff_not]
    all_goals first | omega | (rw [Bool.eq_iff_iff]; simp only [Bool.or_eq_true, decide_eq_true_eq]; omega)
  refine (rex_alnum.calls c _ w h).mono ?_
  rintro e w' ⟨he, hd⟩
  exact ⟨he, hd.out⟩
theorem At.keep {w w1 : World} {g : Nat} {s : ByteArray} {r : List Int} (h : At w g s r) : KeepBut w w g none := KeepBut.refl w g none
theorem esc_any {w : World} {g : Nat} {s : ByteArray} {r : List Int} (h : At w g s r) (k : Nat) (p : Int) (hp : p = (s.size : Int) - (k : Int)) : Calls Try.prog 38 #[.pointer (some ⟨g, 0, none⟩), .int .i64 p] w (Res w g s (escR k r)) := by
  cases r with
  | nil =>
    have HN := Lib.hid (next_nil h)
    clear h
    go_enter Try.func38, Try.ntmps38
    go_wp2_with (first | (go_at_call 35; refine HN.out.mono ?_; rintro e w1 ⟨rfl, hk⟩; (have HK := Lib.hid hk; clear hk)))
    exact ⟨rfl, rfl, HK.out⟩
  | cons c r =>
    have HN := Lib.hid (next_cons h)
    have HP := Lib.hid hp
    clear h hp
    by_cases h1 : c = 110
    · subst h1
      go_enter Try.func38, Try.ntmps38
      go_wp2_with (first | (go_at_call 35; refine HN.out.mono ?_; rintro e w1 ⟨rfl, hk, ha⟩; (have HK := Lib.hid hk; have HA := Lib.hid ha; clear hk ha)))
      go_ret
      exact ⟨rfl, HK.out, HA.out⟩
    · have g1 : (c == 110) = false := by simpa using h1
      by_cases h2 : c = 116
      · subst h2
        go_enter Try.func38, Try.ntmps38
        go_wp2_with (first | (go_at_call 35; refine HN.out.mono ?_; rintro e w1 ⟨rfl, hk, ha⟩; (have HK := Lib.hid hk; have HA := Lib.hid ha; clear hk ha)))
        go_ret
        exact ⟨rfl, HK.out, HA.out⟩
      · have g2 : (c == 116) = false := by simpa using h2
        by_cases h3 : alnumI c = true
        · have HE : Hid (escR k (c :: r) = .err 30 k) := Lib.hid (by simp [escR, h1, h2, h3])
          have HL := Lib.hid (alnum_any c)
          rw [h3] at HL
          clear h1 h2 h3
          rw [HE.out]
          go_enter Try.func38, Try.ntmps38
          go_wp2_with (first | (go_at_call 35; refine HN.out.mono ?_; rintro e w1 ⟨rfl, hk, ha⟩; (have HK := Lib.hid hk; have HA := Lib.hid ha; clear hk ha)) | (go_at_call 47; refine (HL.out _).mono ?_; rintro e wq ⟨rfl, q, rfl⟩) | (go_at_call 16; refine (fail_any _ _ _ _).mono ?_; rintro e wq2 ⟨rfl, rfl⟩))
          exact ⟨rfl, by rw [HP.out], keep_drewN HK.out _⟩
        · have HE : Hid (escR k (c :: r) = .ok c r) := Lib.hid (by simp [escR, h1, h2, h3])
          have HL := Lib.hid (alnum_any c)
          have h3' : alnumI c = false := by simpa using h3
          rw [h3'] at HL
          clear h1 h2 h3 h3'
          rw [HE.out]
          go_enter Try.func38, Try.ntmps38
          go_wp2_with (first | (go_at_call 35; refine HN.out.mono ?_; rintro e w1 ⟨rfl, hk, ha⟩; (have HK := Lib.hid hk; have HA := Lib.hid ha; clear hk ha)) | (go_at_call 47; refine (HL.out _).mono ?_; rintro e wq ⟨rfl, q, rfl⟩) | (go_at_call 16; refine (fail_any _ _ _ _).mono ?_; rintro e wq2 ⟨rfl, rfl⟩))
          go_ret
          exact ⟨rfl, keep_drewN HK.out _, HA.out.drewN _⟩
theorem Res.from_ {w w1 : World} {g : Nat} {s : ByteArray} {q : R Int} {e : Ending} {w' : World} (h : Res w1 g s q e w') (hk : KeepBut w w1 g none) : Res w g s q e w' := by
  cases q with
  | ok v r => exact ⟨h.1, hk.trans h.2.1 (.inl rfl), h.2.2⟩
  | err c k => exact ⟨h.1, hk.trans h.2 (.inl rfl)⟩
set_option maxHeartbeats 1000000 in
theorem item_any {w : World} {g : Nat} {s : ByteArray} {r : List Int} (h : At w g s r) : Calls Try.prog 45 #[.pointer (some ⟨g, 0, none⟩)] w (Res w g s (itemR r)) := by
  cases r with
  | nil =>
    obtain ⟨i, f0, f1, f2, h1, h2, h3⟩ := h.facts
    have HN := Lib.hid (next_nil h)
    clear h
    go_enter Try.func45, Try.ntmps45
    go_wp2_with (first | (go_at_call 35; refine HN.out.mono ?_; rintro e w1 ⟨rfl, hk⟩; (have HK := Lib.hid hk; clear hk)))
    exact ⟨rfl, rfl, HK.out⟩
  | cons c r =>
    obtain ⟨i, f0, f1, f2, h1, h2, h3⟩ := h.facts
    have HN := Lib.hid (next_cons h)
    have HI : Hid (i = (s.size : Int) - ((r.length + 1 : Nat) : Int)) := Lib.hid (by simp only [List.length_cons] at h2; omega)
    clear h h2
    by_cases hc : c = 92
    · subst hc
      have HE : Hid (itemR (92 :: r) = escR (r.length + 1) r) := Lib.hid rfl
      rw [HE.out]
      cases hq : escR (r.length + 1) r with
      | ok v r' =>
        have HQ := Lib.hid hq
        clear hq HE
        go_enter Try.func45, Try.ntmps45
        go_wp2_with (first | (go_at_call 35; refine HN.out.mono ?_; rintro e w1 ⟨rfl, hk, ha⟩; (have HK := Lib.hid hk; have HA := Lib.hid ha; clear hk ha)) | (go_at_call 38; refine (esc_any HA.out (r.length + 1) _ HI.out).mono ?_; rw [HQ.out]; rintro e w2 ⟨rfl, hk, ha⟩; (have HK2 := Lib.hid (HK.out.trans hk (.inl rfl)); have HA2 := Lib.hid ha; clear hk ha)))
        go_ret
        exact ⟨rfl, HK2.out, HA2.out⟩
      | err c k =>
        have HQ := Lib.hid hq
        clear hq HE
        go_enter Try.func45, Try.ntmps45
        go_wp2_with (first | (go_at_call 35; refine HN.out.mono ?_; rintro e w1 ⟨rfl, hk, ha⟩; (have HK := Lib.hid hk; have HA := Lib.hid ha; clear hk ha)) | (go_at_call 38; refine (esc_any HA.out (r.length + 1) _ HI.out).mono ?_; rw [HQ.out]; rintro e w2 ⟨rfl, hk⟩; (have HK2 := Lib.hid (HK.out.trans hk (.inl rfl)); clear hk)))
        exact ⟨rfl, rfl, HK2.out⟩
    · have g1 : (c == 92) = false := by simpa using hc
      have HE : Hid (itemR (c :: r) = .ok c r) := Lib.hid (by simp [itemR, hc])
      clear hc
      rw [HE.out]
      go_enter Try.func45, Try.ntmps45
      go_wp2_with (first | (go_at_call 35; refine HN.out.mono ?_; rintro e w1 ⟨rfl, hk, ha⟩; (have HK := Lib.hid hk; have HA := Lib.hid ha; clear hk ha)))
      go_ret
      exact ⟨rfl, HK.out, HA.out⟩
end Go.Proofs.Ytcdkooebhpfknaa.Rx
