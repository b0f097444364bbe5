/- RexJoins' walk. -/
import Derived.Test.YtcdkooebhpfknaaNa
namespace Go.Proofs.Ytcdkooebhpfknaa.Rx
open Go.RowKit Go.Proofs.YtcdkooebhpfknaaW.PrintWords Go.Proofs.YtcdkooebhpfknaaW.PrintLast Go.Proofs.YtcdkooebhpfknaaW.PrintMore Go.Proofs.Ytcdkooebhpfknaa.PRx
set_option linter.unusedVariables false
set_option linter.unusedSimpArgs false

theorem TC.kk {w : World} {x : Int} {s1 s2 : Value} {t : S26} (h : TC w (.agg #[.int .i64 x, s1, s2]) t) : k26.K w t [.int .i64 x, s1, s2] := by
  obtain ⟨A1, c1, A2, c2, e, l1, g1, l2, g2⟩ := h
  injection e with e
  injection e with e
  injection e with e1 e
  injection e with e2 e
  injection e with e3 e
  injection e1 with e1 e4
  subst e4 e2 e3
  exact k26_mk w t l1 g1 l2 g2
theorem built2 {w : World} {a b : S26} {ca cb : List Value} (hA : k26.K w a ca) (hB : k26.K w b cb) : TC (w.alloc (.cells (ca ++ cb).toArray 26)) (.agg #[.int .i64 2, .slice none 0 0, .slice (some ⟨w.heap.size, 0, none⟩) 2 2]) ⟨2, [], [a, b]⟩ :=
  ⟨none, 0, _, 2, rfl, Nat.le_refl _, Kd.C_nil _ _, Nat.le_refl _, two_nodes hA hB⟩
theorem built1 {w : World} {a : S26} {ca : List Value} (k : Int) (hA : k26.K w a ca) : TC (w.alloc (.cells ca.toArray 26)) (.agg #[.int .i64 k, .slice none 0 0, .slice (some ⟨w.heap.size, 0, none⟩) 1 1]) ⟨k, [], [a]⟩ :=
  ⟨none, 0, _, 1, rfl, Nat.le_refl _, Kd.C_nil _ _, Nat.le_refl _, one_node hA⟩
theorem load3 {W : World} {g : Nat} {u0 u1 u2 : Value} (h : W.heap[g]? = some (.cells #[u0, u1, u2] 26 (0, 0))) : W.cell? ⟨g, 0, none⟩ = some u0 ∧ W.cell? ⟨g, 1, none⟩ = some u1 ∧ W.cell? ⟨g, 2, none⟩ = some u2 :=
  ⟨blk_cell h 0, blk_cell h 1, blk_cell h 2⟩
theorem load6 {W : World} {g : Nat} {u0 u1 u2 u3 u4 u5 : Value} (h : W.heap[g]? = some (.cells #[u0, u1, u2, u3, u4, u5] 26 (0, 0))) : W.cell? ⟨g, 0, none⟩ = some u0 ∧ W.cell? ⟨g, 1, none⟩ = some u1 ∧ W.cell? ⟨g, 2, none⟩ = some u2 ∧ W.cell? ⟨g, 3, none⟩ = some u3 ∧ W.cell? ⟨g, 4, none⟩ = some u4 ∧ W.cell? ⟨g, 5, none⟩ = some u5 :=
  ⟨blk_cell h 0, blk_cell h 1, blk_cell h 2, blk_cell h 3, blk_cell h 4, blk_cell h 5⟩
/-- The parts of the first k. -/
def pre (a b : S26) (k : Nat) : List S26 := if k = 0 then [] else if k = 1 then [] ++ partsOf a else partsOf a ++ partsOf b
theorem pre_len (a b : S26) (k : Nat) : (pre a b k).length ≤ (partsOf a).length + (partsOf b).length := by
  unfold pre
  split
  · simp
  · split <;> simp
set_option maxHeartbeats 1200000 in
set_option maxRecDepth 100000 in
theorem joins_main (p q : ByteArray) (a b : S26) (ka kb : Int) (w : World) (HP : Hid (∀ w, Calls Try.prog 9 #[.string p] w (PRes w (a, 0, ka)))) (HQ : Hid (∀ w, Calls Try.prog 9 #[.string q] w (PRes w (b, 0, kb)))) (hl : (p.size : Int) + q.size ≤ 250)
    (HKA : Hid ((partsOf a).length ≤ 300 ∧ (partsOf b).length ≤ 300))
    (HOR : Hid (∀ w, Calls Try.prog 9 #[.string (p ++ ⟨#[124]⟩ ++ q)] w (PRes w (⟨3, [], partsOf a ++ partsOf b⟩, 0, 0))))
    (HCAT : Hid (∀ w, Calls Try.prog 9 #[.string (⟨#[40]⟩ ++ p ++ ⟨#[41, 40]⟩ ++ q ++ ⟨#[41]⟩)] w (PRes w (⟨2, [], [a, b]⟩, 0, 0))))
    (HST : Hid (∀ w, Calls Try.prog 9 #[.string (⟨#[40]⟩ ++ p ++ ⟨#[41, 42]⟩)] w (PRes w (⟨2, [], [⟨4, [], [a]⟩]⟩, 0, 0)))) : Calls Try.prog 3 #[.string p, .string q] w (Told w true) := by
  go_enter Try.func3, Try.ntmps3
  go_wp2_with (first
    | (go_at_call 8; refine (parsing_any _).mono ?_; rintro e w1 ⟨rfl, hk⟩; have HK1 := Lib.hid hk; clear hk)
    | (go_at_call 9; (with_reducible refine (HP.out _).mono ?_); rintro e w2 ⟨v, rfl, hta, hk⟩; (obtain ⟨A1, n1, c1, A2, n2, c2, rfl, hr1, hr2⟩ := hta); have HR1 := Lib.hid hr1; have HR2 := Lib.hid hr2; have HK2 := Lib.hid hk; clear hk hr1 hr2)
    | (go_at_call 9; (with_reducible refine (HQ.out _).mono ?_); rintro e w3 ⟨v, rfl, htb, hk⟩; (obtain ⟨A3, n3, c3, A4, n4, c4, rfl, hr3, hr4⟩ := htb); (obtain ⟨f0, f1, f2⟩ := load3 (blk_alloc (blk_alloc (hk.blk (blk_new w2 (.cells #[.int .i64 a.f0, .slice A1 n1 c1, .slice A2 n2 c2] 26))) (.cells #[.int .i64 b.f0, .slice A3 n3 c3, .slice A4 n4 c4] 26)) (.cells #[] 26))); have HR3 := Lib.hid hr3; have HR4 := Lib.hid hr4; have HK3 := Lib.hid hk; clear hk hr3 hr4))
  have HOB : ∃ ob, ob = (.cells #[.int .i64 b.f0, .slice A3 n3 c3, .slice A4 n4 c4] 26 : Obj) := ⟨_, rfl⟩
  obtain ⟨ob, hob⟩ := HOB
  obtain ⟨o6, ho6⟩ : ∃ o, o = (.cells #[.int .i64 a.f0, .slice A1 n1 c1, .slice A2 n2 c2, .int .i64 b.f0, .slice A3 n3 c3, .slice A4 n4 c4] 26 : Obj) := ⟨_, rfl⟩
  rw [← hob, ← ho6]
  have HO6 := Lib.hid ho6
  have HOBQ := Lib.hid hob
  have hz1 : (w3.alloc ob).heap.size = w3.heap.size + 1 := al_size _ _
  have LA : Hid (Leg (w3.alloc ob) (w3.alloc ob) w1.heap.size a A1 n1 c1 A2 n2 c2) := Lib.hid ((Leg.of HR1.out HR2.out (Nat.le_refl _) (by have := HK3.out.size; rw [al_size] at this; omega)).step (((Kpt.refl w2).alloc _).trans HK3.out |>.alloc _))
  have LB : Hid (Leg (w3.alloc ob) (w3.alloc ob) w1.heap.size b A3 n3 c3 A4 n4 c4) := Lib.hid ((Leg.of HR3.out HR4.out (by have := HK2.out.size; rw [al_size]; omega) (by omega)).step ((Kpt.refl w3).alloc _))
  have JI0 : Hid (JI (w3.alloc ob) (((w3.alloc ob).alloc (.cells #[] 26)).alloc o6) w1.heap.size o6 (some ⟨w3.heap.size + 1, 0, none⟩) 0 0 []) := by
    have hb1 : w1.heap.size ≤ (w3.alloc ob).heap.size := by have h1 := HK2.out.size; have h2 := HK3.out.size; rw [al_size] at h2; omega
    refine Lib.hid ⟨?_, ((Kpt.refl _).alloc _).alloc _, fun g hg => .inl ?_, ?_, hb1⟩
    · have h := OwnRow.lit (R := k26.M (w3.alloc ob) w1.heap.size (fun _ => True)) (e := 26) (size := k26.sz) (ps := []) (w3.alloc ob) w1.heap.size (inner := []) (Reps.none _ _) hb1 (by simp)
      rw [hz1] at h
      exact Kd.R_alloc (show Kd.R k26 26 ((w3.alloc ob).alloc (.cells #[] 26)) w1.heap.size (fun _ => True) (.slice (some ⟨w3.heap.size + 1, 0, none⟩) 0 0) [] from ⟨fun _ _ => trivial, by obtain ⟨inner, h1, h2⟩ := h; exact ⟨inner, h1, ⟨h2.1, fun j p hj => by simp at hj⟩⟩⟩) _
    · rw [hz1]; have : some (w3.heap.size + 1) = some g := hg; exact (Option.some.inj this).symm
    · have := blk_new ((w3.alloc ob).alloc (.cells #[] 26)) o6
      rw [al_size] at this
      exact this
  clear hob ho6 hz1 f0 f1 f2
  go_loopg [11, 56] 3 (fun kq v11 v56 wr => ∃ (k : Nat) (A : Option Addr) (n c : Nat), v56 = .int .i64 (k : Int) ∧ v11 = .slice A n c ∧ k ≤ 2 ∧ Hid (JI (w3.alloc ob) wr w1.heap.size o6 A n c (pre a b k)) ∧ Hid (2 - k < kq))
  case atStart => exact ⟨0, _, 0, 0, rfl, rfl, by omega, JI0, Lib.hid (by omega)⟩
  case round =>
    obtain ⟨k, A, n, c, rfl, rfl, hk, HJ, HQ⟩ := hrel
    by_cases hlt : k < 2
    · have h2 := HJ.out.two
      rw [HO6.out, al_size] at h2
      obtain ⟨f0, f1, f2, f3, f4, f5⟩ := load6 h2
      clear h2
      have hk01 : k = 0 ∨ k = 1 := by omega
      clear hk hlt
      rcases hk01 with rfl | rfl
      · as_aux_lemma =>
          obtain rfl : n = (pre a b 0).length := (Kd.R_reads' HJ.out.row).1
          have HS0 : Hid (w1.heap.size ≤ (wr.alloc (.cells #[.int .i64 a.f0, .slice A1 n1 c1, .slice A2 n2 c2] 26)).heap.size) := Lib.hid (by have := HJ.out.size; have := HJ.out.base; rw [al_size]; omega)
          have HM := Lib.hid ((LA.out.on HJ.out.below).step ((Below.refl wr.heap.size wr).alloc (Nat.le_refl _) (.cells #[.int .i64 a.f0, .slice A1 n1 c1, .slice A2 n2 c2] 26)))
          by_cases h3 : a.f0 = 3
          · have g1 : (a.f0 == 3) = true := by simpa using h3
            have HPO : Hid (partsOf a = a.f2) := Lib.hid (by unfold partsOf; rw [if_pos h3])
            have HLN : Hid (((pre a b 0).length + n2) * 56 ≤ 140737488355328) := Lib.hid (by rw [LA.out.len, ← HPO.out]; have := HKA.out; have := pre_len a b 0; omega)
            clear h3
            go_wp2_with (first | ((with_reducible refine gate_builtin (b := .append) (xs := #[.tmp 63, .tmp 65]) rfl ?_); at_builtin; go_loud (refine Kd.R_append_rows k26 (Rr := k26.M (wr.alloc (.cells #[.int .i64 a.f0, .slice A1 n1 c1, .slice A2 n2 c2] 26)) w1.heap.size (fun k => k < (w3.alloc ob).heap.size)) (w0 := wr.alloc (.cells #[.int .i64 a.f0, .slice A1 n1 c1, .slice A2 n2 c2] 26)) w1.heap.size rfl (.tmp 63) (.tmp 65) 24 26 _ 56 rfl Try.underlying24 info26 rfl (by decide) (by omega) (.slice A (pre a b 0).length c) (pre a b 0) a.f2 A2 n2 c2 (fun _ => True) (fun k => k < (w3.alloc ob).heap.size) rfl rfl ?aO ?aR (fun _ _ h => h) HJ.out.ok (fun _ _ => trivial) ?aB ?aS ?aL ?_; (case aO => exact Kd.R_alloc HJ.out.row _); (case aR => exact HM.out.kids); (case aB => exact Below.refl _ _); (case aS => exact HS0.out); (case aL => exact HLN.out); intro v9 w9 hr9 hb9 hg9 hat9; (obtain ⟨A9, n9, c9, rfl⟩ : ∃ A n c, v9 = .slice A n c := by obtain ⟨A, c, e⟩ := Kd.R_slice hr9; exact ⟨A, _, c, e⟩); have HJ9 := Lib.hid ((HJ.out.alloc (.cells #[.int .i64 a.f0, .slice A1 n1 c1, .slice A2 n2 c2] 26)).grown hr9 hb9 hg9 hat9); clear hr9 hb9 hg9 hat9)))
            go_roundg (2 - 0)
            case measure => have := HQ.out; omega
            case rel => exact ⟨1, A9, n9, c9, rfl, rfl, by omega, Lib.hid (by rw [show pre a b 1 = [] ++ a.f2 from (by rw [← HPO.out]; rfl)]; exact HJ9.out), Lib.hid (by omega)⟩
          · have g1 : (a.f0 == 3) = false := by simpa using h3
            have HPO : Hid (partsOf a = [a]) := Lib.hid (by unfold partsOf; rw [if_neg h3])
            have HLN : Hid (((pre a b 0).length + 1) * 56 ≤ 140737488355328) := Lib.hid (by have := HKA.out; have := pre_len a b 0; omega)
            clear h3
            go_wp2_with (first | ((with_reducible refine gate_builtin (b := .append) (xs := #[.tmp 67, .tmp 69]) rfl ?_); at_builtin; go_loud (refine Kd.R_append k26 (w0 := wr.alloc (.cells #[.int .i64 a.f0, .slice A1 n1 c1, .slice A2 n2 c2] 26)) w1.heap.size rfl (.tmp 67) (.tmp 69) 24 26 _ 56 rfl Try.underlying24 info26 rfl (by decide) (by omega) (.slice A (pre a b 0).length c) (pre a b 0) a [.int .i64 a.f0, .slice A1 n1 c1, .slice A2 n2 c2] (fun _ => True) (fun k => k < (w3.alloc ob).heap.size) rfl (by rw [al_size]; rfl) ?aP HJ.out.ok (fun _ _ => trivial) ?aO ?aB ?aS ?aL ?_; (case aP => exact HM.out.M); (case aO => exact Kd.R_alloc HJ.out.row _); (case aB => exact Below.refl _ _); (case aS => exact HS0.out); (case aL => exact HLN.out); intro v9 w9 hr9 hb9 hg9 hat9; (obtain ⟨A9, n9, c9, rfl⟩ : ∃ A n c, v9 = .slice A n c := by obtain ⟨A, c, e⟩ := Kd.R_slice hr9; exact ⟨A, _, c, e⟩); have HJ9 := Lib.hid ((HJ.out.alloc (.cells #[.int .i64 a.f0, .slice A1 n1 c1, .slice A2 n2 c2] 26)).grown hr9 hb9 hg9 hat9); clear hr9 hb9 hg9 hat9)))
            go_roundg (2 - 0)
            case measure => have := HQ.out; omega
            case rel => exact ⟨1, A9, n9, c9, rfl, rfl, by omega, Lib.hid (by rw [show pre a b 1 = [] ++ [a] from (by rw [← HPO.out]; rfl)]; exact HJ9.out), Lib.hid (by omega)⟩
      · as_aux_lemma =>
          obtain rfl : n = (pre a b 1).length := (Kd.R_reads' HJ.out.row).1
          have HS0 : Hid (w1.heap.size ≤ (wr.alloc (.cells #[.int .i64 b.f0, .slice A3 n3 c3, .slice A4 n4 c4] 26)).heap.size) := Lib.hid (by have := HJ.out.size; have := HJ.out.base; rw [al_size]; omega)
          have HM := Lib.hid ((LB.out.on HJ.out.below).step ((Below.refl wr.heap.size wr).alloc (Nat.le_refl _) (.cells #[.int .i64 b.f0, .slice A3 n3 c3, .slice A4 n4 c4] 26)))
          by_cases h3 : b.f0 = 3
          · have g1 : (b.f0 == 3) = true := by simpa using h3
            have HPO : Hid (partsOf b = b.f2) := Lib.hid (by unfold partsOf; rw [if_pos h3])
            have HLN : Hid (((pre a b 1).length + n4) * 56 ≤ 140737488355328) := Lib.hid (by rw [LB.out.len, ← HPO.out]; have := HKA.out; have := pre_len a b 1; omega)
            clear h3
            go_wp2_with (first | ((with_reducible refine gate_builtin (b := .append) (xs := #[.tmp 63, .tmp 65]) rfl ?_); at_builtin; go_loud (refine Kd.R_append_rows k26 (Rr := k26.M (wr.alloc (.cells #[.int .i64 b.f0, .slice A3 n3 c3, .slice A4 n4 c4] 26)) w1.heap.size (fun k => k < (w3.alloc ob).heap.size)) (w0 := wr.alloc (.cells #[.int .i64 b.f0, .slice A3 n3 c3, .slice A4 n4 c4] 26)) w1.heap.size rfl (.tmp 63) (.tmp 65) 24 26 _ 56 rfl Try.underlying24 info26 rfl (by decide) (by omega) (.slice A (pre a b 1).length c) (pre a b 1) b.f2 A4 n4 c4 (fun _ => True) (fun k => k < (w3.alloc ob).heap.size) rfl rfl ?aO ?aR (fun _ _ h => h) HJ.out.ok (fun _ _ => trivial) ?aB ?aS ?aL ?_; (case aO => exact Kd.R_alloc HJ.out.row _); (case aR => exact HM.out.kids); (case aB => exact Below.refl _ _); (case aS => exact HS0.out); (case aL => exact HLN.out); intro v9 w9 hr9 hb9 hg9 hat9; (obtain ⟨A9, n9, c9, rfl⟩ : ∃ A n c, v9 = .slice A n c := by obtain ⟨A, c, e⟩ := Kd.R_slice hr9; exact ⟨A, _, c, e⟩); have HJ9 := Lib.hid ((HJ.out.alloc (.cells #[.int .i64 b.f0, .slice A3 n3 c3, .slice A4 n4 c4] 26)).grown hr9 hb9 hg9 hat9); clear hr9 hb9 hg9 hat9)))
            go_roundg (2 - 1)
            case measure => have := HQ.out; omega
            case rel => exact ⟨2, A9, n9, c9, rfl, rfl, by omega, Lib.hid (by rw [show pre a b 2 = (partsOf a) ++ b.f2 from (by rw [← HPO.out]; rfl)]; exact HJ9.out), Lib.hid (by omega)⟩
          · have g1 : (b.f0 == 3) = false := by simpa using h3
            have HPO : Hid (partsOf b = [b]) := Lib.hid (by unfold partsOf; rw [if_neg h3])
            have HLN : Hid (((pre a b 1).length + 1) * 56 ≤ 140737488355328) := Lib.hid (by have := HKA.out; have := pre_len a b 1; omega)
            clear h3
            go_wp2_with (first | ((with_reducible refine gate_builtin (b := .append) (xs := #[.tmp 67, .tmp 69]) rfl ?_); at_builtin; go_loud (refine Kd.R_append k26 (w0 := wr.alloc (.cells #[.int .i64 b.f0, .slice A3 n3 c3, .slice A4 n4 c4] 26)) w1.heap.size rfl (.tmp 67) (.tmp 69) 24 26 _ 56 rfl Try.underlying24 info26 rfl (by decide) (by omega) (.slice A (pre a b 1).length c) (pre a b 1) b [.int .i64 b.f0, .slice A3 n3 c3, .slice A4 n4 c4] (fun _ => True) (fun k => k < (w3.alloc ob).heap.size) rfl (by rw [al_size]; rfl) ?aP HJ.out.ok (fun _ _ => trivial) ?aO ?aB ?aS ?aL ?_; (case aP => exact HM.out.M); (case aO => exact Kd.R_alloc HJ.out.row _); (case aB => exact Below.refl _ _); (case aS => exact HS0.out); (case aL => exact HLN.out); intro v9 w9 hr9 hb9 hg9 hat9; (obtain ⟨A9, n9, c9, rfl⟩ : ∃ A n c, v9 = .slice A n c := by obtain ⟨A, c, e⟩ := Kd.R_slice hr9; exact ⟨A, _, c, e⟩); have HJ9 := Lib.hid ((HJ.out.alloc (.cells #[.int .i64 b.f0, .slice A3 n3 c3, .slice A4 n4 c4] 26)).grown hr9 hb9 hg9 hat9); clear hr9 hb9 hg9 hat9)))
            go_roundg (2 - 1)
            case measure => have := HQ.out; omega
            case rel => exact ⟨2, A9, n9, c9, rfl, rfl, by omega, Lib.hid (by rw [show pre a b 2 = (partsOf a) ++ [b] from (by rw [← HPO.out]; rfl)]; exact HJ9.out), Lib.hid (by omega)⟩
    · obtain rfl : k = 2 := by omega
      have HPRE : Hid (pre a b 2 = partsOf a ++ partsOf b) := Lib.hid rfl
      rw [HPRE.out] at HJ
      have hka := (HK3.out.blk (blk_new w2 (.cells #[.int .i64 a.f0, .slice A1 n1 c1, .slice A2 n2 c2] 26)))
      have yA := HJ.out.below.block _ (Nat.lt_trans (blk_lt hka) (by rw [al_size]; exact Nat.lt_succ_self _))
      have YA : Hid (wr.heap[w2.heap.size]? = some (.cells #[.int .i64 a.f0, .slice A1 n1 c1, .slice A2 n2 c2] 26 (0, 0))) := Lib.hid (yA.trans (blk_alloc hka ob))
      have hkb := blk_new w3 ob
      rw [HOBQ.out] at hkb
      have YB : Hid (wr.heap[w3.heap.size]? = some (.cells #[.int .i64 b.f0, .slice A3 n3 c3, .slice A4 n4 c4] 26 (0, 0))) := Lib.hid ((HJ.out.below.block _ (by rw [al_size]; exact Nat.lt_succ_self _)).trans (by rw [HOBQ.out]; exact hkb))
      have TA : Hid (TC wr (.agg #[.int .i64 a.f0, .slice A1 n1 c1, .slice A2 n2 c2]) a) := Lib.hid (LA.out.on HJ.out.below).tc
      have TB : Hid (TC wr (.agg #[.int .i64 b.f0, .slice A3 n3 c3, .slice A4 n4 c4]) b) := Lib.hid (LB.out.on HJ.out.below).tc
      have HKW : Hid (Kpt w wr) := Lib.hid ((((HK1.out.trans HK2.out).alloc _).trans HK3.out |>.alloc ob).trans HJ.out.below)
      obtain ⟨rfl, hlc, hC⟩ := Kd.R_reads' HJ.out.row
      have TP : Hid (TC wr (.agg #[.int .i64 3, .slice none 0 0, .slice A (partsOf a ++ partsOf b).length c]) ⟨3, [], partsOf a ++ partsOf b⟩) := Lib.hid ⟨none, 0, A, c, rfl, Nat.le_refl _, Kd.C_nil _ _, hlc, hC⟩
      obtain ⟨np, hnp⟩ : ∃ np, np = (partsOf a ++ partsOf b).length := ⟨_, rfl⟩
      rw [← hnp] at TP ⊢
      clear hka yA hkb hlc hC hnp HJ LA LB JI0 HKA HR1 HR2 HR3 HR4 HK1 HK2 HK3 HPRE hlt hk HP HQ HOBQ HO6
      go_wp2_with (first
        | (go_at_call 9; (with_reducible refine (HOR.out _).mono ?_); rintro e w6 ⟨v, rfl, hta, hk⟩; (obtain ⟨A5, n5, c5, A6, n6, c6, rfl, hr1, hr2⟩ := hta); have T6 : Hid (TC w6 (.agg #[.int .i64 3, .slice A5 n5 c5, .slice A6 n6 c6]) ⟨3, [], partsOf a ++ partsOf b⟩) := Lib.hid (Tree.tc ⟨A5, n5, c5, A6, n6, c6, rfl, hr1, hr2⟩); have HK6 := Lib.hid hk; clear hk hr1 hr2)
        | (go_at_call 9; (with_reducible refine (HCAT.out _).mono ?_); rintro e w7 ⟨v, rfl, hta, hk⟩; (obtain ⟨A7, n7, c7, A8, n8, c8, rfl, hr1, hr2⟩ := hta); have T7 : Hid (TC w7 (.agg #[.int .i64 2, .slice A7 n7 c7, .slice A8 n8 c8]) ⟨2, [], [a, b]⟩) := Lib.hid (Tree.tc ⟨A7, n7, c7, A8, n8, c8, rfl, hr1, hr2⟩); have HK7 := Lib.hid hk; clear hk hr1 hr2)
        | (go_at_call 9; (with_reducible refine (HST.out _).mono ?_); rintro e w8 ⟨v, rfl, hta, hk⟩; (obtain ⟨A9, n9, c9, A10, n10, c10, rfl, hr1, hr2⟩ := hta);
            have T8 : Hid (TC w8 (.agg #[.int .i64 2, .slice A9 n9 c9, .slice A10 n10 c10]) ⟨2, [], [⟨4, [], [a]⟩]⟩) := Lib.hid (Tree.tc ⟨A9, n9, c9, A10, n10, c10, rfl, hr1, hr2⟩);
            have Y6 : Hid ((w8.alloc (.cells #[.int .i64 2, .slice A9 n9 c9, .slice A10 n10 c10] 26)).heap[w6.heap.size]? = some (.cells #[.int .i64 3, .slice A5 n5 c5, .slice A6 n6 c6] 26 (0, 0))) := Lib.hid (blk_alloc (hk.blk (blk_alloc (HK7.out.blk (blk_new w6 (.cells #[.int .i64 3, .slice A5 n5 c5, .slice A6 n6 c6] 26))) (.cells #[.int .i64 2, .slice A7 n7 c7, .slice A8 n8 c8] 26))) (.cells #[.int .i64 2, .slice A9 n9 c9, .slice A10 n10 c10] 26));
            have Y7 : Hid ((w8.alloc (.cells #[.int .i64 2, .slice A9 n9 c9, .slice A10 n10 c10] 26)).heap[w7.heap.size]? = some (.cells #[.int .i64 2, .slice A7 n7 c7, .slice A8 n8 c8] 26 (0, 0))) := Lib.hid (blk_alloc (hk.blk (blk_new w7 (.cells #[.int .i64 2, .slice A7 n7 c7, .slice A8 n8 c8] 26))) (.cells #[.int .i64 2, .slice A9 n9 c9, .slice A10 n10 c10] 26));
            have Y8 : Hid ((w8.alloc (.cells #[.int .i64 2, .slice A9 n9 c9, .slice A10 n10 c10] 26)).heap[w8.heap.size]? = some (.cells #[.int .i64 2, .slice A9 n9 c9, .slice A10 n10 c10] 26 (0, 0))) := Lib.hid (blk_new w8 (.cells #[.int .i64 2, .slice A9 n9 c9, .slice A10 n10 c10] 26));
            have HK9 : Hid (Kpt wr (w8.alloc (.cells #[.int .i64 2, .slice A9 n9 c9, .slice A10 n10 c10] 26))) := Lib.hid ((((HK6.out.alloc (.cells #[.int .i64 3, .slice A5 n5 c5, .slice A6 n6 c6] 26)).trans HK7.out).alloc (.cells #[.int .i64 2, .slice A7 n7 c7, .slice A8 n8 c8] 26) |>.trans hk).alloc (.cells #[.int .i64 2, .slice A9 n9 c9, .slice A10 n10 c10] 26));
            have T69 : Hid (TC (w8.alloc (.cells #[.int .i64 2, .slice A9 n9 c9, .slice A10 n10 c10] 26)) _ _) := Lib.hid (T6.out.below ((((Kpt.refl w6).alloc (.cells #[.int .i64 3, .slice A5 n5 c5, .slice A6 n6 c6] 26)).trans HK7.out).alloc (.cells #[.int .i64 2, .slice A7 n7 c7, .slice A8 n8 c8] 26) |>.trans hk |>.alloc (.cells #[.int .i64 2, .slice A9 n9 c9, .slice A10 n10 c10] 26)));
            have T79 : Hid (TC (w8.alloc (.cells #[.int .i64 2, .slice A9 n9 c9, .slice A10 n10 c10] 26)) _ _) := Lib.hid (T7.out.below ((((Kpt.refl w7).alloc (.cells #[.int .i64 2, .slice A7 n7 c7, .slice A8 n8 c8] 26)).trans hk).alloc (.cells #[.int .i64 2, .slice A9 n9 c9, .slice A10 n10 c10] 26)));
            have T89 : Hid (TC (w8.alloc (.cells #[.int .i64 2, .slice A9 n9 c9, .slice A10 n10 c10] 26)) _ _) := Lib.hid (T8.out.alloc (.cells #[.int .i64 2, .slice A9 n9 c9, .slice A10 n10 c10] 26));
            have HS1 : Hid (Calls Try.prog 10 #[.agg #[.int .i64 3, .slice A5 n5 c5, .slice A6 n6 c6], .agg #[.int .i64 3, .slice none 0 0, .slice A np c]] (w8.alloc (.cells #[.int .i64 2, .slice A9 n9 c9, .slice A10 n10 c10] 26)) (Told (w8.alloc (.cells #[.int .i64 2, .slice A9 n9 c9, .slice A10 n10 c10] 26)) true)) := Lib.hid (same_any T69.out (TP.out.below HK9.out));
            (obtain ⟨f0, f1, f2⟩ := load3 Y6.out); clear hk hr1 hr2)
        | (go_at_call 10; (with_reducible refine HS1.out.mono ?_); rintro e w10 ⟨rfl, hk⟩;
            (obtain ⟨g0, g1, g2⟩ := load3 (hk.blk Y7.out)); (obtain ⟨g3, g4, g5⟩ := load3 (hk.blk (HK9.out.blk YA.out))); (obtain ⟨g6, g7, g8⟩ := load3 (hk.blk (HK9.out.blk YB.out)));
            have T710 := Lib.hid (T79.out.below hk); have KA := Lib.hid ((TA.out.below HK9.out).below hk).kk; have KB := Lib.hid ((TB.out.below HK9.out).below hk).kk; have HKT := Lib.hid hk;
            have HS2 : Hid (Calls Try.prog 10 #[.agg #[.int .i64 2, .slice A7 n7 c7, .slice A8 n8 c8], .agg #[.int .i64 2, .slice none 0 0, .slice (some ⟨w10.heap.size, 0, none⟩) 2 2]] (w10.alloc (.cells #[.int .i64 a.f0, .slice A1 n1 c1, .slice A2 n2 c2, .int .i64 b.f0, .slice A3 n3 c3, .slice A4 n4 c4] 26)) (Told (w10.alloc (.cells #[.int .i64 a.f0, .slice A1 n1 c1, .slice A2 n2 c2, .int .i64 b.f0, .slice A3 n3 c3, .slice A4 n4 c4] 26)) true)) := Lib.hid (same_any (T710.out.alloc _) (built2 KA.out KB.out)); clear hk; have tok2 : True := trivial)
        | (go_at_call 10; (have t_ := tok2); clear t_; (with_reducible refine HS2.out.mono ?_); rintro e w11 ⟨rfl, hk⟩; clear tok2;
            (have hk' : Kpt w10 w11 := ((Kpt.refl w10).alloc (.cells #[.int .i64 a.f0, .slice A1 n1 c1, .slice A2 n2 c2, .int .i64 b.f0, .slice A3 n3 c3, .slice A4 n4 c4] 26)).trans hk); (obtain ⟨h0, h1, h2⟩ := load3 (hk'.blk (HKT.out.blk Y8.out))); (obtain ⟨h3, h4, h5⟩ := load3 (hk'.blk (HKT.out.blk (HK9.out.blk YA.out))));
            have T811 := Lib.hid ((T89.out.below HKT.out).below hk'); have KA2 := Lib.hid (((TA.out.below HK9.out).below HKT.out).below hk').kk; have HKU := Lib.hid hk';
            have HS3 : Hid (Calls Try.prog 10 #[.agg #[.int .i64 2, .slice A9 n9 c9, .slice A10 n10 c10], .agg #[.int .i64 2, .slice none 0 0, .slice (some ⟨w11.heap.size + 1, 0, none⟩) 1 1]] ((w11.alloc (.cells #[.int .i64 a.f0, .slice A1 n1 c1, .slice A2 n2 c2] 26)).alloc (.cells #[.int .i64 4, .slice none 0 0, .slice (some ⟨w11.heap.size, 0, none⟩) 1 1] 26)) (Told ((w11.alloc (.cells #[.int .i64 a.f0, .slice A1 n1 c1, .slice A2 n2 c2] 26)).alloc (.cells #[.int .i64 4, .slice none 0 0, .slice (some ⟨w11.heap.size, 0, none⟩) 1 1] 26)) true)) := Lib.hid (same_any ((T811.out.alloc _).alloc _) (by have := built1 2 (built1 4 KA2.out).kk; rw [al_size] at this; exact this)); clear hk hk'; have tok3 : True := trivial)
        | (go_at_call 10; (have t_ := tok3); clear t_; (with_reducible refine HS3.out.mono ?_); rintro e w12 ⟨rfl, hk⟩; clear tok3; have HKV := Lib.hid hk; clear hk))
      go_ret
      exact ⟨rfl, ((((HKW.out.trans HK9.out).trans HKT.out).trans HKU.out).alloc _ |>.alloc _).trans HKV.out⟩
theorem bI_bar (p q : ByteArray) : bI (p ++ ⟨#[124]⟩ ++ q) = bI p ++ 124 :: bI q := by
  rw [bI_app, bI_app, show bI ⟨#[124]⟩ = [124] from rfl]; simp
theorem bI_two (p q : ByteArray) : bI (⟨#[40]⟩ ++ p ++ ⟨#[41, 40]⟩ ++ q ++ ⟨#[41]⟩) = 40 :: bI p ++ 41 :: 40 :: bI q ++ [41] := by
  rw [bI_app, bI_app, bI_app, bI_app, show bI ⟨#[40]⟩ = [40] from rfl, show bI ⟨#[41, 40]⟩ = [41, 40] from rfl, show bI ⟨#[41]⟩ = [41] from rfl]; simp
theorem bI_star (p : ByteArray) : bI (⟨#[40]⟩ ++ p ++ ⟨#[41, 42]⟩) = 40 :: bI p ++ [41, 42] := by
  rw [bI_app, bI_app, show bI ⟨#[40]⟩ = [40] from rfl, show bI ⟨#[41, 42]⟩ = [41, 42] from rfl]; simp
theorem parse_says (s : ByteArray) (t : S26) (h : altR (bI s) = .ok t []) (hs : s.size ≤ 256) (w : World) : Calls Try.prog 9 #[.string s] w (PRes w (t, 0, 0)) := parse_ok hs h
/-- One of both can't be read. -/
theorem joins_idle1 (p q : ByteArray) (a b : S26) (c d ka kb : Int) (w : World) (HP : Hid (∀ w, Calls Try.prog 9 #[.string p] w (PRes w (a, c, ka)))) (HQ : Hid (∀ w, Calls Try.prog 9 #[.string q] w (PRes w (b, d, kb)))) (hc : ¬ c = 0) : Calls Try.prog 3 #[.string p, .string q] w (Told w true) := by
  have g1 : (c == 0) = false := by simpa using hc
  have g2 : (c != 0) = true := by simpa using hc
  clear hc
  go_enter Try.func3, Try.ntmps3
  go_wp2_with (first
    | (go_at_call 8; refine (parsing_any _).mono ?_; rintro e w1 ⟨rfl, hk⟩; have HK1 := Lib.hid hk; clear hk; have tok1 : True := trivial)
    | (go_at_call 9; (have t_ := tok1); clear t_; (with_reducible refine (HP.out _).mono ?_); rintro e w2 ⟨v, rfl, ⟨A3, n3, c3, A4, n4, c4, rfl, hr1, hr2⟩, hk⟩; have HK2 := Lib.hid hk; clear hr1 hr2 hk tok1)
    | (go_at_call 9; (with_reducible refine (HQ.out _).mono ?_); rintro e w3 ⟨v, rfl, ⟨A5, n5, c5, A6, n6, c6, rfl, hr1, hr2⟩, hk⟩; have HK3 := Lib.hid hk; clear hr1 hr2 hk))
  go_ret
  exact ⟨rfl, (((HK1.out.trans HK2.out).alloc _).trans HK3.out).alloc _⟩
theorem joins_idle2 (p q : ByteArray) (a b : S26) (d ka kb : Int) (w : World) (HP : Hid (∀ w, Calls Try.prog 9 #[.string p] w (PRes w (a, 0, ka)))) (HQ : Hid (∀ w, Calls Try.prog 9 #[.string q] w (PRes w (b, d, kb)))) (hc : ¬ d = 0) : Calls Try.prog 3 #[.string p, .string q] w (Told w true) := by
  have g1 : (d == 0) = false := by simpa using hc
  have g2 : (d != 0) = true := by simpa using hc
  clear hc
  go_enter Try.func3, Try.ntmps3
  go_wp2_with (first
    | (go_at_call 8; refine (parsing_any _).mono ?_; rintro e w1 ⟨rfl, hk⟩; have HK1 := Lib.hid hk; clear hk; have tok1 : True := trivial)
    | (go_at_call 9; (have t_ := tok1); clear t_; (with_reducible refine (HP.out _).mono ?_); rintro e w2 ⟨v, rfl, ⟨A3, n3, c3, A4, n4, c4, rfl, hr1, hr2⟩, hk⟩; have HK2 := Lib.hid hk; clear hr1 hr2 hk tok1)
    | (go_at_call 9; (with_reducible refine (HQ.out _).mono ?_); rintro e w3 ⟨v, rfl, ⟨A5, n5, c5, A6, n6, c6, rfl, hr1, hr2⟩, hk⟩; have HK3 := Lib.hid hk; clear hr1 hr2 hk))
  go_ret
  exact ⟨rfl, (((HK1.out.trans HK2.out).alloc _).trans HK3.out).alloc _⟩
theorem joins_idle3 (p q : ByteArray) (a b : S26) (ka kb : Int) (w : World) (HP : Hid (∀ w, Calls Try.prog 9 #[.string p] w (PRes w (a, 0, ka)))) (HQ : Hid (∀ w, Calls Try.prog 9 #[.string q] w (PRes w (b, 0, kb)))) (hc : (250 : Int) < (p.size : Int) + (q.size : Int)) (hs : (p.size : Int) ≤ 256) (hs2 : (q.size : Int) ≤ 256) : Calls Try.prog 3 #[.string p, .string q] w (Told w true) := by
  have g1 : decide ((p.size : Int) + (q.size : Int) > 250) = true := by simpa using hc
  have g2 : decide (250 < (p.size : Int) + (q.size : Int)) = true := by simpa using hc
  clear hc
  go_enter Try.func3, Try.ntmps3
  go_wp2_with (first
    | (go_at_call 8; refine (parsing_any _).mono ?_; rintro e w1 ⟨rfl, hk⟩; have HK1 := Lib.hid hk; clear hk; have tok1 : True := trivial)
    | (go_at_call 9; (have t_ := tok1); clear t_; (with_reducible refine (HP.out _).mono ?_); rintro e w2 ⟨v, rfl, ⟨A3, n3, c3, A4, n4, c4, rfl, hr1, hr2⟩, hk⟩; have HK2 := Lib.hid hk; clear hr1 hr2 hk tok1)
    | (go_at_call 9; (with_reducible refine (HQ.out _).mono ?_); rintro e w3 ⟨v, rfl, ⟨A5, n5, c5, A6, n6, c6, rfl, hr1, hr2⟩, hk⟩; have HK3 := Lib.hid hk; clear hr1 hr2 hk))
  go_ret
  exact ⟨rfl, (((HK1.out.trans HK2.out).alloc _).trans HK3.out).alloc _⟩
theorem joins_walk (p q : ByteArray) (hp : p.size ≤ maxLen) (hq : q.size ≤ maxLen) (w : World) : Calls Try.prog 3 #[.string p, .string q] w (Told w true) := by
  have HP : Hid (∀ w, Calls Try.prog 9 #[.string p] w (PRes w (parseP (bI p)))) := Lib.hid (parse_any p)
  have HQ : Hid (∀ w, Calls Try.prog 9 #[.string q] w (PRes w (parseP (bI q)))) := Lib.hid (parse_any q)
  obtain ⟨⟨a, c, ka⟩, hqa⟩ : ∃ x, parseP (bI p) = x := ⟨_, rfl⟩
  obtain ⟨⟨b, d, kb⟩, hqb⟩ : ∃ x, parseP (bI q) = x := ⟨_, rfl⟩
  rw [hqa] at HP
  rw [hqb] at HQ
  by_cases hc : c = 0
  · subst hc
    by_cases hd : d = 0
    · subst hd
      obtain ⟨ha, hs⟩ := parseP_ok hqa rfl
      obtain ⟨hb, hs2⟩ := parseP_ok hqb rfl
      by_cases hl : (p.size : Int) + (q.size : Int) ≤ 250
      · have la := (alt_cases ha).1
        have lb := (alt_cases hb).1
        rw [bI_len] at la lb
        refine joins_main p q a b ka kb w HP HQ hl (Lib.hid ⟨by omega, by omega⟩) (Lib.hid fun w => parse_says _ _ ?_ ?_ w) (Lib.hid fun w => parse_says _ _ ?_ ?_ w) (Lib.hid fun w => parse_says _ _ ?_ ?_ w)
        · rw [bI_bar]; exact join_or ha hb
        · rw [size_app, size_app, show (⟨#[124]⟩ : ByteArray).size = 1 from rfl]; omega
        · rw [bI_two]; exact join_cat ha hb
        · rw [size_app, size_app, size_app, size_app, show (⟨#[40]⟩ : ByteArray).size = 1 from rfl, show (⟨#[41, 40]⟩ : ByteArray).size = 2 from rfl, show (⟨#[41]⟩ : ByteArray).size = 1 from rfl]; omega
        · rw [bI_star]; exact join_star ha
        · rw [size_app, size_app, show (⟨#[40]⟩ : ByteArray).size = 1 from rfl, show (⟨#[41, 42]⟩ : ByteArray).size = 2 from rfl]; omega
      · exact joins_idle3 p q a b ka kb w HP HQ (by omega) (by omega) (by omega)
    · exact joins_idle2 p q a b d ka kb w HP HQ hd
  · exact joins_idle1 p q a b c d ka kb w HP HQ hc
end Go.Proofs.Ytcdkooebhpfknaa.Rx
