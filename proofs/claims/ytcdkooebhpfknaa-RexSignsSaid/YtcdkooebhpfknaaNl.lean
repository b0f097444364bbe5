/- RexSigns' walk. -/
import Derived.Test.YtcdkooebhpfknaaNd
namespace Go.Proofs.Ytcdkooebhpfknaa.Rx
open Go.RowKit Go.BigFrame Go.Proofs.YtcdkooebhpfknaaW.PrintWords Go.Proofs.YtcdkooebhpfknaaW.PrintLast Go.Proofs.YtcdkooebhpfknaaW.PrintMore Go.Proofs.Ytcdkooebhpfknaa.PRx
set_option linter.unusedVariables false
set_option linter.unusedSimpArgs false

/-- Numbers that may be read. -/
def Ints (w : World) (A : Option Addr) (n : Nat) (zs : List Int) : Prop := n ≤ zs.length ∧ n ≤ 9223372036854775807 ∧ ∀ k, k < n → ∃ ad, A = some ad ∧ w.cell? (ad.add k) = some (.int .i64 (zs.getD k 0))
theorem Ints.below {w w' : World} {A : Option Addr} {n : Nat} {zs : List Int} (h : Ints w A n zs) (hb : Below w.heap.size w w') : Ints w' A n zs :=
  ⟨h.1, h.2.1, fun k hk => by
    obtain ⟨ad, e, hc⟩ := h.2.2 k hk
    exact ⟨ad, e, pw_cell_below hb hc⟩⟩
def kk (z : Int) : Int := (z % 1024) % 3
def sgc (z : Int) : Int := if kk z = 0 then 42 else if kk z = 1 then 43 else 63
def base_ : S26 := ⟨1, [⟨97, 97⟩], []⟩
def wantT (l : List Int) : S26 := l.foldl (fun t z => ⟨4 + kk z, [], [t]⟩) base_
theorem wantT_snoc (l : List Int) (z : Int) : wantT (l ++ [z]) = ⟨4 + kk z, [], [wantT l]⟩ := by unfold wantT; rw [List.foldl_append]; rfl
theorem kk_cases (z : Int) : kk z = 0 ∨ kk z = 1 ∨ kk z = 2 := by unfold kk; omega
theorem sgc_sign (z : Int) : sgc z = signT (4 + kk z) := by
  unfold sgc signT
  rcases kk_cases z with h | h | h <;> rw [h] <;> decide
theorem snocRec {P : List Int → Prop} (l : List Int) (nil : P []) (snoc : ∀ l z, P l → P (l ++ [z])) : P l := by
  have h : ∀ l : List Int, P l.reverse := by
    intro l
    induction l with
    | nil => exact nil
    | cons z l ih => rw [List.reverse_cons]; exact snoc _ _ ih
  have := h l.reverse
  rwa [List.reverse_reverse] at this
theorem want_tr (l : List Int) : Tr (wantT l) := by
  induction l using snocRec with
  | nil => exact Tr.set (canon_one (by decide))
  | snoc l z ih =>
    rw [wantT_snoc]
    exact Tr.sign (by rcases kk_cases z with h | h | h <;> rw [h] <;> decide) ih
theorem want_text (l : List Int) : pieceT (wantT l) = 97 :: l.map sgc := by
  induction l using snocRec with
  | nil =>
    show pieceT ⟨1, [⟨97, 97⟩], []⟩ = [97]
    unfold pieceT
    rw [if_neg (by decide), textR, if_pos rfl, set_one (by decide)]
    rfl
  | snoc l z ih =>
    have hk : 4 + kk z = 4 ∨ 4 + kk z = 5 ∨ 4 + kk z = 6 := by rcases kk_cases z with h | h | h <;> rw [h] <;> decide
    rw [wantT_snoc]
    have e : pieceT ⟨4 + kk z, [], [wantT l]⟩ = textR ⟨4 + kk z, [], [wantT l]⟩ := by
      show (if 4 + kk z = 3 ∨ 4 + kk z = 2 then _ else _) = _
      rw [if_neg (by omega)]
    rw [e, text_sign _ hk, ih, ← sgc_sign]
    simp
theorem want_whole (l : List Int) : textR ⟨2, [], [wantT l]⟩ = 97 :: l.map sgc := by
  rw [text_cat]
  simp [want_text]
/-- The wanted node stands in block g; its rows are other blocks. -/
def Want (W : World) (B g : Nat) (t : S26) : Prop := ∃ A1 n1 c1 A2 n2 c2, W.heap[g]? = some (.cells #[.int .i64 t.f0, .slice A1 n1 c1, .slice A2 n2 c2] 26 (0, 0)) ∧ Kd.R k37 37 W B (fun k => k ≠ g) (.slice A1 n1 c1) t.f1 ∧ Kd.R k26 26 W B (fun k => k ≠ g) (.slice A2 n2 c2) t.f2
theorem Want.below {W W' : World} {B g : Nat} {t : S26} (h : Want W B g t) (hb : Below W.heap.size W W') : Want W' B g t := by
  obtain ⟨A1, n1, c1, A2, n2, c2, h1, h2, h3⟩ := h
  exact ⟨A1, n1, c1, A2, n2, c2, blk_below h1 hb, Kd.R_below h2 hb, Kd.R_below h3 hb⟩
/-- A new sign around it. -/
theorem Want.next {W : World} {B g : Nat} {t : S26} {A1 : Option Addr} {n1 c1 : Nat} {A2 : Option Addr} {n2 c2 : Nat} (k : Int) (h1 : W.heap[g]? = some (.cells #[.int .i64 t.f0, .slice A1 n1 c1, .slice A2 n2 c2] 26 (0, 0))) (h2 : Kd.R k37 37 W B (fun k => k ≠ g) (.slice A1 n1 c1) t.f1) (h3 : Kd.R k26 26 W B (fun k => k ≠ g) (.slice A2 n2 c2) t.f2) (hB : B ≤ W.heap.size) :
    Want ((((W.alloc (.cells #[.int .i64 t.f0, .slice A1 n1 c1, .slice A2 n2 c2] 26)).setCell ⟨g, 0, none⟩ (.int .i64 k)).setCell ⟨g, 1, none⟩ (.slice none 0 0)).setCell ⟨g, 2, none⟩ (.slice (some ⟨W.heap.size, 0, none⟩) 1 1)) B g ⟨k, [], [t]⟩ := by
  have hlt := blk_lt h1
  have hb := (Below.refl W.heap.size W).alloc (Nat.le_refl _) (.cells #[.int .i64 t.f0, .slice A1 n1 c1, .slice A2 n2 c2] 26)
  have hM : k26.M (W.alloc (.cells #[.int .i64 t.f0, .slice A1 n1 c1, .slice A2 n2 c2] 26)) B (fun k => k ≠ g ∧ some k ≠ (Value.slice (some ⟨W.heap.size, 0, none⟩) 1 1).ownBlock) t [.int .i64 t.f0, .slice A1 n1 c1, .slice A2 n2 c2] :=
    k26_mkM _ _ _ t (Kd.R_mono (Kd.R_below (Kd.R_bound h2) hb) (fun k hk => ⟨hk.1, fun e => by have := hk.2.2.1; have : k = W.heap.size := Option.some.inj e; omega⟩)) (Kd.R_mono (Kd.R_below (Kd.R_bound h3) hb) (fun k hk => ⟨hk.1, fun e => by have := hk.2.2.1; have : k = W.heap.size := Option.some.inj e; omega⟩))
  have hr : Kd.R k26 26 (W.alloc (.cells #[.int .i64 t.f0, .slice A1 n1 c1, .slice A2 n2 c2] 26)) B (fun k => k ≠ g) (.slice (some ⟨W.heap.size, 0, none⟩) 1 1) [t] := by
    refine ⟨fun k hk => by have : W.heap.size = k := Option.some.inj hk; omega, ?_⟩
    exact OwnRow.lit (ps := [t]) (inner := [.int .i64 t.f0, .slice A1 n1 c1, .slice A2 n2 c2]) W B ⟨rfl, fun j p hj => by
      cases j with
      | zero =>
        obtain rfl : t = p := by simpa using hj
        exact hM
      | succ j => simp at hj⟩ hB (by simp)
  refine ⟨none, 0, 0, _, 1, 1, store3 (blk_alloc h1 _) _ _ _, Kd.R_nil _ _ _ _ _, ?_⟩
  exact Kd.R_far (p := ⟨g, 2, none⟩) (Kd.R_far (p := ⟨g, 1, none⟩) (Kd.R_far (p := ⟨g, 0, none⟩) hr (fun _ h => h) _) (fun _ h => h) _) (fun _ h => h) _
theorem Want.tc {W : World} {B g : Nat} {t : S26} {A1 : Option Addr} {n1 c1 : Nat} {A2 : Option Addr} {n2 c2 : Nat} (h2 : Kd.R k37 37 W B (fun k => k ≠ g) (.slice A1 n1 c1) t.f1) (h3 : Kd.R k26 26 W B (fun k => k ≠ g) (.slice A2 n2 c2) t.f2) : TC W (.agg #[.int .i64 t.f0, .slice A1 n1 c1, .slice A2 n2 c2]) t := by
  obtain ⟨rfl, l1, g1⟩ := Kd.R_reads' h2
  obtain ⟨rfl, l2, g2⟩ := Kd.R_reads' h3
  exact ⟨A1, c1, A2, c2, rfl, l1, g1, l2, g2⟩
theorem keep_far_g {w W : World} {g : Nat} (h : Kpt w W) (hg : w.heap.size ≤ g := by simp) {u0 u1 u2 : Value} : Kpt w (((W.setCell ⟨g, 0, none⟩ u0).setCell ⟨g, 1, none⟩ u1).setCell ⟨g, 2, none⟩ u2) :=
  Kpt.setCell (Kpt.setCell (Kpt.setCell h (p := ⟨g, 0, none⟩) hg u0) (p := ⟨g, 1, none⟩) hg u1) (p := ⟨g, 2, none⟩) hg u2
theorem takes {zs : List Int} {k : Nat} (h : k < zs.length) : zs.take (k + 1) = zs.take k ++ [zs.getD k 0] := by
  rw [List.take_succ_eq_append_getElem h, List.getD_eq_getElem?_getD, List.getElem?_eq_getElem h]
  rfl
set_option maxHeartbeats 2000000 in
set_option maxRecDepth 100000 in
theorem signs_walk (A : Option Addr) (n c : Nat) (zs : List Int) (w : World) (hZ : Ints w A n zs) (hw : ∀ z, z ∈ zs → -9223372036854775808 ≤ z ∧ z ≤ 9223372036854775807) : Calls Try.prog 7 #[.slice A n c] w (Told w true) := by
  have HZ := Lib.hid hZ
  have HZW := Lib.hid hw
  have hn9 : (n : Int) ≤ 9223372036854775807 := by have := hZ.2.1; omega
  clear hZ hw
  go_enter Try.func7, Try.ntmps7
  go_upto_block 0 with (first
    | (go_at_call 8; refine (parsing_any _).mono ?_; rintro e w1 ⟨rfl, hk⟩; have HK1 := Lib.hid hk; clear hk)
    | (go_at_call 11; refine (telling_any _).mono ?_; rintro e w2 ⟨rfl, hk⟩; (have HK2 := Lib.hid hk); clear hk))
  have hg4 : Want ((w2.alloc (.cells #[.int .u8 97, .int .u8 97] 37)).alloc (.cells #[.int .i64 1, .slice (some ⟨w2.heap.size, 0, none⟩) 1 1, .slice none 0 0] 26)) w2.heap.size (w2.heap.size + 1) base_ := by
    have h := C_one w2 97 97
    have hr : Kd.R k37 37 (w2.alloc (.cells #[.int .u8 97, .int .u8 97] 37)) w2.heap.size (fun k => k ≠ w2.heap.size + 1) (.slice (some ⟨w2.heap.size, 0, none⟩) 1 1) [⟨97, 97⟩] := by
      refine ⟨fun k hk => by have : w2.heap.size = k := Option.some.inj hk; omega, ?_⟩
      exact OwnRow.lit (ps := [(⟨97, 97⟩ : S37)]) (inner := [.int .u8 97, .int .u8 97]) w2 w2.heap.size ⟨rfl, fun j p hj => by
        cases j with
        | zero =>
          obtain rfl : (⟨97, 97⟩ : S37) = p := by simpa using hj
          exact k37_mkM _ _ _ ⟨97, 97⟩
        | succ j => simp at hj⟩ (Nat.le_refl _) (by simp)
    have hnode := blk_new (w2.alloc (.cells #[.int .u8 97, .int .u8 97] 37)) (.cells #[.int .i64 1, .slice (some ⟨w2.heap.size, 0, none⟩) 1 1, .slice none 0 0] 26)
    rw [al_size] at hnode
    exact ⟨_, _, _, _, _, _, hnode, Kd.R_alloc hr _, Kd.R_nil _ _ _ _ _⟩
  have HG := Lib.hid hg4
  have HK0 : Hid (Kpt w2 ((w2.alloc (.cells #[.int .u8 97, .int .u8 97] 37)).alloc (.cells #[.int .i64 1, .slice (some ⟨w2.heap.size, 0, none⟩) 1 1, .slice none 0 0] 26))) := Lib.hid (((Kpt.refl w2).alloc _).alloc _)
  have HKW : Hid (Kpt w w2) := Lib.hid (HK1.out.trans HK2.out)
  have HZ2 : Hid (Ints w2 A n zs) := Lib.hid (HZ.out.below HKW.out)
  clear hg4 HZ HK1 HK2
  go_cut [3] (fun s3 wc => ∃ K : Nat, K ≤ 200 ∧ K ≤ zs.length ∧ s3 = .string (strOfNums (97 :: (zs.take K).map sgc)) ∧ Hid (Want wc w2.heap.size (w2.heap.size + 1) (wantT (zs.take K))) ∧ Hid (Kpt w2 wc))
  case first =>
    go_wp2_with fail
    go_loopg [3, 21] 201 (fun kq v3 v21 wr => ∃ k : Nat, v21 = .int .i64 (k : Int) ∧ v3 = .string (strOfNums (97 :: (zs.take k).map sgc)) ∧ k ≤ 200 ∧ k ≤ n ∧ Hid (Want wr w2.heap.size (w2.heap.size + 1) (wantT (zs.take k))) ∧ Hid (Kpt w2 wr) ∧ Hid (200 - k < kq))
    case atStart => exact ⟨0, rfl, rfl, by omega, by omega, HG, HK0, Lib.hid (by omega)⟩
    case round =>
      obtain ⟨k, rfl, rfl, hk, hkn, HW, HK, HQ⟩ := hrel
      obtain ⟨str, hstr⟩ : ∃ str, str = strOfNums (97 :: (zs.take k).map sgc) := ⟨_, rfl⟩
      have hsz : (str.size : Int) ≤ 1000 := by rw [hstr, strOfNums_size]; simp only [List.length_cons, List.length_map, List.length_take]; omega
      rw [← hstr]
      have HSTR := Lib.hid hstr
      have hzl := HZ2.out.1
      clear hstr
      by_cases hlt : k < n
      · obtain ⟨ad, rfl, hc⟩ := (HZ2.out.below HK.out).2.2 k hlt
        by_cases h200 : 200 ≤ k
        · have g1 : decide ((k : Int) ≥ 200) = true := by simp; omega
          have g2 : decide ((200 : Int) ≤ (k : Int)) = true := by simp; omega
          have hkk : (k : Int) < (n : Int) := by omega
          have HL : Hid (k ≤ zs.length) := Lib.hid (by omega)
          have HK2 : Hid (k ≤ 200) := Lib.hid hk
          clear hzl h200
          go_wp2_with fail
          go_meet
          exact ⟨k, HK2.out, HL.out, by rw [HSTR.out], HW, HK⟩
        · have g1 : decide ((k : Int) ≥ 200) = false := by simp; omega
          have g2 : decide ((200 : Int) ≤ (k : Int)) = false := by simp; omega
          have HNE : Hid (k < 200 ∧ k < n) := Lib.hid ⟨by omega, hlt⟩
          have htk := takes (zs := zs) (k := k) (by omega)
          obtain ⟨z, hzq⟩ : ∃ z, zs.getD k 0 = z := ⟨_, rfl⟩
          rw [hzq] at hc htk
          have HTK := Lib.hid htk
          clear hzq htk
          have hkm : (bits BinOp.and IntKind.i64 z 1023).tmod 3 = kk z := by rw [andK, Int.tmod_eq_emod_of_nonneg (by omega)]; rfl
          have hkk : (k : Int) < (n : Int) := by omega
          obtain ⟨B1, m1, d1, B2, m2, d2, y4, r1, r2⟩ := HW.out
          have HR1 := Lib.hid r1
          have HR2 := Lib.hid r2
          obtain ⟨f0, f1, f2⟩ := load3b (blk_alloc y4 (.cells #[.string ⟨#[42]⟩, .string ⟨#[43]⟩, .string ⟨#[63]⟩] 9))
          obtain ⟨g5, g6, g7⟩ : ((wr.alloc (.cells #[.string ⟨#[42]⟩, .string ⟨#[43]⟩, .string ⟨#[63]⟩] 9)).frozen? ⟨w2.heap.size + 1, 0, none⟩ = false) ∧ ((wr.alloc (.cells #[.string ⟨#[42]⟩, .string ⟨#[43]⟩, .string ⟨#[63]⟩] 9)).frozen? ⟨w2.heap.size + 1, 1, none⟩ = false) ∧ ((wr.alloc (.cells #[.string ⟨#[42]⟩, .string ⟨#[43]⟩, .string ⟨#[63]⟩] 9)).frozen? ⟨w2.heap.size + 1, 2, none⟩ = false) := ⟨blk_frozen (blk_alloc y4 _) 0, blk_frozen (blk_alloc y4 _) 1, blk_frozen (blk_alloc y4 _) 2⟩
          have hl4 := blk_lt y4
          have y5 := blk_alloc (blk_alloc y4 (.cells #[.string ⟨#[42]⟩, .string ⟨#[43]⟩, .string ⟨#[63]⟩] 9)) (.cells #[.int .i64 (wantT (zs.take k)).f0, .slice B1 m1 d1, .slice B2 m2 d2] 26)
          obtain ⟨e0, e1, e2⟩ := load3b y5
          have e3 := blk_frozen y5 0
          have e4 := blk_frozen y5 1
          have e5 := blk_frozen y5 2
          clear y5
          clear r1 r2 h200 hzl hk hkn
          rcases kk_cases z with hz | hz | hz
          · as_aux_lemma =>
            have hj : (bits BinOp.and IntKind.i64 z 1023).tmod 3 = 0 := hkm.trans hz
            have HT : Hid (wantT (zs.take (k + 1)) = ⟨4, [], [wantT (zs.take k)]⟩) := Lib.hid (by rw [HTK.out, wantT_snoc, hz]; rfl)
            have HP : Hid (str ++ ⟨#[42]⟩ = strOfNums (97 :: (zs.take (k + 1)).map sgc)) := Lib.hid (by
              have e : sgc z = 42 := by unfold sgc; rw [hz]; decide
              rw [HTK.out, List.map_append, HSTR.out, show (97 :: ((zs.take k).map sgc ++ [z].map sgc) : List Int) = (97 :: (zs.take k).map sgc) ++ [42] by rw [← e]; rfl, strs_app]; rfl)
            clear hz hkm
            go_wp2_with fail
            have HW9 := Lib.hid (Want.next (t := wantT (zs.take k)) 4 (blk_alloc y4 (.cells #[.string ⟨#[42]⟩, .string ⟨#[43]⟩, .string ⟨#[63]⟩] 9)) (Kd.R_alloc HR1.out (.cells #[.string ⟨#[42]⟩, .string ⟨#[43]⟩, .string ⟨#[63]⟩] 9)) (Kd.R_alloc HR2.out (.cells #[.string ⟨#[42]⟩, .string ⟨#[43]⟩, .string ⟨#[63]⟩] 9)) (by have := HK.out.size; rw [al_size]; omega))
            go_roundg (200 - k)
            case measure => have := HQ.out; have := HNE.out; omega
            case rel => exact ⟨k + 1, by go_num, by rw [HP.out], by have := HNE.out; omega, by have := HNE.out; omega, Lib.hid (by rw [HT.out]; simpa [al_size] using HW9.out), Lib.hid (keep_far_g ((HK.out.alloc (.cells #[.string ⟨#[42]⟩, .string ⟨#[43]⟩, .string ⟨#[63]⟩] 9)).alloc _)), Lib.hid (by have := HNE.out; omega)⟩
          · as_aux_lemma =>
            have hj : (bits BinOp.and IntKind.i64 z 1023).tmod 3 = 1 := hkm.trans hz
            have HT : Hid (wantT (zs.take (k + 1)) = ⟨5, [], [wantT (zs.take k)]⟩) := Lib.hid (by rw [HTK.out, wantT_snoc, hz]; rfl)
            have HP : Hid (str ++ ⟨#[43]⟩ = strOfNums (97 :: (zs.take (k + 1)).map sgc)) := Lib.hid (by
              have e : sgc z = 43 := by unfold sgc; rw [hz]; decide
              rw [HTK.out, List.map_append, HSTR.out, show (97 :: ((zs.take k).map sgc ++ [z].map sgc) : List Int) = (97 :: (zs.take k).map sgc) ++ [43] by rw [← e]; rfl, strs_app]; rfl)
            clear hz hkm
            go_wp2_with fail
            have HW9 := Lib.hid (Want.next (t := wantT (zs.take k)) 5 (blk_alloc y4 (.cells #[.string ⟨#[42]⟩, .string ⟨#[43]⟩, .string ⟨#[63]⟩] 9)) (Kd.R_alloc HR1.out (.cells #[.string ⟨#[42]⟩, .string ⟨#[43]⟩, .string ⟨#[63]⟩] 9)) (Kd.R_alloc HR2.out (.cells #[.string ⟨#[42]⟩, .string ⟨#[43]⟩, .string ⟨#[63]⟩] 9)) (by have := HK.out.size; rw [al_size]; omega))
            go_roundg (200 - k)
            case measure => have := HQ.out; have := HNE.out; omega
            case rel => exact ⟨k + 1, by go_num, by rw [HP.out], by have := HNE.out; omega, by have := HNE.out; omega, Lib.hid (by rw [HT.out]; simpa [al_size] using HW9.out), Lib.hid (keep_far_g ((HK.out.alloc (.cells #[.string ⟨#[42]⟩, .string ⟨#[43]⟩, .string ⟨#[63]⟩] 9)).alloc _)), Lib.hid (by have := HNE.out; omega)⟩
          · as_aux_lemma =>
            have hj : (bits BinOp.and IntKind.i64 z 1023).tmod 3 = 2 := hkm.trans hz
            have HT : Hid (wantT (zs.take (k + 1)) = ⟨6, [], [wantT (zs.take k)]⟩) := Lib.hid (by rw [HTK.out, wantT_snoc, hz]; rfl)
            have HP : Hid (str ++ ⟨#[63]⟩ = strOfNums (97 :: (zs.take (k + 1)).map sgc)) := Lib.hid (by
              have e : sgc z = 63 := by unfold sgc; rw [hz]; decide
              rw [HTK.out, List.map_append, HSTR.out, show (97 :: ((zs.take k).map sgc ++ [z].map sgc) : List Int) = (97 :: (zs.take k).map sgc) ++ [63] by rw [← e]; rfl, strs_app]; rfl)
            clear hz hkm
            go_wp2_with fail
            have HW9 := Lib.hid (Want.next (t := wantT (zs.take k)) 6 (blk_alloc y4 (.cells #[.string ⟨#[42]⟩, .string ⟨#[43]⟩, .string ⟨#[63]⟩] 9)) (Kd.R_alloc HR1.out (.cells #[.string ⟨#[42]⟩, .string ⟨#[43]⟩, .string ⟨#[63]⟩] 9)) (Kd.R_alloc HR2.out (.cells #[.string ⟨#[42]⟩, .string ⟨#[43]⟩, .string ⟨#[63]⟩] 9)) (by have := HK.out.size; rw [al_size]; omega))
            go_roundg (200 - k)
            case measure => have := HQ.out; have := HNE.out; omega
            case rel => exact ⟨k + 1, by go_num, by rw [HP.out], by have := HNE.out; omega, by have := HNE.out; omega, Lib.hid (by rw [HT.out]; simpa [al_size] using HW9.out), Lib.hid (keep_far_g ((HK.out.alloc (.cells #[.string ⟨#[42]⟩, .string ⟨#[43]⟩, .string ⟨#[63]⟩] 9)).alloc _)), Lib.hid (by have := HNE.out; omega)⟩
      · obtain rfl : k = n := by omega
        have HL : Hid (k ≤ zs.length) := Lib.hid hzl
        clear hlt hzl
        go_wp2_with fail
        go_meet
        exact ⟨k, hk, HL.out, by rw [HSTR.out], HW, HK⟩
  case rest =>
    obtain ⟨K, hK, hKz, rfl, HW, HKC⟩ := hcut
    rename_i wc
    obtain ⟨l, hl⟩ : ∃ l, l = zs.take K := ⟨_, rfl⟩
    have hll : l.length ≤ 200 := by rw [hl, List.length_take]; omega
    rw [← hl] at HW ⊢
    have hT2 : Tr ⟨2, [], [wantT l]⟩ := Tr.cat (fun x hx => by obtain rfl := List.mem_singleton.mp hx; exact want_tr l)
    obtain ⟨str, hstr⟩ : ∃ str, str = strOfNums (97 :: l.map sgc) := ⟨_, rfl⟩
    have hsz : str.size ≤ 201 := by rw [hstr, strOfNums_size]; simp only [List.length_cons, List.length_map]; omega
    have hbt : bI str = textR ⟨2, [], [wantT l]⟩ := by
      rw [hstr, want_whole]
      refine bI_strs (fun x hx => ?_)
      rcases List.mem_cons.mp hx with rfl | hx
      · decide
      · obtain ⟨z, _, rfl⟩ := List.mem_map.mp hx
        unfold sgc
        repeat' split
        all_goals decide
    have hrt := (round_trip _ _ (Nat.le_refl _) hT2).2.2.2 (.inl rfl) [] (.inl rfl)
    rw [List.append_nil, ← hbt] at hrt
    have HP : Hid (∀ w, Calls Try.prog 9 #[.string str] w (PRes w (⟨2, [], [wantT l]⟩, 0, 0))) := Lib.hid fun w => parse_ok (by omega) hrt
    have HT : Hid (∀ (w : World) (v : Value), TC w v ⟨2, [], [wantT l]⟩ → Calls Try.prog 12 #[v] w fun e w' => e = .returned (.string str) ∧ Kpt w w') := Lib.hid fun w v h => by
      have := text_any hT2 (by rw [want_whole]; simp only [List.length_cons, List.length_map]; omega) w v h
      unfold Says at this
      rwa [want_whole, ← hstr] at this
    rw [← hstr]
    obtain ⟨t, ht⟩ : ∃ t, t = wantT l := ⟨_, rfl⟩
    rw [← ht] at HP HT HW
    have hs' : (str.size : Int) ≤ 201 := by omega
    have ge : (str.toList == str.toList) = true := by simp
    obtain ⟨B1, m1, d1, B2, m2, d2, y4, r1, r2⟩ := HW.out
    have HTW : Hid (TC wc (.agg #[.int .i64 t.f0, .slice B1 m1 d1, .slice B2 m2 d2]) t) := Lib.hid (Want.tc r1 r2)
    have Y4 := Lib.hid y4
    have HKC2 : Hid (Kpt w wc) := Lib.hid (HKW.out.trans HKC.out)
    clear hK hKz hl hll hT2 hstr hsz hbt hrt ht y4 r1 r2 HW HG HK0 HZ2 HZW HKW HKC
    go_upto_region 14 with (first
      | (go_at_call 9; (with_reducible refine (HP.out _).mono ?_); rintro e w8 ⟨v, rfl, htr, hk⟩; (obtain ⟨A3, n3, c3, A4, n4, c4, rfl, hr1, hr2⟩ := htr); have HTC := Lib.hid (Tree.tc ⟨A3, n3, c3, A4, n4, c4, rfl, hr1, hr2⟩); (obtain ⟨b8, B3, m3, d3, B4, m4, d4, rfl, rfl, q0, q1, q2, r1, r2⟩ := first_of hr2); have Q3 := Lib.hid q0; have Q4 := Lib.hid q1; have Q5 := Lib.hid q2; have TK2 := Lib.hid (Tree.tc ⟨B3, m3, d3, B4, m4, d4, rfl, r1, r2⟩); have HK8 := Lib.hid hk; clear hr1 hr2 hk q0 q1 q2 r1 r2))
    have kB : Kpt w8 (w8.alloc (.cells #[.int .i64 2, .slice A3 n3 c3, .slice (some ⟨b8, 0, none⟩) 1 c4] 26)) := (Kpt.refl w8).alloc (.cells #[.int .i64 2, .slice A3 n3 c3, .slice (some ⟨b8, 0, none⟩) 1 c4] 26)
    have n4_ : (w8.alloc (.cells #[.int .i64 2, .slice A3 n3 c3, .slice (some ⟨b8, 0, none⟩) 1 c4] 26)).heap[w2.heap.size + 1]? = some (.cells #[.int .i64 t.f0, .slice B1 m1 d1, .slice B2 m2 d2] 26 (0, 0)) := blk_alloc (HK8.out.blk Y4.out) (.cells #[.int .i64 2, .slice A3 n3 c3, .slice (some ⟨b8, 0, none⟩) 1 c4] 26)
    have n7_ : (w8.alloc (.cells #[.int .i64 2, .slice A3 n3 c3, .slice (some ⟨b8, 0, none⟩) 1 c4] 26)).heap[w8.heap.size]? = some (.cells #[.int .i64 2, .slice A3 n3 c3, .slice (some ⟨b8, 0, none⟩) 1 c4] 26 (0, 0)) := blk_new w8 (.cells #[.int .i64 2, .slice A3 n3 c3, .slice (some ⟨b8, 0, none⟩) 1 c4] 26)
    have t1 := (HTW.out.below (HK8.out.alloc (.cells #[.int .i64 2, .slice A3 n3 c3, .slice (some ⟨b8, 0, none⟩) 1 c4] 26)))
    have t2 := (TK2.out.below kB)
    have t3 : TC (w8.alloc (.cells #[.int .i64 2, .slice A3 n3 c3, .slice (some ⟨b8, 0, none⟩) 1 c4] 26)) (.agg #[.int .i64 2, .slice A3 n3 c3, .slice (some ⟨b8, 0, none⟩) 1 c4]) ⟨2, [], [t]⟩ := HTC.out.below kB
    have q3 := pw_cell_below kB Q3.out
    have q4 := pw_cell_below kB Q4.out
    have q5 := pw_cell_below kB Q5.out
    have HKF : Hid (Kpt w (w8.alloc (.cells #[.int .i64 2, .slice A3 n3 c3, .slice (some ⟨b8, 0, none⟩) 1 c4] 26))) := Lib.hid ((HKC2.out.trans HK8.out).alloc (.cells #[.int .i64 2, .slice A3 n3 c3, .slice (some ⟨b8, 0, none⟩) 1 c4] 26))
    clear kB
    generalize w8.alloc (.cells #[.int .i64 2, .slice A3 n3 c3, .slice (some ⟨b8, 0, none⟩) 1 c4] 26) = W at *
    have HSW : Hid (∀ x : BW W, Calls Try.prog 10 #[.agg #[.int .i64 t.f0, .slice B3 m3 d3, .slice B4 m4 d4], .agg #[.int .i64 t.f0, .slice B1 m1 d1, .slice B2 m2 d2]] x.w1 fun e w' => e = .returned (.bool true) ∧ Below x.w1.heap.size x.w1 w') := Lib.hid fun x => same_any (t2.below x.hb) (t1.below x.hb)
    have HTT : Hid (∀ x : BW W, Calls Try.prog 12 #[.agg #[.int .i64 2, .slice A3 n3 c3, .slice (some ⟨b8, 0, none⟩) 1 c4]] x.w1 fun e w' => e = .returned (.string str) ∧ Below x.w1.heap.size x.w1 w') := Lib.hid fun x => HT.out _ _ (t3.below x.hb)
    have y40 : ∀ x : BW W, x.w1.cell? ⟨w2.heap.size + 1, 0, none⟩ = some (.int .i64 t.f0) := fun x => blk_cell (blk_below n4_ x.hb) 0
    have y41 : ∀ x : BW W, x.w1.cell? ⟨w2.heap.size + 1, 1, none⟩ = some (.slice B1 m1 d1) := fun x => blk_cell (blk_below n4_ x.hb) 1
    have y42 : ∀ x : BW W, x.w1.cell? ⟨w2.heap.size + 1, 2, none⟩ = some (.slice B2 m2 d2) := fun x => blk_cell (blk_below n4_ x.hb) 2
    have y70 : ∀ x : BW W, x.w1.cell? ⟨w8.heap.size, 0, none⟩ = some (.int .i64 2) := fun x => blk_cell (blk_below n7_ x.hb) 0
    have y71 : ∀ x : BW W, x.w1.cell? ⟨w8.heap.size, 1, none⟩ = some (.slice A3 n3 c3) := fun x => blk_cell (blk_below n7_ x.hb) 1
    have y72 : ∀ x : BW W, x.w1.cell? ⟨w8.heap.size, 2, none⟩ = some (.slice (some ⟨b8, 0, none⟩) 1 c4) := fun x => blk_cell (blk_below n7_ x.hb) 2
    have z3 : ∀ x : BW W, x.w1.cell? ⟨b8, 0, none⟩ = some (.int .i64 t.f0) := fun x => pw_cell_below x.hb q3
    have z4 : ∀ x : BW W, x.w1.cell? ⟨b8, 1, none⟩ = some (.slice B3 m3 d3) := fun x => pw_cell_below x.hb q4
    have z5 : ∀ x : BW W, x.w1.cell? ⟨b8, 2, none⟩ = some (.slice B4 m4 d4) := fun x => pw_cell_below x.hb q5
    clear n4_ n7_ t1 t2 t3 q3 q4 q5 HT HP HK8 TK2 Q3 Q4 Q5 HTC HTW Y4 HKC2
    refine wp_region_quiet_bw (by kernel_rfl) (by kernel_rfl) ?_
    repeat (go_big_quiet_step (first | (go_at_call 10; exact (HSW.out _).mono (fun e' w3 h => ⟨h.1, BW.next h.2⟩)) | (go_at_call 12; exact (HTT.out _).mono (fun e' w3 h => ⟨h.1, BW.next h.2⟩))))
    refine wpQuiet_nil ?_
    rintro _ ⟨nq, rfl⟩
    go_wp2
    go_ret
    exact ⟨rfl, HKF.out.trans nq.hb⟩
end Go.Proofs.Ytcdkooebhpfknaa.Rx
