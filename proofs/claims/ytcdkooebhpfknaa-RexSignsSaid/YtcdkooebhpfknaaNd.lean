/- RexBytes' walk. -/
import Derived.Test.YtcdkooebhpfknaaMm
import Derived.BigQuiet
import Derived.OpenShut
namespace Go.Proofs.Ytcdkooebhpfknaa.Rx
open Go.RowKit Go.BigFrame Go.Proofs.YtcdkooebhpfknaaW.PrintWords Go.Proofs.YtcdkooebhpfknaaW.PrintLast Go.Proofs.YtcdkooebhpfknaaW.PrintMore Go.Proofs.Ytcdkooebhpfknaa.PRx
set_option linter.unusedVariables false
set_option linter.unusedSimpArgs false

/-- A world in which nothing below w's size has changed. -/
structure BW (w : World) where
  w1 : World
  hb : Below w.heap.size w w1
instance (w : World) : Nonempty (BW w) := ⟨⟨w, Below.refl _ _⟩⟩
theorem BW.next {w : World} {c : BW w} {w2 : World} (h : Below c.w1.heap.size c.w1 w2) : ∃ d : BW w, w2 = d.w1 := ⟨⟨w2, c.hb.trans (h.mono c.hb.size)⟩, rfl⟩
theorem wp_region_quiet_bw {P : Program} {id : Nat} {Q : Exit → Act → World → Prop} {a : Act} {w : World} {l : List Oper} (hm : P.follows .mixedOrders = true) (hB : Region.lexB .any l.toArray = true)
    (h : wpQuiet P l.toArray (fun w' => ∃ c : BW w, w' = c.w1) (fun a' => ∀ w', (∃ c : BW w, w' = c.w1) → Q .normal a' w') l a) : (Code.region id l.toArray true).wp P Q a w :=
  wp_region_quiet (C := fun w' => ∃ c : BW w, w' = c.w1) hm hB ⟨⟨w.drew, (Below.refl _ _).drew⟩, rfl⟩ (by simpa using h)
theorem one_tc (W : World) (lo hi : Int) : TC ((W.alloc (.cells #[.int .u8 lo, .int .u8 hi] 37)).alloc (.cells #[.int .i64 1, .slice (some ⟨W.heap.size, 0, none⟩) 1 1, .slice none 0 0] 26)) (.agg #[.int .i64 1, .slice (some ⟨W.heap.size, 0, none⟩) 1 1, .slice none 0 0]) ⟨1, [⟨lo, hi⟩], []⟩ :=
  ⟨some ⟨W.heap.size, 0, none⟩, 1, none, 0, rfl, Nat.le_refl _, Kd.C_below (C_one W lo hi) ((Below.refl _ _).alloc (Nat.le_refl _) _), Nat.le_refl _, Kd.C_nil _ _⟩
/-- A set's text, alone, is read as the set. -/
theorem set_back {lo hi : Int} (h0 : 0 ≤ lo) (h1 : lo ≤ hi) (h2 : hi ≤ 255) : (∀ w, Calls Try.prog 9 #[.string (strOfNums (setT [⟨lo, hi⟩]))] w (PRes w (⟨2, [], [⟨1, [⟨lo, hi⟩], []⟩]⟩, 0, 0))) ∧
    (∀ (w : World) (v : Value), TC w v ⟨1, [⟨lo, hi⟩], []⟩ → Calls Try.prog 12 #[v] w fun e w' => e = .returned (.string (strOfNums (setT [⟨lo, hi⟩]))) ∧ Kpt w w') := by
  have hc : Canon [⟨lo, hi⟩] := canon_snoc canon_nil ⟨h0, h1, h2⟩ (fun x hx => by cases hx)
  have hT : Tr ⟨1, [⟨lo, hi⟩], []⟩ := Tr.set hc
  have hT2 : Tr ⟨2, [], [⟨1, [⟨lo, hi⟩], []⟩]⟩ := Tr.cat (fun x hx => by obtain rfl := List.mem_singleton.mp hx; exact hT)
  have e1 : textR ⟨1, [⟨lo, hi⟩], []⟩ = setT [⟨lo, hi⟩] := by rw [textR, if_pos rfl]
  have e2 : textR ⟨2, [], [⟨1, [⟨lo, hi⟩], []⟩]⟩ = setT [⟨lo, hi⟩] := by
    rw [text_cat]
    have e3 : pieceT ⟨1, [⟨lo, hi⟩], []⟩ = setT [⟨lo, hi⟩] := by
      unfold pieceT
      rw [if_neg (by show ¬ ((1 : Int) = 3 ∨ (1 : Int) = 2); decide), e1]
    simp [e3]
  have hl : (setT [⟨lo, hi⟩]).length ≤ 20 := by
    unfold setT
    rw [rg_same hc]
    unfold setTxt
    split
    · have := quote_len lo specials
      show (quoteR lo specials).length ≤ 20
      omega
    · split
      · simp
      · split
        · simp
        · rw [if_neg (by intro h; have : (rg true [(⟨lo, hi⟩ : S37)]).length < 1 := h.2; omega)]
          have := flat_le [(⟨lo, hi⟩ : S37)]
          simp only [List.length_cons, List.length_append, List.length_nil] at this ⊢
          omega
  refine ⟨fun w => ?_, fun w v h => ?_⟩
  · have hb : bI (strOfNums (setT [⟨lo, hi⟩])) = textR ⟨2, [], [⟨1, [⟨lo, hi⟩], []⟩]⟩ := by rw [e2]; exact bI_strs (setT_by hc)
    have hrt := (round_trip _ _ (Nat.le_refl _) hT2).2.2.2 (.inl rfl) [] (.inl rfl)
    rw [List.append_nil, ← hb] at hrt
    exact parse_ok (by rw [strOfNums_size]; omega) hrt
  · have := text_any hT (by rw [e1]; omega) w v h
    unfold Says at this
    rwa [e1] at this
set_option maxHeartbeats 4000000 in
set_option maxRecDepth 100000 in
theorem bytes_main (c d : Int) (s1 s2 : ByteArray) (w : World) (hc : 0 ≤ c ∧ c < 256) (hd : 0 ≤ d ∧ d < 256)
    (HT1 : Hid (∀ (w : World) (v : Value), TC w v ⟨1, [⟨c, c⟩], []⟩ → Calls Try.prog 12 #[v] w fun e w' => e = .returned (.string s1) ∧ Kpt w w'))
    (HP1 : Hid (∀ w, Calls Try.prog 9 #[.string s1] w (PRes w (⟨2, [], [⟨1, [⟨c, c⟩], []⟩]⟩, 0, 0))))
    (HT2 : Hid (∀ (w : World) (v : Value), TC w v ⟨1, [⟨min c d, max c d⟩], []⟩ → Calls Try.prog 12 #[v] w fun e w' => e = .returned (.string s2) ∧ Kpt w w'))
    (HP2 : Hid (∀ w, Calls Try.prog 9 #[.string s2] w (PRes w (⟨2, [], [⟨1, [⟨min c d, max c d⟩], []⟩]⟩, 0, 0)))) : Calls Try.prog 6 #[.int .u8 c, .int .u8 d] w (Told w true) := by
  go_enter Try.func6, Try.ntmps6
  go_upto_region 7 with (first
    | (go_at_call 8; refine (parsing_any _).mono ?_; rintro e w1 ⟨rfl, hk⟩; have HK1 := Lib.hid hk; clear hk)
    | (go_at_call 11; refine (telling_any _).mono ?_; rintro e w2 ⟨rfl, hk⟩; (have HK2 := Lib.hid hk); clear hk; (have HX1 : Hid (Calls Try.prog 12 #[.agg #[.int .i64 1, .slice (some ⟨w2.heap.size, 0, none⟩) 1 1, .slice none 0 0]] ((w2.alloc (.cells #[.int .u8 c, .int .u8 c] 37)).alloc (.cells #[.int .i64 1, .slice (some ⟨w2.heap.size, 0, none⟩) 1 1, .slice none 0 0] 26)) fun e w' => e = .returned (.string s1) ∧ Kpt ((w2.alloc (.cells #[.int .u8 c, .int .u8 c] 37)).alloc (.cells #[.int .i64 1, .slice (some ⟨w2.heap.size, 0, none⟩) 1 1, .slice none 0 0] 26)) w') := Lib.hid (HT1.out _ _ (one_tc w2 c c))); have tok1 : True := trivial)
    | (go_at_call 12; (have t_ := tok1); clear t_; (with_reducible refine HX1.out.mono ?_); rintro e w4 ⟨rfl, hk⟩; clear tok1; have HK4 := Lib.hid hk; clear hk; have tok2 : True := trivial)
    | (go_at_call 9; (have t_ := tok2); clear t_; (with_reducible refine (HP1.out _).mono ?_); rintro e w5 ⟨v, rfl, ht, hk⟩; clear tok2; (obtain ⟨A1, n1, c1, A2, n2, c2, rfl, hr1, hr2⟩ := ht); (obtain ⟨b5, B1, m1, d1, B2, m2, d2, rfl, rfl, q0, q1, q2, r1, r2⟩ := first_of hr2); have Q0 := Lib.hid q0; have Q1 := Lib.hid q1; have Q2 := Lib.hid q2; have TK := Lib.hid (Tree.tc ⟨B1, m1, d1, B2, m2, d2, rfl, r1, r2⟩); have HK5 := Lib.hid hk; clear hr1 hr2 hk q0 q1 q2 r1 r2; (have HX2 : Hid (Calls Try.prog 12 #[.agg #[.int .i64 1, .slice (some ⟨w5.heap.size + 1, 0, none⟩) 1 1, .slice none 0 0]] (((w5.alloc (.cells #[.int .i64 2, .slice A1 n1 c1, .slice (some ⟨b5, 0, none⟩) 1 c2] 26)).alloc (.cells #[.int .u8 (min c d), .int .u8 (max c d)] 37)).alloc (.cells #[.int .i64 1, .slice (some ⟨w5.heap.size + 1, 0, none⟩) 1 1, .slice none 0 0] 26)) fun e w' => e = .returned (.string s2) ∧ Kpt (((w5.alloc (.cells #[.int .i64 2, .slice A1 n1 c1, .slice (some ⟨b5, 0, none⟩) 1 c2] 26)).alloc (.cells #[.int .u8 (min c d), .int .u8 (max c d)] 37)).alloc (.cells #[.int .i64 1, .slice (some ⟨w5.heap.size + 1, 0, none⟩) 1 1, .slice none 0 0] 26)) w') := Lib.hid (by have := HT2.out _ _ (one_tc (w5.alloc (.cells #[.int .i64 2, .slice A1 n1 c1, .slice (some ⟨b5, 0, none⟩) 1 c2] 26)) (min c d) (max c d)); rw [al_size] at this; exact this)); have tok3 : True := trivial)
    | (go_at_call 12; (have t_ := tok3); clear t_; (with_reducible refine HX2.out.mono ?_); rintro e w7 ⟨rfl, hk⟩; clear tok3; have HK7 := Lib.hid hk; clear hk; have tok4 : True := trivial)
    | (go_at_call 9; (have t_ := tok4); clear t_; (with_reducible refine (HP2.out _).mono ?_); rintro e w8 ⟨v, rfl, ht, hk⟩; clear tok4; (obtain ⟨A3, n3, c3, A4, n4, c4, rfl, hr1, hr2⟩ := ht); (obtain ⟨b8, B3, m3, d3, B4, m4, d4, rfl, rfl, q0, q1, q2, r1, r2⟩ := first_of hr2); have Q3 := Lib.hid q0; have Q4 := Lib.hid q1; have Q5 := Lib.hid q2; have TK2 := Lib.hid (Tree.tc ⟨B3, m3, d3, B4, m4, d4, rfl, r1, r2⟩); have HK8 := Lib.hid hk; clear hr1 hr2 hk q0 q1 q2 r1 r2))
  have kA : Kpt w5 (w8.alloc (.cells #[.int .i64 2, .slice A3 n3 c3, .slice (some ⟨b8, 0, none⟩) 1 c4] 26)) := ((((((Kpt.refl w5).alloc (.cells #[.int .i64 2, .slice A1 n1 c1, .slice (some ⟨b5, 0, none⟩) 1 c2] 26)).alloc (.cells #[.int .u8 (min c d), .int .u8 (max c d)] 37)).alloc (.cells #[.int .i64 1, .slice (some ⟨w5.heap.size + 1, 0, none⟩) 1 1, .slice none 0 0] 26)).trans HK7.out).trans HK8.out).alloc (.cells #[.int .i64 2, .slice A3 n3 c3, .slice (some ⟨b8, 0, none⟩) 1 c4] 26)
  have kB : Kpt w8 (w8.alloc (.cells #[.int .i64 2, .slice A3 n3 c3, .slice (some ⟨b8, 0, none⟩) 1 c4] 26)) := (Kpt.refl w8).alloc (.cells #[.int .i64 2, .slice A3 n3 c3, .slice (some ⟨b8, 0, none⟩) 1 c4] 26)
  have k3 : Kpt ((w2.alloc (.cells #[.int .u8 c, .int .u8 c] 37)).alloc (.cells #[.int .i64 1, .slice (some ⟨w2.heap.size, 0, none⟩) 1 1, .slice none 0 0] 26)) (w8.alloc (.cells #[.int .i64 2, .slice A3 n3 c3, .slice (some ⟨b8, 0, none⟩) 1 c4] 26)) := (HK4.out.trans HK5.out).trans kA
  have n5 : (w8.alloc (.cells #[.int .i64 2, .slice A3 n3 c3, .slice (some ⟨b8, 0, none⟩) 1 c4] 26)).heap[w2.heap.size + 1]? = some (.cells #[.int .i64 1, .slice (some ⟨w2.heap.size, 0, none⟩) 1 1, .slice none 0 0] 26 (0, 0)) := by
    have := blk_new (w2.alloc (.cells #[.int .u8 c, .int .u8 c] 37)) (.cells #[.int .i64 1, .slice (some ⟨w2.heap.size, 0, none⟩) 1 1, .slice none 0 0] 26)
    rw [al_size] at this
    exact k3.blk this
  have n6 : (w8.alloc (.cells #[.int .i64 2, .slice A3 n3 c3, .slice (some ⟨b8, 0, none⟩) 1 c4] 26)).heap[w5.heap.size]? = some (.cells #[.int .i64 2, .slice A1 n1 c1, .slice (some ⟨b5, 0, none⟩) 1 c2] 26 (0, 0)) := blk_alloc (HK8.out.blk (HK7.out.blk (blk_alloc (blk_alloc (blk_new w5 (.cells #[.int .i64 2, .slice A1 n1 c1, .slice (some ⟨b5, 0, none⟩) 1 c2] 26)) (.cells #[.int .u8 (min c d), .int .u8 (max c d)] 37)) (.cells #[.int .i64 1, .slice (some ⟨w5.heap.size + 1, 0, none⟩) 1 1, .slice none 0 0] 26)))) (.cells #[.int .i64 2, .slice A3 n3 c3, .slice (some ⟨b8, 0, none⟩) 1 c4] 26)
  have n9 : (w8.alloc (.cells #[.int .i64 2, .slice A3 n3 c3, .slice (some ⟨b8, 0, none⟩) 1 c4] 26)).heap[w5.heap.size + 1 + 1]? = some (.cells #[.int .i64 1, .slice (some ⟨w5.heap.size + 1, 0, none⟩) 1 1, .slice none 0 0] 26 (0, 0)) := by
    have := blk_new ((w5.alloc (.cells #[.int .i64 2, .slice A1 n1 c1, .slice (some ⟨b5, 0, none⟩) 1 c2] 26)).alloc (.cells #[.int .u8 (min c d), .int .u8 (max c d)] 37)) (.cells #[.int .i64 1, .slice (some ⟨w5.heap.size + 1, 0, none⟩) 1 1, .slice none 0 0] 26)
    rw [al_size, al_size] at this
    exact blk_alloc (HK8.out.blk (HK7.out.blk this)) (.cells #[.int .i64 2, .slice A3 n3 c3, .slice (some ⟨b8, 0, none⟩) 1 c4] 26)
  have n10 : (w8.alloc (.cells #[.int .i64 2, .slice A3 n3 c3, .slice (some ⟨b8, 0, none⟩) 1 c4] 26)).heap[w8.heap.size]? = some (.cells #[.int .i64 2, .slice A3 n3 c3, .slice (some ⟨b8, 0, none⟩) 1 c4] 26 (0, 0)) := blk_new w8 (.cells #[.int .i64 2, .slice A3 n3 c3, .slice (some ⟨b8, 0, none⟩) 1 c4] 26)
  have t1 := (TK.out.below kA)
  have t2 := (TK2.out.below kB)
  have t3 := (one_tc w2 c c).below k3
  have t4 : TC (w8.alloc (.cells #[.int .i64 2, .slice A3 n3 c3, .slice (some ⟨b8, 0, none⟩) 1 c4] 26)) (.agg #[.int .i64 1, .slice (some ⟨w5.heap.size + 1, 0, none⟩) 1 1, .slice none 0 0]) ⟨1, [⟨min c d, max c d⟩], []⟩ := by
    have h4 := one_tc (w5.alloc (.cells #[.int .i64 2, .slice A1 n1 c1, .slice (some ⟨b5, 0, none⟩) 1 c2] 26)) (min c d) (max c d)
    rw [al_size] at h4
    exact h4.below ((HK7.out.trans HK8.out).alloc (.cells #[.int .i64 2, .slice A3 n3 c3, .slice (some ⟨b8, 0, none⟩) 1 c4] 26))
  have q0 := pw_cell_below kA Q0.out
  have q1 := pw_cell_below kA Q1.out
  have q2 := pw_cell_below kA Q2.out
  have q3 := pw_cell_below kB Q3.out
  have q4 := pw_cell_below kB Q4.out
  have q5 := pw_cell_below kB Q5.out
  have HKW : Hid (Kpt w (w8.alloc (.cells #[.int .i64 2, .slice A3 n3 c3, .slice (some ⟨b8, 0, none⟩) 1 c4] 26))) := Lib.hid ((((HK1.out.trans HK2.out).alloc (.cells #[.int .u8 c, .int .u8 c] 37)).alloc (.cells #[.int .i64 1, .slice (some ⟨w2.heap.size, 0, none⟩) 1 1, .slice none 0 0] 26)).trans k3)
  clear kA kB k3
  generalize w8.alloc (.cells #[.int .i64 2, .slice A3 n3 c3, .slice (some ⟨b8, 0, none⟩) 1 c4] 26) = W at *
  have HSW : Hid (∀ (x : BW W) (v v' : Value), ((v = .agg #[.int .i64 1, .slice B1 m1 d1, .slice B2 m2 d2] ∧ v' = .agg #[.int .i64 1, .slice (some ⟨w2.heap.size, 0, none⟩) 1 1, .slice none 0 0]) ∨ (v = .agg #[.int .i64 1, .slice B3 m3 d3, .slice B4 m4 d4] ∧ v' = .agg #[.int .i64 1, .slice (some ⟨w5.heap.size + 1, 0, none⟩) 1 1, .slice none 0 0])) → Calls Try.prog 10 #[v, v'] x.w1 fun e w' => e = .returned (.bool true) ∧ Below x.w1.heap.size x.w1 w') := Lib.hid fun x v v' h => by
    rcases h with ⟨rfl, rfl⟩ | ⟨rfl, rfl⟩
    · exact same_any (t1.below x.hb) (t3.below x.hb)
    · exact same_any (t2.below x.hb) (t4.below x.hb)
  have y50 : ∀ x : BW W, x.w1.cell? ⟨w2.heap.size + 1, 0, none⟩ = some (.int .i64 1) := fun x => blk_cell (blk_below n5 x.hb) 0
  have y51 : ∀ x : BW W, x.w1.cell? ⟨w2.heap.size + 1, 1, none⟩ = some (.slice (some ⟨w2.heap.size, 0, none⟩) 1 1) := fun x => blk_cell (blk_below n5 x.hb) 1
  have y52 : ∀ x : BW W, x.w1.cell? ⟨w2.heap.size + 1, 2, none⟩ = some (.slice none 0 0) := fun x => blk_cell (blk_below n5 x.hb) 2
  have y62 : ∀ x : BW W, x.w1.cell? ⟨w5.heap.size, 2, none⟩ = some (.slice (some ⟨b5, 0, none⟩) 1 c2) := fun x => blk_cell (blk_below n6 x.hb) 2
  have y90 : ∀ x : BW W, x.w1.cell? ⟨w5.heap.size + 1 + 1, 0, none⟩ = some (.int .i64 1) := fun x => blk_cell (blk_below n9 x.hb) 0
  have y91 : ∀ x : BW W, x.w1.cell? ⟨w5.heap.size + 1 + 1, 1, none⟩ = some (.slice (some ⟨w5.heap.size + 1, 0, none⟩) 1 1) := fun x => blk_cell (blk_below n9 x.hb) 1
  have y92 : ∀ x : BW W, x.w1.cell? ⟨w5.heap.size + 1 + 1, 2, none⟩ = some (.slice none 0 0) := fun x => blk_cell (blk_below n9 x.hb) 2
  have y102 : ∀ x : BW W, x.w1.cell? ⟨w8.heap.size, 2, none⟩ = some (.slice (some ⟨b8, 0, none⟩) 1 c4) := fun x => blk_cell (blk_below n10 x.hb) 2
  have z0 : ∀ x : BW W, x.w1.cell? ⟨b5, 0, none⟩ = some (.int .i64 1) := fun x => pw_cell_below x.hb q0
  have z1 : ∀ x : BW W, x.w1.cell? ⟨b5, 1, none⟩ = some (.slice B1 m1 d1) := fun x => pw_cell_below x.hb q1
  have z2 : ∀ x : BW W, x.w1.cell? ⟨b5, 2, none⟩ = some (.slice B2 m2 d2) := fun x => pw_cell_below x.hb q2
  have z3 : ∀ x : BW W, x.w1.cell? ⟨b8, 0, none⟩ = some (.int .i64 1) := fun x => pw_cell_below x.hb q3
  have z4 : ∀ x : BW W, x.w1.cell? ⟨b8, 1, none⟩ = some (.slice B3 m3 d3) := fun x => pw_cell_below x.hb q4
  have z5 : ∀ x : BW W, x.w1.cell? ⟨b8, 2, none⟩ = some (.slice B4 m4 d4) := fun x => pw_cell_below x.hb q5
  clear n5 n6 n9 n10 t1 t2 t3 t4 q0 q1 q2 q3 q4 q5 HT1 HP1 HT2 HP2 HK1 HK2 HK4 HK5 HK7 HK8 TK TK2 Q0 Q1 Q2 Q3 Q4 Q5 HX1 HX2
  refine wp_region_quiet_bw (by kernel_rfl) (by kernel_rfl) ?_
  repeat (go_big_quiet_step ((go_at_call 10; exact (HSW.out _ _ _ (by first | exact .inl ⟨rfl, rfl⟩ | exact .inr ⟨rfl, rfl⟩)).mono (fun e' w3 h => ⟨h.1, BW.next h.2⟩))))
  refine wpQuiet_nil ?_
  rintro _ ⟨nq, rfl⟩
  go_wp2
  go_ret
  exact ⟨rfl, HKW.out.trans nq.hb⟩
theorem bytes_walk (c d : Int) (hc : (Lit.int IntKind.u8 c).wf = true) (hd : (Lit.int IntKind.u8 d).wf = true) (w : World) : Calls Try.prog 6 #[.int .u8 c, .int .u8 d] w (Told w true) := by
  have h1 := bounds_u8 hc
  have h2 := bounds_u8 hd
  have a := set_back (lo := c) (hi := c) (by omega) (Int.le_refl _) (by omega)
  have b := set_back (lo := min c d) (hi := max c d) (by omega) (by omega) (by omega)
  exact bytes_main c d _ _ w (by omega) (by omega) (Lib.hid a.2) (Lib.hid a.1) (Lib.hid b.2) (Lib.hid b.1)
end Go.Proofs.Ytcdkooebhpfknaa.Rx
