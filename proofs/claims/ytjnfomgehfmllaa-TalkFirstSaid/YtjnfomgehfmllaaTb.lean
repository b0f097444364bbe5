/- slices.Clone of bytes; the buffer of what a board has said. -/
import Derived.Test.YtjnfomgehfmllaaTa
import Derived.WalkSpells
namespace Go.Proofs.Ytjnfomgehfmllaa.Tk
set_option linter.unusedVariables false
set_option linter.unusedSimpArgs false
open Go.RowKit Go.Proofs.Ytjnfomgehfmllaa.Mem Go.Proofs.Ytjnfomgehfmllaa.By Go.Proofs.YtjnfomgehfmllaaW.PrintWords Go.Proofs.YtjnfomgehfmllaaW.PrintLast Go.Proofs.YtjnfomgehfmllaaW.PrintMore

def Rng (l : List Int) : Prop := ∀ x ∈ l, 0 ≤ x ∧ x < 256
theorem Rng.app {a b : List Int} (ha : Rng a) (hb : Rng b) : Rng (a ++ b) := fun x hx => by rcases List.mem_append.mp hx with h | h; exact ha x h; exact hb x h
theorem Rng.drop {a : List Int} (ha : Rng a) (n : Nat) : Rng (a.drop n) := fun x hx => ha x (List.mem_of_mem_drop hx)
theorem Rng.take {a : List Int} (ha : Rng a) (n : Nat) : Rng (a.take n) := fun x hx => ha x (List.mem_of_mem_take hx)
/-- A slice that reads as l, at whatever place. -/
def Rd (w : World) (v : Value) (l : List Int) : Prop := ∃ A c, v = .slice A l.length c ∧ l.length ≤ c ∧ (A = none → c = 0) ∧ ReadsInt w .u8 A l.length l
/-- A row of one's own that may begin inside its block. -/
abbrev QB (w : World) (N : Nat) (v : Value) (l : List Int) : Prop := QRow w N 5 1 v l.length (nums .u8 l)
/-- A new row. -/
abbrev Own (w : World) (B : Nat) (v : Value) (l : List Int) : Prop := w.ownsRow B 5 1 v l.length (nums .u8 l)
theorem nums_len (l : List Int) : (nums .u8 l).length = l.length := by simp [nums]
theorem nums_get {l : List Int} {j : Nat} (h : j < l.length) : (nums .u8 l)[j]? = some (.int .u8 (l.getD j 0)) := by
  simp [nums, List.getD_eq_getElem?_getD, List.getElem?_eq_getElem h]
theorem QB.rd {w : World} {N : Nat} {v : Value} {l : List Int} (h : QB w N v l) : Rd w v l := by
  obtain ⟨A, c, rfl, hc⟩ := q_slice h
  refine ⟨A, c, rfl, hc, fun hA => ?_, rfl, q_max h, fun hn => ?_⟩
  · subst hA
    rcases h.2 with ⟨_, A', hv, _⟩ | ⟨g, off, cap, cur, hv, _⟩
    · injection hv
    · injection hv with h1; cases h1
  obtain ⟨ad, rfl, hcell⟩ := q_cells h hn
  exact ⟨ad, rfl, fun j hj => hcell j _ (nums_get hj)⟩
theorem Own.qb {w : World} {B : Nat} {v : Value} {l : List Int} (h : Own w B v l) : QB w B v l := q_of_own h
theorem Own.rd {w : World} {B : Nat} {v : Value} {l : List Int} (h : Own w B v l) : Rd w v l := h.qb.rd
theorem Rd.below {w w' : World} {v : Value} {l : List Int} (h : Rd w v l) (hb : Below w.heap.size w w') : Rd w' v l := by
  obtain ⟨A, c, h1, h2, h4, h3⟩ := h
  exact ⟨A, c, h1, h2, h4, h3.below hb⟩
theorem Rd.buf {w : World} {v : Value} {l : List Int} (h : Rd w v l) (hr : Rng l) : BufAt w v (strOfNums l) := by
  obtain ⟨A, c, rfl, h2, h4, h3⟩ := h
  have hs : (strOfNums l).size = l.length := strOfNums_size l
  by_cases h0 : l.length = 0
  · have e : l = [] := List.eq_nil_of_length_eq_zero h0
    subst e
    cases A with
    | none => exact .inl ⟨by rw [h4 rfl]; rfl, rfl⟩
    | some a => exact .inr ⟨a, c, rfl, Nat.zero_le _, fun h => absurd h (by decide), fun i hi => absurd hi (by simp [strOfNums, ByteArray.size])⟩
  · obtain ⟨a, rfl, hc⟩ := h3.2.2 (by omega)
    have hsp : a.spot = none := by
      have h1 := hc 0 (by omega)
      obtain ⟨b, o, sp⟩ := a
      cases sp with
      | none => rfl
      | some y => simp [World.cell?, Addr.add] at h1; split at h1 <;> simp_all
    refine .inr ⟨a, c, by rw [hs], by omega, fun _ => hsp, fun i hi => ?_⟩
    rw [bI_str hr]
    exact hc i (by omega)
set_option maxHeartbeats 1000000 in
set_option maxRecDepth 100000 in
/-- slices.Clone of bytes. -/
theorem clone_any {w : World} {v : Value} {l : List Int} (h : Rd w v l) (hl : l.length ≤ 140737488355328) : Calls Try.prog 16 #[v] w fun e w' => ∃ v', e = .returned v' ∧ Own w' w.heap.size v' l ∧ Below w.heap.size w w' := by
  obtain ⟨A, c, rfl, hc, hA, hr⟩ := h
  have q22 : ∀ (w : World) (a : Option Addr) (n c n' c' : Nat), (binOp .eql 39 (.slice a n c) (.slice none n' c')).run Try.prog w = .ok (.bool a.isNone) w := fun w a n c n' c' => Lib.run_eql_slice_nil w _ _ a n c n' c' Try.underlying39
  cases A with
  | none =>
    have h0 : l = [] := by
      rcases Nat.eq_zero_or_pos l.length with h0 | h0
      · exact List.eq_nil_of_length_eq_zero h0
      · obtain ⟨a, e, _⟩ := hr.2.2 h0; cases e
    subst h0
    clear hr hc hA
    go_enter Try.func16, Try.ntmps16
    go_wp2
    go_ret
    exact ⟨_, rfl, ⟨rfl, .inl ⟨rfl, rfl⟩⟩, Below.refl _ _⟩
  | some a =>
    have HR := Lib.hid hr
    have HL := Lib.hid hl
    clear hr hc hl hA
    go_enter Try.func16, Try.ntmps16
    go_wp2_with (first
      | ((with_reducible refine gate_builtin (b := .append) (xs := #[.tmp 5, .tmp 6]) rfl ?_); at_builtin; go_loud (refine print_append_row (w0 := w) (W := w.alloc (.cells #[] 5)) w.heap.size rfl (.tmp 5) (.tmp 6) 39 5 .u8 1 rfl Try.underlying39 info5 (by decide) (.slice (some ⟨w.heap.size, 0, none⟩) 0 0) [] l (some a) l.length c rfl rfl (own_empty w (Nat.le_refl _)) (HR.out.below ((Below.refl _ _).alloc (Nat.le_refl _) _)) ((Below.refl _ _).alloc (Nat.le_refl _) _) (by simp) (by have := HL.out; simp; omega) ?_; intro v4 w4 ho4 hb4 _ _; (have HO4 := Lib.hid ho4; have HB4 := Lib.hid hb4; clear ho4 hb4))))
    go_ret
    exact ⟨_, rfl, by simpa using HO4.out, HB4.out⟩

/-- The buffer in memory. -/
theorem ownsRow_ge {w : World} {B n : Nat} {e : TypeId} {sz : Nat} {v : Value} {xs : List Value} (h : w.ownsRow B e sz v n xs) {k : Nat} (hk : v.ownBlock = some k) : B ≤ k := (q_typed (q_of_own h) k hk).1
structure Bu (w : World) (g N most : Nat) (bv : Value) (b : List Int) : Prop where
  blk : ∃ gone, Blk w g 62 #[.int .i64 most, bv, .int .i64 gone]
  row : QB w N bv b
  rng : Rng b
  fit : b.length ≤ most
  most_le : most ≤ 2000
  ge : N ≤ g
theorem Bu.blk0 {w : World} {g N most : Nat} {bv : Value} {b : List Int} (h : Bu w g N most bv b) : ∃ gone, w.cell? ⟨g, 0, none⟩ = some (.int .i64 most) ∧ w.cell? ⟨g, 1, none⟩ = some bv ∧ w.cell? ⟨g, 2, none⟩ = some (.int .i64 gone) ∧ w.frozen? ⟨g, 1, none⟩ = false ∧ w.frozen? ⟨g, 2, none⟩ = false := by
  obtain ⟨gone, hb⟩ := h.blk
  have k0 := hb.cell 0; have k1 := hb.cell 1; have k2 := hb.cell 2
  simp only [List.getElem?_toArray, List.getElem?_cons_zero, List.getElem?_cons_succ] at k0 k1 k2
  exact ⟨gone, k0, k1, k2, hb.frozen 1, hb.frozen 2⟩
theorem Bu.below {w w' : World} {g N most : Nat} {bv : Value} {b : List Int} (h : Bu w g N most bv b) (hb : Below w.heap.size w w') : Bu w' g N most bv b := by
  obtain ⟨gone, hk⟩ := h.blk
  exact ⟨⟨gone, hk.below hb hk.lt⟩, q_move h.row (fun k e => hb.block k (q_lt h.row k e)), h.rng, h.fit, h.most_le, h.ge⟩
theorem Bu.kp {w w' : World} {ex : Nat → Prop} {g N most : Nat} {bv : Value} {b : List Int} (h : Bu w g N most bv b) (hk : Kp w w' ex) (hg : ¬ ex g) (hv : ∀ k, bv.ownBlock = some k → ¬ ex k) : Bu w' g N most bv b := by
  obtain ⟨gone, hb⟩ := h.blk
  exact ⟨⟨gone, hb.kp hk hg⟩, q_move h.row (fun k e => hk.block k (q_lt h.row k e) (hv k e)), h.rng, h.fit, h.most_le, h.ge⟩
theorem Bu.ne {w : World} {g N most : Nat} {bv : Value} {b : List Int} (h : Bu w g N most bv b) : ∀ k, bv.ownBlock = some k → k ≠ g := by
  intro k hk e
  subst e
  obtain ⟨_, cells, hc⟩ := q_typed h.row k hk
  obtain ⟨gone, hb⟩ := h.blk
  exact Blk.ne_ (t := 5) hc hb (by decide) rfl
theorem Bu.drewN {w : World} {g N most : Nat} {bv : Value} {b : List Int} (h : Bu w g N most bv b) (n : Nat) : Bu (w.drewN n) g N most bv b := ⟨h.blk, q_move h.row (fun _ _ => rfl), h.rng, h.fit, h.most_le, h.ge⟩
/-- The row's slice is turned, within its block. -/
theorem Bu.set {w : World} {g N most : Nat} {bv bv' : Value} {b b' : List Int} (h : Bu w g N most bv b) (hr : QB w N bv' b') (hg : Rng b') (hf : b'.length ≤ most) (he : ∀ k, bv'.ownBlock = some k → k ≠ g) : Bu (w.setCell ⟨g, 1, none⟩ bv') g N most bv' b' := by
  obtain ⟨gone, hb⟩ := h.blk
  refine ⟨⟨gone, ?_⟩, q_move hr (fun k e => Below.heap_setCell w ⟨g, 1, none⟩ bv' k (he k e)), hg, hf, h.most_le, h.ge⟩
  have := hb.set_ 1 bv'
  simpa using this
set_option maxHeartbeats 1000000 in
theorem bytes_any {w : World} {g N most : Nat} {bv : Value} {b : List Int} (h : Bu w g N most bv b) : Calls Try.prog 12 #[.pointer (some ⟨g, 0, none⟩)] w fun e w' => ∃ v', e = .returned v' ∧ Own w' w.heap.size v' b ∧ Below w.heap.size w w' := by
  obtain ⟨gone, k0, k1, k2, f1, f2⟩ := h.blk0
  have HC := Lib.hid (clone_any h.row.rd (by have := h.fit; have := h.most_le; omega))
  clear h
  go_enter Try.func12, Try.ntmps12
  go_wp2_with (first | (go_at_call 16; refine HC.out.mono ?_; rintro e w1 ⟨v1, rfl, ho, hb⟩; have HO := Lib.hid ho; have HB := Lib.hid hb; clear ho hb))
  go_ret
  exact ⟨_, rfl, HO.out, HB.out⟩
theorem full_any {w : World} {g N most : Nat} {bv : Value} {b : List Int} (h : Bu w g N most bv b) : Calls Try.prog 19 #[.pointer (some ⟨g, 0, none⟩)] w fun e w' => e = .returned (.bool (decide (b.length = most))) ∧ ∃ q, w' = w.drewN q := by
  obtain ⟨gone, k0, k1, k2, f1, f2⟩ := h.blk0
  obtain ⟨A, c, rfl, _⟩ := q_slice h.row
  have HV : Hid (((b.length : Int) == (most : Int)) = decide (b.length = most)) := Lib.hid (by rw [Bool.eq_iff_iff, beq_iff_eq, decide_eq_true_eq]; omega)
  clear h
  go_enter Try.func19, Try.ntmps19
  go_wp2
  repeat (go_quiet (fail); try go_wp2)
  go_ret
  exact ⟨by first | rfl | (rw [HV.out]; done) | (rw [← HV.out]; rfl), _, rfl⟩
set_option maxHeartbeats 2000000 in
set_option maxRecDepth 100000 in
theorem take_any {w : World} {g N most : Nat} {bv : Value} {b : List Int} {n : Int} {k : Nat} (h : Bu w g N most bv b) (hk : k ≤ b.length) (hn : n = (k : Int) ∨ (k = b.length ∧ (b.length : Int) < n)) : Calls Try.prog 21 #[.pointer (some ⟨g, 0, none⟩), .int .i64 n] w fun e w' => ∃ v' bv', e = .returned v' ∧ Own w' w.heap.size v' (b.take k) ∧ Bu w' g N most bv' (b.drop k) ∧ Kp w w' (fun q => q = g) ∧ (bv'.ownBlock = bv.ownBlock) := by
  have HB := Lib.hid h
  obtain ⟨gone, k0, k1, k2, f1, f2⟩ := h.blk0
  have hrow := h.row
  have hlen : (b.length : Int) ≤ 2000 := by have := h.fit; have := h.most_le; omega
  obtain ⟨A, c, rfl, hc⟩ := q_slice hrow
  obtain ⟨i5, hi5, hz5⟩ := info5s
  have HT := Lib.hid (q_take hrow hk)
  have HD := Lib.hid (q_drop hrow hk)
  have hcut := cut_to (P := Try.prog) 39 5 .i64 Try.underlying39 hi5 A b.length c (k : Int) (by omega) (by omega) hc
  have hcut2 := cut_from (P := Try.prog) 39 5 .i64 Try.underlying39 hi5 1 hz5 A b.length c (k : Int) (by omega) (by omega)
  simp only [Int.toNat_natCast] at hcut hcut2
  obtain ⟨A7, hA7⟩ : ∃ x, x = (if c = k then A else A.map (·.add (k * 1))) := ⟨_, rfl⟩
  rw [← hA7] at hcut2 HD
  have HTL : Hid (QB w N (.slice A k c) (b.take k)) := Lib.hid (by
    have := HT.out
    rw [Nat.mul_one] at this
    have e : (b.take k).length = k := by rw [List.length_take]; omega
    unfold QB
    rw [e]
    have e2 : nums .u8 (b.take k) = (nums .u8 b).take k := by simp [nums]
    rw [e2]; exact this)
  have HDL : Hid (QB w N (.slice A7 (b.length - k) (c - k)) (b.drop k)) := Lib.hid (by
    have := HD.out
    rw [Nat.mul_one] at this
    have e : (b.drop k).length = b.length - k := List.length_drop
    unfold QB
    rw [e]
    have e2 : nums .u8 (b.drop k) = (nums .u8 b).drop k := by simp [nums]
    rw [e2]; exact this)
  have HOB : Hid ((Value.slice A7 (b.length - k) (c - k)).ownBlock = (Value.slice A b.length c).ownBlock) := Lib.hid (by
    rw [hA7]
    cases A with
    | none => split <;> rfl
    | some a =>
      split
      · rfl
      · simp only [Option.map_some, Value.ownBlock]
        congr 1
        unfold Addr.add; split <;> rfl)
  have HC := Lib.hid (clone_any HTL.out.rd (by rw [List.length_take]; omega))
  have hkl : (k : Int) ≤ (b.length : Int) := by omega
  have HFIN : Hid (∀ w1 v1, Own w1 w.heap.size v1 (b.take k) → Bu w1 g N most (.slice A b.length c) b → Below w.heap.size w w1 → ∃ v' bv', Ending.returned v1 = .returned v' ∧ Own (w1.setCell ⟨g, 1, none⟩ (.slice A7 (b.length - k) (c - k))) w.heap.size v' (b.take k) ∧ Bu (w1.setCell ⟨g, 1, none⟩ (.slice A7 (b.length - k) (c - k))) g N most bv' (b.drop k) ∧ Kp w (w1.setCell ⟨g, 1, none⟩ (.slice A7 (b.length - k) (c - k))) (fun q => q = g) ∧ (bv'.ownBlock = (Value.slice A b.length c).ownBlock)) := Lib.hid fun w1 v1 ho hb1 hw => by
    have hgl : g < w.heap.size := World.block_lt_of_cell? w _ k0
    refine ⟨v1, _, rfl, ?_, hb1.set (q_move HDL.out fun k' e => hw.block k' ?_) (HB.out.rng.drop k) (by rw [List.length_drop]; have := HB.out.fit; omega) (by rw [HOB.out]; exact HB.out.ne), ((Kp.of_below (ex := fun q => q = g) hw (fun k a c => by omega)).set_ (p := ⟨g, 1, none⟩) (fun _ => rfl) _), HOB.out⟩
    · refine own_kp ho ((Kp.refl w1 (fun q => q = g)).set_ (p := ⟨g, 1, none⟩) (fun _ => rfl) _) (fun k' e c => ?_)
      subst c
      have := (ownsRow_ge ho e)
      omega
    · have := q_lt HDL.out k' e
      exact this
  clear h hrow hc hi5 hz5 HT HD hA7 hk
  rcases hn with rfl | ⟨hkk, hn⟩
  · have e1 : min (k : Int) (b.length : Int) = (k : Int) := by omega
    clear hkl
    go_enter Try.func21, Try.ntmps21
    go_wp2_with (first | (go_at_call 16; refine HC.out.mono ?_; rintro e w1 ⟨v1, rfl, ho, hb⟩; (have HB1 := Lib.hid (HB.out.below hb); obtain ⟨gone1, p0, p1, p2, p3, p4⟩ := HB1.out.blk0; have HO := Lib.hid ho; have HW := Lib.hid hb; clear ho hb)))
    go_ret
    exact HFIN.out w1 v1 HO.out HB1.out HW.out
  · have e1 : max n 0 = n := by omega
    have e2 : min n (b.length : Int) = (k : Int) := by omega
    clear hkl hn hkk
    go_enter Try.func21, Try.ntmps21
    go_wp2_with (first | (go_at_call 16; refine HC.out.mono ?_; rintro e w1 ⟨v1, rfl, ho, hb⟩; (have HB1 := Lib.hid (HB.out.below hb); obtain ⟨gone1, p0, p1, p2, p3, p4⟩ := HB1.out.blk0; have HO := Lib.hid ho; have HW := Lib.hid hb; clear ho hb)))
    go_ret
    exact HFIN.out w1 v1 HO.out HB1.out HW.out
end Go.Proofs.Ytjnfomgehfmllaa.Tk
