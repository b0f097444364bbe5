/- Plain facts on float64 words, with no program in sight: a number turned by quarters, its form, and the sum with the number turned twice. -/
import Derived.Test.YtngodbbpfdnflaaFl
namespace Go.Proofs.Ytngodbbpfdnflaa.Ft
open Ieee Go.Op Fl

def neg (x : Nat) : Nat := negFloat .f64 x

theorem inf_le {s : Bool} {g : Nat} (h : g < 9223372036854775808) : double.word s g < 18446744073709551616 := by
  unfold Format.word; rw [sw]; split <;> omega

theorem negx (x : Nat) : neg x = x ^^^ 9223372036854775808 := by
  have e : (2 : Nat) ^ (FloatKind.f64.format.exponentBits + FloatKind.f64.format.fractionBits) = 9223372036854775808 := by decide
  unfold neg negFloat; rw [e]

theorem neg_neg (x : Nat) : neg (neg x) = x := by
  rw [negx, negx, Nat.xor_assoc, Nat.xor_self, Nat.xor_zero]

theorem neg_lt {x : Nat} (h : x < 18446744073709551616) : neg x < 18446744073709551616 := by
  rw [negx]; exact Nat.xor_lt_two_pow (n := 64) h (by decide)

theorem rung_neg (x : Nat) : rung (neg x) = rung x := by
  unfold rung
  rw [negx, show (9223372036854775808 : Nat) = 2 ^ 63 by decide, Nat.xor_mod_two_pow, Nat.mod_self, Nat.xor_zero]

theorem sign_neg {x : Nat} (h : x < 18446744073709551616) : (neg x / double.signWeight % 2 == 1) = !(x / double.signWeight % 2 == 1) := by
  have a := negx x
  rw [sw]
  have e : neg x / 9223372036854775808 = (x / 9223372036854775808) ^^^ 1 := by
    rw [a, show (9223372036854775808 : Nat) = 2 ^ 63 by decide, Nat.xor_div_two_pow]
  have hx : x / 9223372036854775808 < 2 := by omega
  rw [e]
  generalize x / 9223372036854775808 = q at hx
  have : q = 0 ∨ q = 1 := by omega
  rcases this with rfl | rfl <;> rfl

theorem self_eq (s t : Bool) (r : Nat) : ((dat s r).order (dat s r) == some .eq) = ((dat t r).order (dat t r) == some .eq) := by
  unfold dat
  split
  · simp only [Datum.order, cmp_int]; simp
  · split
    · simp only [Datum.order, cmp_int]; simp
    · split
      · cases s <;> cases t <;> decide
      · simp [Datum.order]

theorem rightB_rung {x y : Nat} (h : rung x = rung y) : rightB x = rightB y := by
  have key : (FloatKind.f64.format.order x x == some .eq) = (FloatKind.f64.format.order y y == some .eq) := by
    rw [fmt]; unfold Format.order
    rw [read_dat x, read_dat y, h]
    exact self_eq _ _ _
  unfold rightB
  rw [h]
  have k2 : (FloatKind.f64.format.order x x != some .eq) = (FloatKind.f64.format.order y y != some .eq) := by
    unfold bne; rw [key]
  rw [k2]

theorem rightB_neg (x : Nat) : rightB (neg x) = rightB x := rightB_rung (rung_neg x)

/-- A part's form. -/
def zr (x : Nat) : Nat := if eqB x 0 then 0 else x

theorem eqB_zero {x : Nat} (h : rung x < INF) : eqB x 0 = decide (rung x = 0) := by
  unfold eqB
  rw [fmt]; unfold Format.order
  rw [read_dat x]
  generalize (x / double.signWeight % 2 == 1) = s
  have h0 : double.read 0 = .number false 0 double.leastPlace := by decide
  rw [h0]
  unfold dat INF at *
  rw [bn, ir]
  have hl : double.leastPlace = -1074 := by decide
  by_cases h1 : rung x < 4503599627370496
  · rw [if_pos h1, hl]
    simp only [Datum.order, cmp_int, signed]
    by_cases hz : rung x = 0
    · rw [hz]; cases s <;> decide
    · have : decide (rung x = 0) = false := by simpa using hz
      rw [this]
      simp only [Int.min_self, Int.sub_self, Int.toNat_zero, Nat.shiftLeft_zero]
      cases s
      · simp only [Bool.false_eq_true, if_false]
        rw [if_neg (by omega), if_neg (by omega)]; rfl
      · simp only [if_true]
        rw [if_pos (by split <;> omega)]; rfl
  · rw [if_neg h1, if_pos h]
    have hz : ¬ rung x = 0 := by omega
    have : decide (rung x = 0) = false := by simpa using hz
    rw [this, hl]
    simp only [Datum.order, cmp_int, signed]
    generalize hA : ((4503599627370496 + rung x % 4503599627370496) <<< _ : Nat) = A
    have hpos : 0 < A := by
      rw [← hA, Nat.shiftLeft_eq]
      exact Nat.mul_pos (by omega) (Nat.two_pow_pos _)
    simp only [Nat.zero_shiftLeft]
    cases s
    · simp only [Bool.false_eq_true, if_false]
      rw [if_neg (by omega), if_neg (by omega)]; rfl
    · simp only [if_true]
      rw [if_pos (by simp; omega)]; rfl

theorem zr_eq {x : Nat} (h : rung x < INF) : zr x = if rung x = 0 then 0 else x := by
  unfold zr; rw [eqB_zero h]; simp

theorem rung_zr {x : Nat} (h : rung x < INF) : rung (zr x) = rung x := by
  rw [zr_eq h]; split
  · rename_i e; rw [e]; rfl
  · rfl

theorem zr_zr {x : Nat} (h : rung x < INF) : zr (zr x) = zr x := by
  rw [zr_eq (x := zr x) (by rw [rung_zr h]; exact h), rung_zr h, zr_eq h]
  split <;> simp [*]

theorem zr_neg_zr {x : Nat} (h : rung x < INF) : zr (neg (zr x)) = zr (neg x) := by
  have h1 : rung (neg x) < INF := by rw [rung_neg]; exact h
  have h2 : rung (neg (zr x)) < INF := by rw [rung_neg, rung_zr h]; exact h
  rw [zr_eq h1, zr_eq h2, rung_neg, rung_neg, rung_zr h, zr_eq h]
  split
  · rfl
  · rfl

theorem zr_lt {x : Nat} (h : x < 18446744073709551616) : zr x < 18446744073709551616 := by
  unfold zr; split <;> omega

/-- A number's form equals the number, by ==. -/
theorem eq_zr {x : Nat} (hr : rightB x = true) : eqB (zr x) x = true := by
  have h := right_fin hr
  have hs : eqB x x = true := by
    unfold rightB at hr; simp only [Bool.and_eq_true, Bool.not_eq_true', bne_eq_false_iff_eq] at hr
    unfold eqB; simp [hr.1]
  unfold zr
  by_cases e : eqB x 0 = true
  · rw [if_pos e, eqB_comm]; exact e
  · rw [if_neg e]; exact hs

/-- What was written is what was read. -/
theorem near_shift (r : Nat) (h : r < INF) : ∃ m p, (∀ t, dat t r = .number t m p) ∧ (-1074 : Int) ≤ p ∧ near (m <<< (p + 1074).toNat) (-1074) = r := by
  have hl : double.leastPlace = -1074 := by decide
  have hf : double.fractionBits = 52 := by decide
  unfold dat INF at *
  rw [bn, ir, hl]
  by_cases h1 : r < 4503599627370496
  · refine ⟨r, -1074, fun t => by rw [if_pos h1], by omega, ?_⟩
    rw [show ((-1074 : Int) + 1074).toNat = 0 by decide, Nat.shiftLeft_zero]
    unfold near
    by_cases hz : r = 0
    · simp [hz]
    · rw [if_neg hz]
      have hlog : r.log2 < 52 := (Nat.log2_lt hz).2 (by omega)
      rw [hl, hf, bn, ir]
      have e1 : max ((-1074 : Int) + (r.log2 : Nat) - (52 : Nat)) (-1074) = -1074 := by omega
      simp only [e1]
      simp only [Int.sub_self, Int.toNat_zero, Nat.shiftLeft_zero, Nat.zero_mul, Nat.zero_add]
      have e2 : Toward.even.cut false r 0 = r := by
        unfold Toward.cut; simp [Nat.mod_one]
      rw [e2]; omega
  · refine ⟨4503599627370496 + r % 4503599627370496, -1074 + (r / 4503599627370496 - 1 : Nat), fun t => by rw [if_neg h1, if_pos h], by omega, ?_⟩
    generalize hm : 4503599627370496 + r % 4503599627370496 = m
    generalize he : r / 4503599627370496 - 1 = e
    have hmr : 4503599627370496 ≤ m ∧ m < 9007199254740992 := by omega
    have her : r = e * 4503599627370496 + m := by omega
    rw [show ((-1074 : Int) + (e : Nat) + 1074).toNat = e by omega]
    have hne : m <<< e ≠ 0 := by
      rw [Nat.shiftLeft_eq]; exact Nat.ne_of_gt (Nat.mul_pos (by omega) (Nat.two_pow_pos _))
    have hlogm : m.log2 = 52 := by
      rw [Nat.log2_eq_iff (by omega)]; exact ⟨by omega, by omega⟩
    have hlog : (m <<< e).log2 = 52 + e := by
      rw [Nat.log2_eq_iff hne, Nat.shiftLeft_eq]
      constructor
      · rw [Nat.pow_add]; exact Nat.mul_le_mul_right _ hmr.1
      · rw [show 52 + e + 1 = 53 + e by omega, Nat.pow_add]; exact Nat.mul_lt_mul_of_pos_right hmr.2 (Nat.two_pow_pos _)
    unfold near
    rw [if_neg hne, hl, hf, bn, ir, hlog]
    have e1 : max ((-1074 : Int) + ((52 + e : Nat) : Int) - ((52 : Nat) : Int)) (-1074) = -1074 + (e : Int) := by omega
    simp only [e1]
    rw [show ((-1074 : Int) - (-1074 + (e : Int))).toNat = 0 by omega, show ((-1074 : Int) + (e : Int) - -1074).toNat = e by omega, Nat.shiftLeft_zero]
    have e2 : Toward.even.cut false (m <<< e) e = m := by
      unfold Toward.cut
      rw [hlog, Nat.min_eq_left (by omega)]
      have hg : (1 : Nat) <<< e = 2 ^ e := by rw [Nat.shiftLeft_eq, Nat.one_mul]
      rw [hg, Nat.shiftLeft_eq]
      have hp : 0 < 2 ^ e := Nat.two_pow_pos _
      dsimp only
      rw [Nat.mul_div_cancel _ hp, Nat.mul_mod_left]
      have hnb : (2 ^ e == 2 * 0) = false := by simp only [beq_eq_false_iff_ne]; omega
      simp [hnb]
    rw [e2, ← her]
    exact Nat.min_eq_left (Nat.le_of_lt h)

theorem dat_zero (x : Nat) (h : rung x < INF) {m : Nat} {p : Int} (hd : ∀ t, dat t (rung x) = .number t m p) : (m = 0 ↔ rung x = 0) := by
  have := hd false
  unfold dat INF at *
  rw [bn, ir] at this
  by_cases h1 : rung x < 4503599627370496
  · rw [if_pos h1] at this; injection this with _ a _; omega
  · rw [if_neg h1, if_pos h] at this; injection this with _ a _; omega

/-- 0 and a finite number: its form. -/
theorem zero_add {x : Nat} (hx : x < 18446744073709551616) (h : rung x < INF) : floatBits .add .f64 0 x = some (zr x) := by
  obtain ⟨m, p, hd, hp, hn⟩ := near_shift _ h
  have h0 : double.read 0 = .number false 0 (-1074) := by decide
  unfold floatBits Format.add
  rw [fmt]
  simp only [read_dat x, hd, h0, Datum.sum, Option.map_some, Format.write, nearest_word]
  congr 1
  rw [zr_eq h]
  have emin : min (-1074 : Int) p = -1074 := by omega
  rw [emin]
  have hz := dat_zero x h hd
  have hw : x = double.word (x / double.signWeight % 2 == 1) (rung x) := by
    unfold Format.word rung; rw [sw]
    by_cases hb : x / 9223372036854775808 = 0
    · rw [hb]; simp; omega
    · have : x / 9223372036854775808 = 1 := by omega
      rw [this]; simp; omega
  have e0 : signed false 0 ((-1074 : Int) - -1074).toNat = 0 := by decide
  rw [e0, Int.zero_add, show (p - -1074).toNat = (p + 1074).toNat by congr 1; ]
  by_cases hr : rung x = 0
  · rw [if_pos hr]
    have hm := hz.2 hr
    subst hm
    generalize (x / double.signWeight % 2 == 1) = s
    cases s <;> simp [signed, near] <;> rfl
  · rw [if_neg hr]
    have hmn : m ≠ 0 := fun e => hr (hz.1 e)
    have hpos : 0 < m <<< (p + 1074).toNat := by
      rw [Nat.shiftLeft_eq]; exact Nat.mul_pos (by omega) (Nat.two_pow_pos _)
    generalize hA : m <<< (p + 1074).toNat = A at *
    conv => rhs; rw [hw]
    generalize (x / double.signWeight % 2 == 1) = s
    cases s
    · simp only [signed, Bool.false_eq_true, if_false, hA]
      rw [if_neg (by omega), Int.natAbs_natCast, hn, show decide ((A : Int) < 0) = false by simp]
    · simp only [signed, if_true, hA]
      rw [if_neg (by omega), Int.natAbs_neg, Int.natAbs_natCast, hn, show decide (-(A : Int) < 0) = true by simp; omega]

/-- A form and the form of the number with the other sign: 0. -/
theorem add_neg {x : Nat} (hx : x < 18446744073709551616) (h : rung x < INF) : floatBits .add .f64 (zr x) (zr (neg x)) = some 0 := by
  have h1 : rung (neg x) < INF := by rw [rung_neg]; exact h
  rw [zr_eq h, zr_eq h1, rung_neg]
  by_cases hr : rung x = 0
  · rw [if_pos hr, if_pos hr]; decide
  · rw [if_neg hr, if_neg hr]
    obtain ⟨m, p, hd⟩ := fin_dat h
    unfold floatBits Format.add
    rw [fmt]
    simp only [read_dat x, read_dat (neg x), rung_neg, hd, sign_neg hx, Datum.sum, Option.map_some, Format.write, nearest_word]
    rw [Int.min_self]
    generalize (x / double.signWeight % 2 == 1) = s
    generalize hA : m <<< (p - p).toNat = A
    have e : signed s m (p - p).toNat + signed (!s) m (p - p).toNat = 0 := by
      cases s <;> simp only [signed, hA, Bool.not_true, Bool.not_false, if_true, Bool.false_eq_true, if_false] <;> omega
    rw [e]
    cases s <;> rfl

/-- A number turned. -/
def turnF : Nat → Nat → Nat → Nat × Nat
  | 0, a, b => (a, b)
  | 1, a, b => (neg b, a)
  | 2, a, b => (neg a, neg b)
  | _, a, b => (b, neg a)

def tidyF (a b : Nat) : Nat × Nat := if rightB a && rightB b then (zr a, zr b) else (a, b)

theorem tidy_yes {a b : Nat} (ha : rightB a = true) (hb : rightB b = true) : tidyF a b = (zr a, zr b) := by
  unfold tidyF; simp [ha, hb]

theorem rightB_zr {x : Nat} (h : rightB x = true) : rightB (zr x) = true := by
  rw [rightB_rung (rung_zr (right_fin h))]; exact h

theorem turn_right (k a b : Nat) : (rightB (turnF k a b).1 && rightB (turnF k a b).2) = (rightB a && rightB b) := by
  unfold turnF
  split <;> simp [rightB_neg, Bool.and_comm]

def turnZ (k a b : Nat) : Nat × Nat := tidyF (turnF k a b).1 (turnF k a b).2

theorem turnZ_right (k a b : Nat) : (rightB (turnZ k a b).1 && rightB (turnZ k a b).2) = (rightB a && rightB b) := by
  rw [← turn_right k a b]
  unfold turnZ tidyF
  by_cases h : (rightB (turnF k a b).1 && rightB (turnF k a b).2) = true
  · rw [if_pos h]
    simp only [Bool.and_eq_true] at h
    simp [rightB_zr h.1, rightB_zr h.2, h.1, h.2]
  · rw [if_neg h]

theorem turnZ_yes {a b : Nat} (k : Nat) (ha : rightB a = true) (hb : rightB b = true) : turnZ k a b = (zr (turnF k a b).1, zr (turnF k a b).2) := by
  have := turn_right k a b
  rw [ha, hb] at this
  simp only [Bool.and_true, Bool.and_eq_true] at this
  exact tidy_yes this.1 this.2

/-- There and back. -/
theorem back {a b : Nat} (k : Nat) (hk : k < 4) (ha : rightB a = true) (hb : rightB b = true) : turnZ ((4 - k) % 4) (turnZ k a b).1 (turnZ k a b).2 = (zr a, zr b) := by
  have fa := right_fin ha
  have fb := right_fin hb
  have na : rightB (neg a) = true := by rw [rightB_neg]; exact ha
  have nb : rightB (neg b) = true := by rw [rightB_neg]; exact hb
  have fna := right_fin na
  have fnb := right_fin nb
  rw [turnZ_yes k ha hb]
  have hc : k = 0 ∨ k = 1 ∨ k = 2 ∨ k = 3 := by omega
  rcases hc with rfl | rfl | rfl | rfl
  · show turnZ _ _ _ = _
    simp only [turnF]
    rw [turnZ_yes _ (rightB_zr ha) (rightB_zr hb)]; simp [turnF, zr_zr fa, zr_zr fb]
  · show turnZ _ _ _ = _
    simp only [turnF]
    rw [turnZ_yes _ (rightB_zr nb) (rightB_zr ha)]; simp [turnF, zr_zr fa, zr_neg_zr fnb, neg_neg]
  · show turnZ _ _ _ = _
    simp only [turnF]
    rw [turnZ_yes _ (rightB_zr na) (rightB_zr nb)]; simp [turnF, zr_neg_zr fna, zr_neg_zr fnb, neg_neg]
  · show turnZ _ _ _ = _
    simp only [turnF]
    rw [turnZ_yes _ (rightB_zr hb) (rightB_zr na)]; simp [turnF, zr_zr fb, zr_neg_zr fna, neg_neg]

end Go.Proofs.Ytngodbbpfdnflaa.Ft
