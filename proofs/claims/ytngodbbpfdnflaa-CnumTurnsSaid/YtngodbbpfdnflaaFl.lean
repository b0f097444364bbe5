/- Plain facts on float64 words, with no program in sight: what 'near' of two finite numbers comes to, by the amount of the difference and by both signs of it, and from both sides. -/
import Derived.Laws.FloatArith
namespace Go.Proofs.Ytngodbbpfdnflaa.Fl
open Ieee Go.Op

theorem fmt : FloatKind.f64.format = Ieee.double := rfl

/-- A word's rung: all but its sign. -/
def rung (x : Nat) : Nat := x % 9223372036854775808
def INF : Nat := 9218868437227405312

/-- What a rung stands for, with a sign. -/
def dat (neg : Bool) (r : Nat) : Datum :=
  if r < double.binade then .number neg r double.leastPlace
  else if r < double.infRung then .number neg (double.binade + r % double.binade) (double.leastPlace + (r / double.binade - 1 : Nat))
  else if r = double.infRung then .infinity neg
  else .nan neg (r - double.infRung)

theorem sw : double.signWeight = 9223372036854775808 := by decide
theorem ir : double.infRung = 9218868437227405312 := by decide
theorem bn : double.binade = 4503599627370496 := by decide

theorem read_dat (x : Nat) : double.read x = dat (x / double.signWeight % 2 == 1) (rung x) := by
  unfold Format.read dat rung
  rw [sw]

theorem word_lt {s : Bool} {g : Nat} (h : g ≤ INF) : double.word s g < 18446744073709551616 := by
  unfold Format.word INF at *; rw [sw]; split <;> omega

theorem read_word (s : Bool) (g : Nat) (h : g ≤ INF) : double.read (double.word s g) = dat s g := by
  rw [read_dat]
  unfold Format.word rung INF at *
  rw [sw]
  cases s
  · simp only [Bool.false_eq_true, if_false]
    rw [show g / 9223372036854775808 = 0 by omega, show g % 9223372036854775808 = g by omega]
    rfl
  · simp only [if_true]
    rw [show (9223372036854775808 + g) / 9223372036854775808 = 1 by omega, show (9223372036854775808 + g) % 9223372036854775808 = g by omega]
    rfl

theorem abs_word (s : Bool) (g : Nat) (h : g ≤ INF) : double.word s g % 9223372036854775808 = g := by
  unfold Format.word INF at *
  rw [sw]
  split <;> omega

theorem neg_word (s : Bool) (g : Nat) (h : g ≤ INF) : negFloat .f64 (double.word s g) = double.word (!s) g := by
  have e : (2 : Nat) ^ (FloatKind.f64.format.exponentBits + FloatKind.f64.format.fractionBits) = 9223372036854775808 := by decide
  unfold negFloat INF at *
  rw [e]
  have h63 : g < 2 ^ 63 := by omega
  have hx : g ^^^ 9223372036854775808 = 9223372036854775808 + g := by
    have := Nat.two_pow_add_eq_or_of_lt h63 1
    rw [Nat.mul_one] at this
    rw [show (9223372036854775808 : Nat) = 2 ^ 63 by decide, this]
    apply Nat.eq_of_testBit_eq
    intro i
    simp only [Nat.testBit_xor, Nat.testBit_or, Nat.testBit_two_pow]
    by_cases hi : 63 = i
    · subst hi; simp [Nat.testBit_lt_two_pow h63]
    · simp [hi]
  unfold Format.word
  rw [sw]
  cases s
  · simpa using hx
  · simp only [if_true, Bool.not_true, Bool.false_eq_true, if_false]
    rw [← hx, Nat.xor_assoc, Nat.xor_self, Nat.xor_zero]

/-- The rung of an amount. -/
def near (mag : Nat) (place : Int) : Nat :=
  if mag = 0 then 0 else
  let last := max (place + mag.log2 - double.fractionBits) double.leastPlace
  let kept := Toward.even.cut false (mag <<< (place - last).toNat) (last - place).toNat
  min ((last - double.leastPlace).toNat * double.binade + kept) double.infRung

theorem nearest_word (s : Bool) (mag : Nat) (place : Int) : double.nearest s mag place = double.word s (near mag place) := by
  unfold Format.nearest near
  by_cases h : mag = 0
  · simp [h]
  · simp only [h, if_false]; rfl

theorem near_le (mag : Nat) (place : Int) : near mag place ≤ INF := by
  unfold near INF
  by_cases h : mag = 0
  · simp [h]
  · simp only [h, if_false]; rw [ir]; exact Nat.min_le_right _ _

def leB (x y : Nat) : Bool := FloatKind.f64.format.order x y == some .lt || FloatKind.f64.format.order x y == some .eq
def eqB (x y : Nat) : Bool := FloatKind.f64.format.order x y == some .eq

theorem fin_dat {r : Nat} (h : r < INF) : ∃ m p, ∀ t, dat t r = .number t m p := by
  unfold dat INF at *
  rw [bn, ir]
  by_cases h1 : r < 4503599627370496
  · exact ⟨_, _, fun t => by rw [if_pos h1]⟩
  · exact ⟨_, _, fun t => by rw [if_neg h1, if_pos h]⟩

theorem cmp_int (x y : Int) : compare x y = if x < y then .lt else if x = y then .eq else .gt := rfl

theorem le_neg {g : Nat} (hg : g ≤ INF) (tol : Nat) (h : leB (double.word false g) tol = true) : leB (double.word true g) tol = true := by
  unfold leB at *
  rw [fmt] at *
  unfold Format.order at *
  rw [read_word false g hg] at h
  rw [read_word true g hg]
  rcases Nat.lt_or_ge g INF with hlt | hge
  · obtain ⟨m, p, hd⟩ := fin_dat hlt
    rw [hd] at h ⊢
    cases hr : double.read tol with
    | nan a b => rw [hr] at h; simp [Datum.order] at h
    | infinity t => rw [hr] at h; cases t <;> simp_all [Datum.order]
    | number t n j =>
      rw [hr] at h
      simp only [Datum.order, cmp_int] at h ⊢
      simp only [signed, Bool.false_eq_true, if_false, if_true] at h ⊢
      generalize hA : (m <<< (p - min p j).toNat) = A at *
      generalize hB : (if t = true then -((n <<< (j - min p j).toNat : Nat) : Int) else ((n <<< (j - min p j).toNat : Nat) : Int)) = B at *
      by_cases h1 : (A : Int) < B
      · rw [if_pos (show -(A : Int) < B by omega)]; rfl
      · rw [if_neg h1] at h
        by_cases h2 : (A : Int) = B
        · by_cases h3 : A = 0
          · rw [if_neg (by omega), if_pos (by omega)]; rfl
          · rw [if_pos (by omega)]; rfl
        · rw [if_neg h2] at h; simp at h
  · obtain rfl : g = INF := by omega
    have hd : ∀ s, dat s INF = .infinity s := by intro s; unfold dat INF; rw [bn, ir]; simp
    rw [hd] at h ⊢
    cases hr : double.read tol with
    | nan a b => rw [hr] at h; simp [Datum.order] at h
    | infinity t => cases t <;> simp [Datum.order, compare, compareOfLessAndEq]
    | number t n j => simp [Datum.order]

/-- BOTH SIGNS: the amount is at most tol just if the number is and its negation is. -/
theorem le_both {s : Bool} {g : Nat} (hg : g ≤ INF) (tol : Nat) : leB (double.word s g % 9223372036854775808) tol = (leB (double.word s g) tol && leB (negFloat .f64 (double.word s g)) tol) := by
  rw [abs_word s g hg, neg_word s g hg]
  have e : double.word false g = g := by unfold Format.word; simp
  have key := le_neg hg tol
  rw [e] at key
  cases s
  · rw [Bool.not_false, e]
    cases h : leB g tol
    · simp
    · simp [key h]
  · rw [Bool.not_true, e]
    cases h : leB g tol
    · simp
    · simp [key h]

/-- The difference of two finite numbers, and the same amount from the other side. -/
theorem sub_fin {a b : Nat} (ha : rung a < INF) (hb : rung b < INF) : ∃ s t g, g ≤ INF ∧ floatBits .sub .f64 a b = some (double.word s g) ∧ floatBits .sub .f64 b a = some (double.word t g) := by
  obtain ⟨m, p, hd⟩ := fin_dat ha
  obtain ⟨n, q, he⟩ := fin_dat hb
  unfold floatBits Format.sub
  rw [fmt]
  simp only [read_dat a, read_dat b, hd, he, Datum.opposite, Datum.sum, Option.map_some, Format.write, nearest_word]
  generalize (a / double.signWeight % 2 == 1) = s
  generalize (b / double.signWeight % 2 == 1) = t
  refine ⟨_, (if signed t n (q - min p q).toNat + signed (!s) m (p - min p q).toNat = 0 then t && !s else decide (signed t n (q - min p q).toNat + signed (!s) m (p - min p q).toNat < 0)), near (signed s m (p - min p q).toNat + signed (!t) n (q - min p q).toNat).natAbs (min p q), near_le _ _, rfl, ?_⟩
  rw [Int.min_comm q p]
  have hn : (signed t n (q - min p q).toNat + signed (!s) m (p - min p q).toNat).natAbs = (signed s m (p - min p q).toNat + signed (!t) n (q - min p q).toNat).natAbs := by
    cases s <;> cases t <;> simp only [signed, Bool.not_true, Bool.not_false, if_true, Bool.false_eq_true, if_false] <;> omega
  rw [hn]

theorem eqB_comm (a b : Nat) : eqB a b = eqB b a := by
  unfold eqB Format.order
  rw [fmt]
  cases double.read a with
  | nan _ _ => cases double.read b <;> simp [Datum.order]
  | infinity s =>
    cases double.read b with
    | nan _ _ => simp [Datum.order]
    | infinity t => cases s <;> cases t <;> simp [Datum.order, compare, compareOfLessAndEq]
    | number t n j => cases s <;> simp [Datum.order]
  | number s m p =>
    cases double.read b with
    | nan _ _ => simp [Datum.order]
    | infinity t => cases t <;> simp [Datum.order]
    | number t n q =>
      simp only [Datum.order, cmp_int]
      rw [Int.min_comm q p]
      generalize signed s m (p - min p q).toNat = A
      generalize signed t n (q - min p q).toNat = B
      by_cases h : A = B
      · subst h; simp
      · have h' : ¬ B = A := fun x => h x.symm
        rw [if_neg h, if_neg h']
        split <;> split <;> simp

/-- 'right' of a part, as the walk spells it. -/
def rightB (x : Nat) : Bool := !(FloatKind.f64.format.order x x != some .eq) && !(FloatKind.f64.format.order (rung x) 9218868437227405311 == some .gt)

theorem right_fin {x : Nat} (h : rightB x = true) : rung x < INF := by
  refine Nat.lt_of_not_le fun hle => ?_
  unfold rightB Format.order at h
  rw [fmt] at h
  have hr : rung x < 9223372036854775808 := Nat.mod_lt _ (by decide)
  rcases Nat.lt_or_ge INF (rung x) with h1 | h1
  · have hd : ∀ s, dat s (rung x) = .nan s (rung x - double.infRung) := by
      intro s; unfold INF at *; unfold dat; rw [bn, ir]
      rw [if_neg (by omega), if_neg (by omega), if_neg (by omega)]
    rw [read_dat x, hd] at h
    simp [Datum.order] at h
  · have hx : rung x = INF := by omega
    have e1 : double.read (rung x) = .infinity false := by rw [hx]; decide
    have e2 : ∃ m p, double.read 9218868437227405311 = .number false m p := ⟨_, _, rfl⟩
    obtain ⟨m, p, e2⟩ := e2
    rw [e1, e2] at h
    simp [Datum.order] at h

def nearP (a b tol r : Nat) : Bool := eqB a b || leB (rung r) tol
def nearR (a b tol r : Nat) : Bool := eqB a b || (leB r tol && leB (negFloat .f64 r) tol)

end Go.Proofs.Ytngodbbpfdnflaa.Fl
