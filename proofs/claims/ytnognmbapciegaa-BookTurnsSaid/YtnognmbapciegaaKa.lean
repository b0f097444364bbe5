/- Numbers, texts and entries as bytes, packed and read back: plain lists, no program in sight. pack.Reader: a number, a text read from bytes, or the panic. pack.Reader: a number below a bound, a text. pack.Read: the panic bad is caught and told as an error. pack.Read over the closure of book.Unpack: what is read, or the error. book.Unpack, its closure taken as told. The closure of book.Unpack: an entry is read, or the panic. The closure of book.Unpack: the walk. -/
import Derived.Test.YtnognmbapciegaaPBkx0
import Derived.Lib.Hide
import Derived.Outline
import Derived.WalkLawsBesides
import Derived.Recover
namespace Go.Proofs.Ytnognmbapciegaa.Bk
open Go.RowKit Go.Proofs.YtnognmbapciegaaW.PrintWords Go.Proofs.YtnognmbapciegaaW.PrintLast Go.Proofs.YtnognmbapciegaaW.PrintMore Go.Proofs.Ytnognmbapciegaa.PBk
set_option linter.unusedVariables false
set_option linter.unusedSimpArgs false

/-- All are bytes. -/
def By (xs : List Int) : Prop := ∀ x, x ∈ xs → 0 ≤ x ∧ x < 256
theorem By.nil : By [] := fun x h => by cases h
theorem By.cons {c : Int} {xs : List Int} (hc : 0 ≤ c ∧ c < 256) (h : By xs) : By (c :: xs) := fun x hx => by
  rcases List.mem_cons.mp hx with rfl | hx
  · exact hc
  · exact h x hx
theorem By.head {c : Int} {xs : List Int} (h : By (c :: xs)) : 0 ≤ c ∧ c < 256 := h c (by simp)
theorem By.tail {c : Int} {xs : List Int} (h : By (c :: xs)) : By xs := fun x hx => h x (by simp [hx])
theorem By.append {xs ys : List Int} (h : By xs) (k : By ys) : By (xs ++ ys) := fun x hx => by
  rcases List.mem_append.mp hx with hx | hx
  · exact h x hx
  · exact k x hx
theorem By.left {xs ys : List Int} (h : By (xs ++ ys)) : By xs := fun x hx => h x (by simp [hx])
theorem By.right {xs ys : List Int} (h : By (xs ++ ys)) : By ys := fun x hx => h x (by simp [hx])
theorem By.drop {xs : List Int} (h : By xs) (n : Nat) : By (xs.drop n) := fun x hx => h x (List.mem_of_mem_drop hx)
theorem By.take {xs : List Int} (h : By xs) (n : Nat) : By (xs.take n) := fun x hx => h x (List.mem_of_mem_take hx)
theorem by_bytesOf (s : ByteArray) : By (bytesOf s) := by
  intro x hx
  simp only [bytesOf, List.mem_map] at hx
  obtain ⟨b, _, rfl⟩ := hx
  have := b.toNat_lt
  omega

/-- A number's bytes: seven bits a byte, the low ones first. -/
def leb : Nat → Int → List Int
  | 0, n => [n]
  | f + 1, n => if n < 128 then [n] else (n % 128 + 128) :: leb f (n / 128)
def clamp (n : Int) : Int := min (max n 0) 4611686018427387904
def num (n : Int) : List Int := leb 8 (clamp n)
/-- The number with which bytes begin, of so many bytes at most; the rest. -/
def rdF : Nat → List Int → Option (Int × List Int)
  | 0, _ => none
  | _ + 1, [] => none
  | f + 1, c :: cs => if c < 128 then some (c, cs) else (rdF f cs).bind fun q => if q.1 = 0 then none else some (c - 128 + 128 * q.1, q.2)
def get (xs : List Int) : Option (Int × List Int) := (rdF 9 xs).bind fun q => if q.1 ≤ 4611686018427387904 then some q else none

theorem rd_leb : ∀ (f : Nat) (n : Int) (r : List Int), 0 ≤ n → n < 128 ^ (f + 1) → rdF (f + 1) (leb f n ++ r) = some (n, r)
  | 0, n, r, h0, h1 => by
    have h1' : n < 128 := by simpa using h1
    simp [leb, rdF, h1']
  | f + 1, n, r, h0, h1 => by
    unfold leb
    by_cases h : n < 128
    · simp [h, rdF]
    · rw [if_neg h]
      have e : (128 : Int) ^ (f + 1 + 1) = 128 * 128 ^ (f + 1) := by rw [Int.pow_succ, Int.mul_comm]
      have ih := rd_leb f (n / 128) r (by omega) (by rw [e] at h1; omega)
      rw [List.cons_append]
      show (if n % 128 + 128 < 128 then _ else _) = _
      rw [if_neg (by omega), ih]
      show (if n / 128 = 0 then none else some (n % 128 + 128 - 128 + 128 * (n / 128), r)) = _
      rw [if_neg (by omega)]
      congr 2
      omega
theorem rd_inv : ∀ (f : Nat) (xs : List Int) (n : Int) (r : List Int), By xs → rdF (f + 1) xs = some (n, r) → xs = leb f n ++ r ∧ 0 ≤ n ∧ n < 128 ^ (f + 1)
  | f, [], n, r, hb, h => by simp [rdF] at h
  | 0, c :: cs, n, r, hb, h => by
    have hc := hb.head
    by_cases h1 : c < 128
    · simp only [rdF, if_pos h1, Option.some.injEq, Prod.mk.injEq] at h
      obtain ⟨rfl, rfl⟩ := h
      exact ⟨by simp [leb], hc.1, by simpa using h1⟩
    · simp [rdF, h1] at h
  | f + 1, c :: cs, n, r, hb, h => by
    have hc := hb.head
    have e : (128 : Int) ^ (f + 1 + 1) = 128 * 128 ^ (f + 1) := by rw [Int.pow_succ, Int.mul_comm]
    have hp : (0 : Int) < 128 ^ (f + 1) := Int.pow_pos (by omega)
    by_cases h1 : c < 128
    · rw [rdF, if_pos h1] at h
      simp only [Option.some.injEq, Prod.mk.injEq] at h
      obtain ⟨rfl, rfl⟩ := h
      refine ⟨by simp [leb, h1], hc.1, ?_⟩
      rw [e]
      omega
    · rw [rdF, if_neg h1] at h
      obtain ⟨⟨m, r'⟩, hm, hq⟩ := Option.bind_eq_some_iff.mp h
      have ih := rd_inv f cs m r' hb.tail hm
      by_cases h2 : m = 0
      · simp [h2] at hq
      · rw [if_neg h2] at hq
        simp only [Option.some.injEq, Prod.mk.injEq] at hq
        obtain ⟨rfl, rfl⟩ := hq
        refine ⟨?_, by omega, by rw [e]; omega⟩
        unfold leb
        rw [if_neg (by omega), List.cons_append]
        have e1 : (c - 128 + 128 * m) % 128 + 128 = c := by omega
        have e2 : (c - 128 + 128 * m) / 128 = m := by omega
        rw [e1, e2, ← ih.1]
theorem clamp_id {n : Int} (h0 : 0 ≤ n) (h1 : n ≤ 4611686018427387904) : clamp n = n := by unfold clamp; omega
theorem get_num (n : Int) (r : List Int) (h0 : 0 ≤ n) (h1 : n ≤ 4611686018427387904) : get (num n ++ r) = some (n, r) := by
  unfold get num
  rw [clamp_id h0 h1, rd_leb 8 n r h0 (by have : (128 : Int) ^ (8 + 1) = 9223372036854775808 := rfl; omega)]
  simp [h1]
theorem get_inv (xs : List Int) (n : Int) (r : List Int) (hb : By xs) (h : get xs = some (n, r)) : xs = num n ++ r ∧ 0 ≤ n ∧ n ≤ 4611686018427387904 := by
  unfold get at h
  obtain ⟨⟨m, r'⟩, hm, hq⟩ := Option.bind_eq_some_iff.mp h
  by_cases h2 : m ≤ 4611686018427387904
  · simp only [h2, if_true, Option.some.injEq, Prod.mk.injEq] at hq
    obtain ⟨rfl, rfl⟩ := hq
    have := rd_inv 8 xs m r' hb hm
    exact ⟨by unfold num; rw [clamp_id this.2.1 h2]; exact this.1, this.2.1, h2⟩
  · simp [h2] at hq
theorem leb_len : ∀ (f : Nat) (n : Int), 1 ≤ (leb f n).length ∧ (leb f n).length ≤ f + 1
  | 0, n => by simp [leb]
  | f + 1, n => by
    unfold leb
    have := leb_len f (n / 128)
    split
    · simp
    · simp only [List.length_cons]; omega
theorem num_len (n : Int) : 1 ≤ (num n).length ∧ (num n).length ≤ 9 := leb_len 8 _
theorem leb_by : ∀ (f : Nat) (n : Int), 0 ≤ n → n < 128 ^ (f + 1) → By (leb f n)
  | 0, n, h0, h1 => by
    have h1' : n < 128 := by simpa using h1
    exact By.cons (by omega) By.nil
  | f + 1, n, h0, h1 => by
    have e : (128 : Int) ^ (f + 1 + 1) = 128 * 128 ^ (f + 1) := by rw [Int.pow_succ, Int.mul_comm]
    unfold leb
    split
    · exact By.cons (by omega) By.nil
    · exact By.cons (by omega) (leb_by f (n / 128) (by omega) (by rw [e] at h1; omega))
theorem num_by (n : Int) : By (num n) := leb_by 8 _ (by unfold clamp; omega) (by have : (128 : Int) ^ (8 + 1) = 9223372036854775808 := rfl
                                                                                 unfold clamp; omega)
theorem strOfNums_bytesOf (s : ByteArray) : strOfNums (bytesOf s) = s := by
  apply ByteArray.ext
  apply Array.ext'
  rw [strOfNums_data]
  simp [bytesOf, List.map_map, Function.comp_def]
theorem bytesOf_strOfNums {xs : List Int} (h : By xs) : bytesOf (strOfNums xs) = xs := by
  unfold bytesOf
  rw [strOfNums_data, List.map_map]
  conv => rhs; rw [← List.map_id xs]
  refine List.map_congr_left fun x hx => ?_
  have := h x hx
  simp
  omega

/-! ### texts, events, entries -/
def getI (most : Int) (xs : List Int) : Option (Int × List Int) := (get xs).bind fun q => if q.1 ≤ most then some q else none
def getT (most : Int) (xs : List Int) : Option (ByteArray × List Int) := (getI most xs).bind fun q => if q.1 ≤ (q.2.length : Int) then some (strOfNums (q.2.take q.1.toNat), q.2.drop q.1.toNat) else none
def txt (s : ByteArray) : List Int := num (s.size : Int) ++ bytesOf s
theorem getI_num (most n : Int) (r : List Int) (h0 : 0 ≤ n) (h1 : n ≤ 4611686018427387904) (hm : n ≤ most) : getI most (num n ++ r) = some (n, r) := by
  unfold getI
  rw [get_num n r h0 h1]
  simp [hm]
theorem getI_inv {most : Int} {xs : List Int} {n : Int} {r : List Int} (hb : By xs) (h : getI most xs = some (n, r)) : xs = num n ++ r ∧ 0 ≤ n ∧ n ≤ 4611686018427387904 ∧ n ≤ most := by
  unfold getI at h
  obtain ⟨⟨m, r'⟩, hm, hq⟩ := Option.bind_eq_some_iff.mp h
  by_cases h2 : m ≤ most
  · simp only [h2, if_true, Option.some.injEq, Prod.mk.injEq] at hq
    obtain ⟨rfl, rfl⟩ := hq
    have := get_inv xs m r' hb hm
    exact ⟨this.1, this.2.1, this.2.2, h2⟩
  · simp [h2] at hq
theorem getT_txt (most : Int) (s : ByteArray) (r : List Int) (h1 : (s.size : Int) ≤ 4611686018427387904) (hm : (s.size : Int) ≤ most) : getT most (txt s ++ r) = some (s, r) := by
  unfold getT txt
  rw [List.append_assoc, getI_num most _ _ (by omega) h1 hm]
  have hl := bytesOf_length s
  show (if (s.size : Int) ≤ ((bytesOf s ++ r).length : Int) then _ else _) = _
  rw [if_pos (by rw [List.length_append]; omega)]
  simp only [Int.toNat_natCast]
  rw [← hl, List.take_left', List.drop_left', strOfNums_bytesOf]
  · rfl
  · rfl
theorem getT_inv {most : Int} {xs : List Int} {s : ByteArray} {r : List Int} (hb : By xs) (h : getT most xs = some (s, r)) : xs = txt s ++ r ∧ (s.size : Int) ≤ most := by
  unfold getT at h
  obtain ⟨⟨m, r'⟩, hm, hq⟩ := Option.bind_eq_some_iff.mp h
  have hi := getI_inv hb hm
  by_cases h2 : m ≤ (r'.length : Int)
  · simp only [h2, if_true, Option.some.injEq, Prod.mk.injEq] at hq
    obtain ⟨rfl, rfl⟩ := hq
    have hb' : By r' := by rw [hi.1] at hb; exact hb.right
    have hs : ((strOfNums (r'.take m.toNat)).size : Int) = m := by rw [strOfNums_size, List.length_take]; omega
    refine ⟨?_, by omega⟩
    unfold txt
    rw [hs, bytesOf_strOfNums (hb'.take _), List.append_assoc, List.take_append_drop]
    exact hi.1
  · simp [h2] at hq
def evB (e : S44) : List Int := num e.f0 ++ (num (e.f1 + 1) ++ (num e.f3 ++ txt e.f2))
def getE (xs : List Int) : Option (S44 × List Int) :=
  (getI 14 xs).bind fun a => (get a.2).bind fun b => (get b.2).bind fun c => (getT 1048576 c.2).bind fun d => some (⟨a.1, b.1 - 1, d.1, c.1⟩, d.2)
structure EvOk (e : S44) : Prop where
  k0 : 0 ≤ e.f0
  k1 : e.f0 ≤ 14
  n0 : -1 ≤ e.f1
  n1 : e.f1 < 4611686018427387904
  t0 : 0 ≤ e.f3
  t1 : e.f3 ≤ 4611686018427387904
  s1 : (e.f2.size : Int) ≤ 1048576
theorem getE_ev (e : S44) (r : List Int) (h : EvOk e) : getE (evB e ++ r) = some (e, r) := by
  obtain ⟨k0, k1, n0, n1, t0, t1, s1⟩ := h
  unfold getE evB
  simp only [List.append_assoc]
  rw [getI_num 14 _ _ k0 (by omega) k1]
  simp only [Option.bind_some]
  rw [get_num _ _ (by omega) (by omega)]
  simp only [Option.bind_some]
  rw [get_num _ _ t0 t1]
  simp only [Option.bind_some]
  rw [getT_txt _ _ _ (by omega) s1]
  simp
theorem getE_inv {xs : List Int} {e : S44} {r : List Int} (hb : By xs) (h : getE xs = some (e, r)) : xs = evB e ++ r ∧ EvOk e := by
  unfold getE at h
  obtain ⟨⟨k, r1⟩, h1, h⟩ := Option.bind_eq_some_iff.mp h
  obtain ⟨⟨n, r2⟩, h2, h⟩ := Option.bind_eq_some_iff.mp h
  obtain ⟨⟨t, r3⟩, h3, h⟩ := Option.bind_eq_some_iff.mp h
  obtain ⟨⟨s, r4⟩, h4, h⟩ := Option.bind_eq_some_iff.mp h
  simp only [Option.some.injEq, Prod.mk.injEq] at h
  obtain ⟨rfl, rfl⟩ := h
  have i1 := getI_inv hb h1
  have b1 : By r1 := by rw [i1.1] at hb; exact hb.right
  have i2 := get_inv _ _ _ b1 h2
  have b2 : By r2 := by rw [i2.1] at b1; exact b1.right
  have i3 := get_inv _ _ _ b2 h3
  have b3 : By r3 := by rw [i3.1] at b2; exact b2.right
  have i4 := getT_inv b3 h4
  refine ⟨?_, ⟨i1.2.1, i1.2.2.2, by show -1 ≤ n - 1; omega, by show n - 1 < _; omega, i3.2.1, i3.2.2, i4.2⟩⟩
  unfold evB
  simp only [List.append_assoc]
  rw [i1.1, i2.1, i3.1, i4.1]
  have : n - 1 + 1 = n := by omega
  simp only [this]
def evsB (es : List S44) : List Int := es.flatMap evB
def getEs : Nat → List Int → Option (List S44 × List Int)
  | 0, xs => some ([], xs)
  | k + 1, xs => (getE xs).bind fun a => (getEs k a.2).bind fun b => some (a.1 :: b.1, b.2)
theorem getEs_evs : ∀ (es : List S44) (r : List Int), (∀ e, e ∈ es → EvOk e) → getEs es.length (evsB es ++ r) = some (es, r)
  | [], r, _ => rfl
  | e :: es, r, h => by
    show getEs (es.length + 1) (evB e ++ evsB es ++ r) = _
    rw [getEs, List.append_assoc, getE_ev e _ (h e (by simp)), Option.bind_some, getEs_evs es r (fun x hx => h x (by simp [hx]))]
    rfl
theorem getEs_inv : ∀ (k : Nat) (xs : List Int) (es : List S44) (r : List Int), By xs → getEs k xs = some (es, r) → xs = evsB es ++ r ∧ es.length = k ∧ ∀ e, e ∈ es → EvOk e
  | 0, xs, es, r, hb, h => by
    simp only [getEs, Option.some.injEq, Prod.mk.injEq] at h
    obtain ⟨rfl, rfl⟩ := h
    exact ⟨rfl, rfl, fun e he => by cases he⟩
  | k + 1, xs, es, r, hb, h => by
    rw [getEs] at h
    obtain ⟨⟨e, r1⟩, h1, h⟩ := Option.bind_eq_some_iff.mp h
    obtain ⟨⟨es', r2⟩, h2, h⟩ := Option.bind_eq_some_iff.mp h
    simp only [Option.some.injEq, Prod.mk.injEq] at h
    obtain ⟨rfl, rfl⟩ := h
    have i1 := getE_inv hb h1
    have b1 : By r1 := by rw [i1.1] at hb; exact hb.right
    have i2 := getEs_inv k r1 es' r2 b1 h2
    refine ⟨?_, by simp [i2.2.1], ?_⟩
    · show xs = evB e ++ evsB es' ++ r2
      rw [List.append_assoc, ← i2.1]
      exact i1.1
    · intro x hx
      rcases List.mem_cons.mp hx with rfl | hx
      · exact i1.2
      · exact i2.2.2 x hx
/-- A test's result and trace. -/
def resB (x : S42 × List S44) : List Int := txt x.1.f0 ++ (num x.1.f1 ++ (num (x.2.length : Int) ++ evsB x.2))
def getR (xs : List Int) : Option ((S42 × List S44) × List Int) :=
  (getT 80 xs).bind fun a => (getI 7 a.2).bind fun b => (get b.2).bind fun c => (getEs c.1.toNat c.2).bind fun d => some ((⟨a.1, b.1⟩, d.1), d.2)
structure RsOk (x : S42 × List S44) : Prop where
  s1 : (x.1.f0.size : Int) ≤ 80
  v0 : 0 ≤ x.1.f1
  v1 : x.1.f1 ≤ 7
  l1 : (x.2.length : Int) ≤ 4611686018427387904
  es : ∀ e, e ∈ x.2 → EvOk e
theorem getR_res (x : S42 × List S44) (r : List Int) (h : RsOk x) : getR (resB x ++ r) = some (x, r) := by
  obtain ⟨s1, v0, v1, l1, es⟩ := h
  unfold getR resB
  simp only [List.append_assoc]
  rw [getT_txt _ _ _ (by omega) s1]
  simp only [Option.bind_some]
  rw [getI_num _ _ _ v0 (by omega) v1]
  simp only [Option.bind_some]
  rw [get_num _ _ (by omega) l1]
  simp only [Option.bind_some, Int.toNat_natCast]
  rw [getEs_evs _ _ es]
  rfl
theorem getR_inv {xs : List Int} {x : S42 × List S44} {r : List Int} (hb : By xs) (h : getR xs = some (x, r)) : xs = resB x ++ r ∧ RsOk x := by
  unfold getR at h
  obtain ⟨⟨s, r1⟩, h1, h⟩ := Option.bind_eq_some_iff.mp h
  obtain ⟨⟨v, r2⟩, h2, h⟩ := Option.bind_eq_some_iff.mp h
  obtain ⟨⟨k, r3⟩, h3, h⟩ := Option.bind_eq_some_iff.mp h
  obtain ⟨⟨es, r4⟩, h4, h⟩ := Option.bind_eq_some_iff.mp h
  simp only [Option.some.injEq, Prod.mk.injEq] at h
  obtain ⟨rfl, rfl⟩ := h
  have i1 := getT_inv hb h1
  have b1 : By r1 := by rw [i1.1] at hb; exact hb.right
  have i2 := getI_inv b1 h2
  have b2 : By r2 := by rw [i2.1] at b1; exact b1.right
  have i3 := get_inv _ _ _ b2 h3
  have b3 : By r3 := by rw [i3.1] at b2; exact b2.right
  have i4 := getEs_inv _ _ _ _ b3 h4
  have hk : (es.length : Int) = k := by rw [i4.2.1]; exact Int.toNat_of_nonneg i3.2.1
  refine ⟨?_, ⟨i1.2, i2.2.1, i2.2.2.2, by show (es.length : Int) ≤ _; omega, i4.2.2⟩⟩
  unfold resB
  simp only [List.append_assoc]
  rw [i1.1, i2.1, i3.1, i4.1]
  simp only [hk]
def resesB (l : List (S42 × List S44)) : List Int := l.flatMap resB
def getRs : Nat → List Int → Option (List (S42 × List S44) × List Int)
  | 0, xs => some ([], xs)
  | k + 1, xs => (getR xs).bind fun a => (getRs k a.2).bind fun b => some (a.1 :: b.1, b.2)
theorem getRs_res : ∀ (l : List (S42 × List S44)) (r : List Int), (∀ e, e ∈ l → RsOk e) → getRs l.length (resesB l ++ r) = some (l, r)
  | [], r, _ => rfl
  | e :: l, r, h => by
    show getRs (l.length + 1) (resB e ++ resesB l ++ r) = _
    rw [getRs, List.append_assoc, getR_res e _ (h e (by simp)), Option.bind_some, getRs_res l r (fun x hx => h x (by simp [hx]))]
    rfl
theorem getRs_inv : ∀ (k : Nat) (xs : List Int) (l : List (S42 × List S44)) (r : List Int), By xs → getRs k xs = some (l, r) → xs = resesB l ++ r ∧ l.length = k ∧ ∀ e, e ∈ l → RsOk e
  | 0, xs, l, r, hb, h => by
    simp only [getRs, Option.some.injEq, Prod.mk.injEq] at h
    obtain ⟨rfl, rfl⟩ := h
    exact ⟨rfl, rfl, fun e he => by cases he⟩
  | k + 1, xs, l, r, hb, h => by
    rw [getRs] at h
    obtain ⟨⟨e, r1⟩, h1, h⟩ := Option.bind_eq_some_iff.mp h
    obtain ⟨⟨l', r2⟩, h2, h⟩ := Option.bind_eq_some_iff.mp h
    simp only [Option.some.injEq, Prod.mk.injEq] at h
    obtain ⟨rfl, rfl⟩ := h
    have i1 := getR_inv hb h1
    have b1 : By r1 := by rw [i1.1] at hb; exact hb.right
    have i2 := getRs_inv k r1 l' r2 b1 h2
    refine ⟨?_, by simp [i2.2.1], ?_⟩
    · show xs = resB e ++ resesB l' ++ r2
      rw [List.append_assoc, ← i2.1]
      exact i1.1
    · intro x hx
      rcases List.mem_cons.mp hx with rfl | hx
      · exact i1.2
      · exact i2.2.2 x hx
/-- An entry: its group, its results and traces. -/
structure Ent where
  g : Int
  rs : List S42
  ts : List (List S44)
def pack (e : Ent) : List Int := num e.g ++ (num (e.rs.length : Int) ++ resesB (e.rs.zip e.ts))
def getAll (xs : List Int) : Option (Ent × List Int) :=
  (getI 1048576 xs).bind fun a => (get a.2).bind fun b => (getRs b.1.toNat b.2).bind fun c => some (⟨a.1, c.1.map (·.1), c.1.map (·.2)⟩, c.2)
structure EntOk (e : Ent) : Prop where
  g0 : 0 ≤ e.g
  g1 : e.g ≤ 1048576
  l0 : e.rs.length = e.ts.length
  l1 : (e.rs.length : Int) ≤ 4611686018427387904
  rs : ∀ x, x ∈ e.rs.zip e.ts → RsOk x
theorem getAll_pack (e : Ent) (r : List Int) (h : EntOk e) : getAll (pack e ++ r) = some (e, r) := by
  obtain ⟨g0, g1, l0, l1, rs⟩ := h
  unfold getAll pack
  simp only [List.append_assoc]
  rw [getI_num _ _ _ g0 (by omega) g1]
  simp only [Option.bind_some]
  rw [get_num _ _ (by omega) l1]
  simp only [Option.bind_some, Int.toNat_natCast]
  have hz : (e.rs.zip e.ts).length = e.rs.length := by rw [List.length_zip]; omega
  rw [← hz, getRs_res _ _ rs]
  simp only [Option.bind_some]
  rw [List.map_fst_zip (by omega), List.map_snd_zip (by omega)]
theorem zip_maps : ∀ l : List (S42 × List S44), (l.map (·.1)).zip (l.map (·.2)) = l
  | [] => rfl
  | x :: l => by simp [zip_maps l]
theorem getAll_inv {xs : List Int} {e : Ent} {r : List Int} (hb : By xs) (h : getAll xs = some (e, r)) : xs = pack e ++ r ∧ EntOk e := by
  unfold getAll at h
  obtain ⟨⟨g, r1⟩, h1, h⟩ := Option.bind_eq_some_iff.mp h
  obtain ⟨⟨n, r2⟩, h2, h⟩ := Option.bind_eq_some_iff.mp h
  obtain ⟨⟨l, r3⟩, h3, h⟩ := Option.bind_eq_some_iff.mp h
  simp only [Option.some.injEq, Prod.mk.injEq] at h
  obtain ⟨rfl, rfl⟩ := h
  have i1 := getI_inv hb h1
  have b1 : By r1 := by rw [i1.1] at hb; exact hb.right
  have i2 := get_inv _ _ _ b1 h2
  have b2 : By r2 := by rw [i2.1] at b1; exact b1.right
  have i3 := getRs_inv _ _ _ _ b2 h3
  have hn : (l.length : Int) = n := by rw [i3.2.1]; exact Int.toNat_of_nonneg i2.2.1
  refine ⟨?_, ⟨i1.2.1, i1.2.2.2, by simp, by simp only [List.length_map]; omega, by rw [zip_maps]; exact i3.2.2⟩⟩
  unfold pack
  simp only [List.append_assoc, List.length_map, zip_maps, hn]
  rw [i1.1, i2.1, i3.1]

/-! ### what is right -/
def endsK (k : Int) : Bool := decide (k = 5) || decide (k = 6) || decide (k = 7)
def namedK (k : Int) : Bool := decide (k = 1) || decide (k = 3) || decide (k = 4) || decide (k = 14)
def textK (k : Int) : Bool := decide (k = 2) || decide (k = 3) || decide (k = 4)
def decR (e : S44) : Bool := if endsK e.f0 then decide (e.f1 < 0) else decide (e.f0 = 8) || decide (e.f0 = 9) || decide (e.f0 = 11) || decide (e.f0 = 12) || decide (e.f0 = 13)
def oneR (e : S44) : Bool := decide (1 ≤ e.f0) && decide (e.f0 ≤ 14) && decide (0 ≤ e.f3) && decide (-1 ≤ e.f1) && (endsK e.f0 || decide (0 ≤ e.f1)) && (endsK e.f0 || namedK e.f0 || decide (e.f1 = 0)) && (textK e.f0 || decide (e.f2.size = 0))
/-- A trace from a time on. -/
def trF : Int → List S44 → Bool
  | _, [] => true
  | at_, e :: es => oneR e && (if e.f0 = 1 then decide (e.f3 = 0) else decide (at_ ≤ e.f3)) && (es.isEmpty || !decR e) && trF e.f3 es
def trR (es : List S44) : Bool := trF 0 es
def greatR (e : S44) : Bool := decide (e.f1 > 1099511627776) || decide (e.f3 > 1125899906842624) || decide ((e.f2.size : Int) > 1048576)
def resR (x : S42 × List S44) : Bool := decide (0 < x.1.f0.size) && decide (x.1.f0.size ≤ 80) && decide (1 ≤ x.1.f1) && decide (x.1.f1 ≤ 7) && trR x.2 && x.2.all (fun e => !greatR e)
def rightE (e : Ent) : Bool := decide (0 ≤ e.g) && decide (e.g ≤ 1048576) && decide (e.rs.length = e.ts.length) && (e.rs.zip e.ts).all resR
/-- The right entry of bytes. -/
def unpack (xs : List Int) : Option Ent := (getAll xs).bind fun q => if q.2.isEmpty && rightE q.1 then some q.1 else none
theorem trF_one : ∀ (a : Int) (es : List S44), trF a es = true → ∀ e, e ∈ es → oneR e = true
  | a, [], _, e, h => by cases h
  | a, x :: es, h, e, he => by
    simp only [trF, Bool.and_eq_true] at h
    rcases List.mem_cons.mp he with rfl | he
    · exact h.1.1.1
    · exact trF_one x.f3 es h.2 e he
theorem evOk_of {e : S44} (h1 : oneR e = true) (h2 : greatR e = false) : EvOk e := by
  simp only [oneR, greatR, Bool.and_eq_true, Bool.or_eq_false_iff, decide_eq_true_eq, decide_eq_false_iff_not] at h1 h2
  exact ⟨by omega, by omega, by omega, by omega, by omega, by omega, by omega⟩
theorem rsOk_of {x : S42 × List S44} (h : resR x = true) (hl : (x.2.length : Int) ≤ 4611686018427387904) : RsOk x := by
  simp only [resR, Bool.and_eq_true, decide_eq_true_eq, List.all_eq_true, Bool.not_eq_true'] at h
  exact ⟨by omega, by omega, by omega, hl, fun e he => evOk_of (trF_one 0 _ h.1.2 e he) (h.2 e he)⟩
theorem entOk_of {e : Ent} (h : rightE e = true) (hl : (e.rs.length : Int) ≤ 4611686018427387904) (hl2 : ∀ t, t ∈ e.ts → (t.length : Int) ≤ 4611686018427387904) : EntOk e := by
  simp only [rightE, Bool.and_eq_true, decide_eq_true_eq, List.all_eq_true] at h
  exact ⟨by omega, by omega, h.1.2, hl, fun x hx => rsOk_of (h.2 x hx) (hl2 x.2 (List.of_mem_zip hx).2)⟩
end Go.Proofs.Ytnognmbapciegaa.Bk
namespace Go.Proofs.Ytnognmbapciegaa.Bk
open Go.RowKit Go.Proofs.YtnognmbapciegaaW.PrintWords Go.Proofs.YtnognmbapciegaaW.PrintLast Go.Proofs.YtnognmbapciegaaW.PrintMore Go.Proofs.Ytnognmbapciegaa.PBk
set_option linter.unusedVariables false
set_option linter.unusedSimpArgs false

def bad : List PanicEntry := [{ v := .iface 78 (.agg #[]), recovered := false }]

theorem need_true (p : Value) (w : World) : Calls Try.prog 32 #[p, .bool true] w fun e w' => e = .returned (.tuple #[]) ∧ w' = w := by
  go_enter Try.func32, Try.ntmps32
  go_wp2
  go_end0
  exact ⟨rfl, rfl⟩
theorem need_false (p : Value) (w : World) : Calls Try.prog 32 #[p, .bool false] w fun e w' => e = .panicked bad ∧ w' = w := by
  go_enter Try.func32, Try.ntmps32
  go_wp2
  exact ⟨rfl, rfl, rfl⟩

/-- A Reader (block g) over bytes that were there before (in w0). -/
structure Rdr (w0 w : World) (g : Nat) (xs : List Int) : Prop where
  below : Below w0.heap.size w0 w
  new : w0.heap.size ≤ g
  by_ : By xs
  cell : ∃ (A : Option Addr) (c : Nat), w.heap[g]? = some (.cells #[.slice A xs.length c] 80 (0, 0)) ∧ xs.length ≤ c ∧ Kd.C (Kd.int .u8) w0 A xs.length xs

theorem left_any {w0 w : World} {g : Nat} {xs : List Int} (h : Rdr w0 w g xs) : Calls Try.prog 29 #[.pointer (some ⟨g, 0, none⟩)] w fun e w' => e = .returned (.int .i64 (xs.length : Int)) ∧ w' = w := by
  obtain ⟨hb, hn, hy, A, c, hc, hl, hC⟩ := h
  have f0 : w.cell? ⟨g, 0, none⟩ = some (.slice A xs.length c) := blk_cell hc 0
  go_enter Try.func29, Try.ntmps29
  go_wp2
  go_ret
  exact ⟨rfl, rfl⟩

theorem Rdr.set {w0 w : World} {g : Nat} {xs ys : List Int} {A' : Option Addr} {c' : Nat} (h : Rdr w0 w g xs) (hC : Kd.C (Kd.int .u8) w0 A' ys.length ys) (hl : ys.length ≤ c') (hy : By ys) :
    Rdr w0 (w.setCell ⟨g, 0, none⟩ (.slice A' ys.length c')) g ys := by
  obtain ⟨hb, hn, hy0, A, c, hc, hl0, hC0⟩ := h
  refine ⟨hb.setCell hn _, hn, hy, A', c', ?_, hl, hC⟩
  have := blk_set hc 0 (.slice A' ys.length c')
  simpa using this

theorem u8_and127 (x : Int) (h₀ : 0 ≤ x) (h₁ : x < 256) : bits .and .u8 x 127 = x % 128 := bits_mask .u8 8 (by decide) wraps_u8 7 (by decide) x h₀ h₁
theorem wraps_u64 (n : Int) (h₀ : 0 ≤ n) (h₁ : n < 2 ^ 63) : IntKind.u64.wrap n = n := by
  have e : (2 : Int) ^ 63 = 9223372036854775808 := rfl
  simp [IntKind.wrap, IntKind.bits, IntKind.signed]
  omega
/-- How the reading goes on: so many bytes have made U. -/
def cont (i : Nat) (U : Int) (ys : List Int) : Option (Int × List Int) := (rdF (9 - i) ys).bind fun q => if i ≠ 0 ∧ q.1 = 0 then none else some (U + 128 ^ i * q.1, q.2)
theorem cont_zero (xs : List Int) : cont 0 0 xs = rdF 9 xs := by
  unfold cont
  cases h : rdF (9 - 0) xs with
  | none => rfl
  | some q => simp
theorem cont_nil (i : Nat) (U : Int) : cont i U [] = none := by unfold cont; cases 9 - i <;> rfl
theorem cont_nine (U : Int) (ys : List Int) : cont 9 U ys = none := rfl
theorem cont_last {i : Nat} (hi : i < 9) (U c : Int) (cs : List Int) (h : c < 128) : cont i U (c :: cs) = if i ≠ 0 ∧ c = 0 then none else some (U + 128 ^ i * c, cs) := by
  obtain ⟨j, hj⟩ : ∃ j, 9 - i = j + 1 := ⟨8 - i, by omega⟩
  unfold cont
  rw [hj, rdF, if_pos h]
  rfl
theorem cont_more {i : Nat} (hi : i < 9) (U c : Int) (cs : List Int) (h : ¬ c < 128) (hc : c < 256) (hb : By cs) : cont i U (c :: cs) = cont (i + 1) (U + 128 ^ i * (c - 128)) cs := by
  obtain ⟨j, hj⟩ : ∃ j, 9 - i = j + 1 := ⟨8 - i, by omega⟩
  have hj' : 9 - (i + 1) = j := by omega
  unfold cont
  rw [hj, hj', rdF, if_neg h]
  cases hr : rdF j cs with
  | none => rfl
  | some q =>
    obtain ⟨m, r⟩ := q
    simp only [Option.bind_some]
    by_cases hm : m = 0
    · simp [hm]
    · have hj0 : ∃ k, j = k + 1 := by
        cases j with
        | zero => simp [rdF] at hr
        | succ k => exact ⟨k, rfl⟩
      obtain ⟨k, rfl⟩ := hj0
      have := rd_inv k cs m r hb hr
      rw [if_neg hm, if_neg (by omega)]
      simp only [Option.bind_some]
      rw [if_neg (by omega)]
      congr 2
      rw [Int.pow_succ, Int.mul_add, Int.mul_assoc]
      omega
/-- What a read number comes to. -/
def NumPost (w0 w : World) (g : Nat) (res : Option (Int × List Int)) (e : Ending) (w' : World) : Prop :=
  KeepBut w w' g none ∧ Below w0.heap.size w0 w' ∧ ((∃ n r, res = some (n, r) ∧ e = .returned (.int .i64 n) ∧ Rdr w0 w' g r) ∨ (res = none ∧ e = .panicked bad))
theorem Rdr.read {w0 w : World} {g : Nat} {c0 : Int} {cs : List Int} (h : Rdr w0 w g (c0 :: cs)) : ∃ (ad : Addr) (A' : Option Addr) (c : Nat),
    w.cell? ⟨g, 0, none⟩ = some (.slice (some ad) (cs.length + 1) c) ∧ w.cell? ad = some (.int .u8 c0) ∧
    (∀ W : World, (Instr.slice 28 (.slice (some ad) (cs.length + 1) c) (some (.int .i64 1)) none none).run Try.prog W = .ok (.slice A' cs.length (c - 1)) W) ∧
    Rdr w0 (w.setCell ⟨g, 0, none⟩ (.slice A' cs.length (c - 1))) g cs ∧ w.frozen? ⟨g, 0, none⟩ = false := by
  have h' := h
  obtain ⟨hb, hn, hy0, A, c, hc, hl0, hC0⟩ := h
  have hr := Kd.reads_of_C (enc := Value.int .u8) (d := (0 : Int)) (h1 := fun _ => rfl) hC0
  obtain ⟨ad, rfl, hcell⟩ := ReadsInt.at_ (k := .u8) hr 0 (by omega) (by simp)
  obtain ⟨i05, hi05, _, hsz5, _⟩ := info_parts info5
  obtain ⟨A', hrun, hreads, hlen⟩ := print_drop_of (P := Try.prog) (Value.int .u8) (0 : Int) 28 5 .i64 Try.underlying28 hi05 hsz5 (some ad) c (c0 :: cs) 1 (by omega) (by simp only [List.length_cons]; omega) hl0
  refine ⟨ad, A', c, blk_cell hc 0, ?_, fun W => hrun W, ?_, blk_frozen hc 0⟩
  · have e0 : ad.add (0 : Int).toNat = ad := by simp [Addr.add]
    rw [e0] at hcell
    exact (hb.cell (World.block_lt_of_cell? w0 _ hcell)).trans hcell
  · have := Rdr.set (ys := cs) h' (A' := A') (c' := c - 1) (Kd.C_of_reads (h1 := fun _ => rfl) (hreads w0 hr)) hlen hy0.tail
    exact this

theorem keep_far' {w wr : World} {g : Nat} {u : Value} (h : KeepBut w wr g none) : KeepBut w (wr.setCell ⟨g, 0, none⟩ u) g none := h.set_ 0 u
theorem pow7 (i : Nat) : (2 : Int) ^ (7 * i) = 128 ^ i := by rw [Int.pow_mul]; rfl
theorem or_join {i : Nat} (hi : i < 9) {U d : Int} (h0 : 0 ≤ U) (h1 : U < 128 ^ i) (hd0 : 0 ≤ d) (hd1 : d < 128) : bits .or .u64 U (128 ^ i * d) = U + 128 ^ i * d ∧ 0 ≤ U + 128 ^ i * d ∧ U + 128 ^ i * d < 128 ^ (i + 1) ∧ U + 128 ^ i * d < 9223372036854775808 := by
  have hp : (0 : Int) < 128 ^ i := Int.pow_pos (by omega)
  have e : (128 : Int) ^ (i + 1) = 128 ^ i * 128 := Int.pow_succ ..
  have hd2 : (128 : Int) ^ i * d ≤ 128 ^ i * 127 := Int.mul_le_mul_of_nonneg_left (by omega) (by omega)
  have hd3 : (0 : Int) ≤ 128 ^ i * d := Int.mul_nonneg (by omega) hd0
  have h9 : (128 : Int) ^ (i + 1) ≤ 128 ^ 9 := by exact_mod_cast Nat.pow_le_pow_right (n := 128) (by omega) (by omega : i + 1 ≤ 9)
  have e9 : (128 : Int) ^ 9 = 9223372036854775808 := rfl
  have e63 : (2 : Int) ^ 63 = 9223372036854775808 := rfl
  refine ⟨?_, by omega, by omega, by omega⟩
  have := bits_join .u64 63 (by decide) wraps_u64 (7 * i) (128 ^ i * d) U hd3 (by rw [pow7]; exact Int.mul_emod_right _ _) (by omega) h0 (by rw [pow7]; exact h1) (by omega)
  have hc : bits .or .u64 U (128 ^ i * d) = bits .or .u64 (128 ^ i * d) U := by
    obtain ⟨a, ha⟩ := Int.eq_ofNat_of_zero_le hd3
    obtain ⟨b, hb⟩ := Int.eq_ofNat_of_zero_le h0
    rw [ha, hb]
    rw [(bits_nat .u64 63 (by decide) wraps_u64 a b (by omega) (by omega)).2, (bits_nat .u64 63 (by decide) wraps_u64 b a (by omega) (by omega)).2, Nat.or_comm]
  rw [hc, this]
  omega
def iOf : Value → Int | .int _ q => q | _ => 0

theorem num_done {xs cs : List Int} {i : Nat} {U c0 U2 D : Int} (h : rdF 9 xs = cont i U (c0 :: cs)) (hi : i < 9) (hc : c0 < 128) (hc0 : 0 ≤ c0) (hD : D = 128 ^ i * (c0 % 128)) (hU : U2 = U + D) :
    get xs = if U2 ≤ 4611686018427387904 ∧ (0 < c0 ∨ i = 0) then some (U2, cs) else none := by
  have e : c0 % 128 = c0 := by omega
  rw [e] at hD
  unfold get
  rw [h, cont_last hi U c0 cs hc]
  by_cases h1 : i ≠ 0 ∧ c0 = 0
  · rw [if_pos h1, if_neg (by omega)]
    rfl
  · rw [if_neg h1, Option.bind_some]
    show (if U + 128 ^ i * c0 ≤ 4611686018427387904 then some (U + 128 ^ i * c0, cs) else none) = _
    rw [← hD, ← hU]
    by_cases h2 : U2 ≤ 4611686018427387904
    · rw [if_pos h2, if_pos ⟨h2, by omega⟩]
    · rw [if_neg h2, if_neg (by omega)]

set_option maxHeartbeats 4000000 in
set_option maxRecDepth 100000 in
theorem num_any {w0 w : World} {g : Nat} {xs : List Int} (h : Rdr w0 w g xs) : Calls Try.prog 31 #[.pointer (some ⟨g, 0, none⟩)] w (NumPost w0 w g (get xs)) := by
  have HN := Lib.hid h.new
  have H0 := Lib.hid h
  clear h
  go_enter Try.func31, Try.ntmps31
  go_wp2_with fail
  go_loopw [3, 4] (fun u sh wr => ∃ (i : Nat) (U : Int) (ys : List Int), i ≤ 9 ∧ u = .int .u64 U ∧ sh = .int .i64 (7 * (i : Int)) ∧ 0 ≤ U ∧ Hid (U < 128 ^ i) ∧ Hid (Rdr w0 wr g ys) ∧ Hid (KeepBut w wr g none) ∧ Hid (rdF 9 xs = cont i U ys)) (fun _ sh _ => (70 - iOf sh).toNat)
  case atStart => exact ⟨0, 0, xs, by omega, rfl, rfl, by omega, Lib.hid (by decide), H0, Lib.hid (KeepBut.refl w g none), Lib.hid (cont_zero xs).symm⟩
  case round =>
    obtain ⟨i, U, ys, hi, rfl, rfl, hU0, HU, HR, HK, HE⟩ := hrel
    cases ys with
    | nil =>
      obtain ⟨A, c, hcg, _, _⟩ := HR.out.cell
      have f0 : wr.cell? ⟨g, 0, none⟩ = some (.slice A 0 c) := blk_cell hcg 0
      clear hcg
      go_wp2_with (first | (go_at_call 32; refine (need_false _ _).mono ?_; rintro e wq ⟨rfl, rfl⟩))
      exact ⟨rfl, HK.out, HR.out.below, .inr ⟨by unfold get; rw [HE.out, cont_nil]; rfl, rfl⟩⟩
    | cons c0 cs =>
      obtain ⟨ad, A', c, f0, f1, f2, HR1, f3⟩ := HR.out.read
      have HR2 := Lib.hid HR1
      clear HR1
      have hc0 := HR.out.by_.head
      have g1 : decide ((cs.length : Int) + 1 > 0) = true := by simp
      by_cases hi9 : i = 9
      · subst hi9
        go_wp2_with (first | (go_at_call 32; refine (need_false _ _).mono ?_; rintro e wq ⟨rfl, rfl⟩))
        exact ⟨rfl, HK.out, HR.out.below, .inr ⟨by unfold get; rw [HE.out, cont_nine]; rfl, rfl⟩⟩
      · have hi8 : i < 9 := by omega
        have g2 : decide (7 * (i : Int) < 63) = true := by simp; omega
        have b1 := u8_and127 c0 hc0.1 hc0.2
        have b2 : IntKind.u64.wrap (c0 % 128) = c0 % 128 := wraps_u64 _ (by omega) (by have e63 : (2 : Int) ^ 63 = 9223372036854775808 := rfl; omega)
        have hj := or_join hi8 hU0 HU.out (d := c0 % 128) (by omega) (by omega)
        have hsn : (7 * (i : Int)).toNat = 7 * i := by omega
        obtain ⟨D, hD⟩ : ∃ D : Int, D = 128 ^ i * (c0 % 128) := ⟨_, rfl⟩
        have b3 : IntKind.u64.wrap (c0 % 128 * 2 ^ (7 * (i : Int)).toNat) = D := by
          rw [hsn, pow7, Int.mul_comm, hD]
          exact wraps_u64 _ (Int.mul_nonneg (Int.le_of_lt (Int.pow_pos (by omega))) (by omega)) (by have e63 : (2 : Int) ^ 63 = 9223372036854775808 := rfl; omega)
        rw [← hD] at hj
        obtain ⟨U2, hU2⟩ : ∃ U2 : Int, U2 = U + D := ⟨_, rfl⟩
        rw [← hU2] at hj
        have b4 := hj.1
        have HJ := Lib.hid hj
        have HD := Lib.hid hD
        have HU2 := Lib.hid hU2
        clear hU2 hD
        have g3 : (0 : Int) ≤ 7 * (i : Int) := by omega
        have g4 : (7 * (i : Int)) ≤ 64 := by omega
        clear hj hsn
        by_cases hlt : c0 < 128
        · have g5 : decide (c0 < 128) = true := by simpa using hlt
          have g9 : wrap64 U2 = U2 := by
            have := HJ.out
            unfold wrap64
            omega
          by_cases q1 : U2 ≤ 4611686018427387904
          · have g6 : decide (U2 ≤ 4611686018427387904) = true := by simpa using q1
            by_cases q2 : c0 = 0
            · have g7 : decide (c0 > 0) = false := by simp; omega
              by_cases q3 : i = 0
              · have g8 : ((7 * (i : Int)) == 0) = true := by simp; omega
                have HG : Hid (get xs = some (U2, cs)) := by
                  refine Lib.hid ?_
                  rw [num_done HE.out hi8 hlt hc0.1 HD.out HU2.out, if_pos ⟨q1, .inr q3⟩]
                clear hlt hi9 hi8 hi q1 q2 q3
                go_wp2_with (first | (go_at_call 32; with_reducible refine (need_true _ _).mono ?_; rintro e wq ⟨rfl, rfl⟩))
                go_ret
                exact ⟨keep_far' HK.out, HR2.out.below, .inl ⟨U2, cs, HG.out, by simp [g9], HR2.out⟩⟩
              · have g8 : ((7 * (i : Int)) == 0) = false := by simp; omega
                have HG : Hid (get xs = none) := by
                  refine Lib.hid ?_
                  rw [num_done HE.out hi8 hlt hc0.1 HD.out HU2.out, if_neg (by omega)]
                clear hlt hi9 hi8 hi q1 q2 q3
                go_wp2_with (first | (go_at_call 32; with_reducible refine (need_true _ _).mono ?_; rintro e wq ⟨rfl, rfl⟩) | (go_at_call 32; with_reducible refine (need_false _ _).mono ?_; rintro e wq ⟨rfl, rfl⟩))
                exact ⟨rfl, keep_far' HK.out, HR2.out.below, .inr ⟨HG.out, rfl⟩⟩
            · have g7 : decide (c0 > 0) = true := by simp; omega
              have HG : Hid (get xs = some (U2, cs)) := by
                refine Lib.hid ?_
                rw [num_done HE.out hi8 hlt hc0.1 HD.out HU2.out, if_pos ⟨q1, .inl (by omega)⟩]
              clear hlt hi9 hi8 hi q1 q2
              go_wp2_with (first | (go_at_call 32; with_reducible refine (need_true _ _).mono ?_; rintro e wq ⟨rfl, rfl⟩))
              go_ret
              exact ⟨keep_far' HK.out, HR2.out.below, .inl ⟨U2, cs, HG.out, by simp [g9], HR2.out⟩⟩
          · have g6 : decide (U2 ≤ 4611686018427387904) = false := by simpa using q1
            have HG : Hid (get xs = none) := by
              refine Lib.hid ?_
              rw [num_done HE.out hi8 hlt hc0.1 HD.out HU2.out, if_neg (by omega)]
            clear hlt hi9 hi8 hi q1
            go_wp2_with (first | (go_at_call 32; with_reducible refine (need_true _ _).mono ?_; rintro e wq ⟨rfl, rfl⟩) | (go_at_call 32; with_reducible refine (need_false _ _).mono ?_; rintro e wq ⟨rfl, rfl⟩))
            exact ⟨rfl, keep_far' HK.out, HR2.out.below, .inr ⟨HG.out, rfl⟩⟩
        · have g5 : decide (c0 < 128) = false := by simpa using hlt
          have HE2 : Hid (rdF 9 xs = cont (i + 1) U2 cs) := by
            refine Lib.hid ?_
            rw [HE.out, cont_more hi8 U c0 cs hlt hc0.2 HR2.out.by_, HU2.out, HD.out]
            have e : c0 % 128 = c0 - 128 := by omega
            rw [e]
          go_wp2_with (first | (go_at_call 32; with_reducible refine (need_true _ _).mono ?_; rintro e wq ⟨rfl, rfl⟩))
          go_roundw
          case rel => exact ⟨i + 1, U2, cs, by omega, rfl, by go_num, HJ.out.2.1, Lib.hid HJ.out.2.2.1, HR2, Lib.hid (keep_far' HK.out), HE2⟩
          case measure => simp [iOf]; omega
end Go.Proofs.Ytnognmbapciegaa.Bk
namespace Go.Proofs.Ytnognmbapciegaa.Bk
open Go.RowKit Go.Proofs.YtnognmbapciegaaW.PrintWords Go.Proofs.YtnognmbapciegaaW.PrintLast Go.Proofs.YtnognmbapciegaaW.PrintMore Go.Proofs.Ytnognmbapciegaa.PBk
set_option linter.unusedVariables false
set_option linter.unusedSimpArgs false

/-- It returned v; the Reader stands at r. -/
def Got (w0 w : World) (g : Nat) (v : Value) (r : List Int) (e : Ending) (w' : World) : Prop := e = .returned v ∧ KeepBut w w' g none ∧ Rdr w0 w' g r
def Fell (w0 w : World) (g : Nat) (e : Ending) (w' : World) : Prop := e = .panicked bad ∧ KeepBut w w' g none ∧ Below w0.heap.size w0 w'
theorem num_some {w0 w : World} {g : Nat} {xs : List Int} (h : Rdr w0 w g xs) {n : Int} {r : List Int} (hg : get xs = some (n, r)) : Calls Try.prog 31 #[.pointer (some ⟨g, 0, none⟩)] w (Got w0 w g (.int .i64 n) r) := by
  refine (num_any h).mono ?_
  rintro e w' ⟨hk, hb, h1 | h1⟩
  · obtain ⟨n', r', h2, rfl, h3⟩ := h1
    rw [hg] at h2
    obtain ⟨rfl, rfl⟩ := Prod.mk.inj (Option.some.inj h2)
    exact ⟨rfl, hk, h3⟩
  · rw [hg] at h1
    cases h1.1
theorem num_none {w0 w : World} {g : Nat} {xs : List Int} (h : Rdr w0 w g xs) (hg : get xs = none) : Calls Try.prog 31 #[.pointer (some ⟨g, 0, none⟩)] w (Fell w0 w g) := by
  refine (num_any h).mono ?_
  rintro e w' ⟨hk, hb, h1 | h1⟩
  · obtain ⟨n', r', h2, rfl, h3⟩ := h1
    rw [hg] at h2
    cases h2
  · exact ⟨h1.2, hk, hb⟩
theorem getI_eq {xs : List Int} {n : Int} {r : List Int} (most : Int) (h : get xs = some (n, r)) : getI most xs = if n ≤ most then some (n, r) else none := by unfold getI; rw [h]; rfl
theorem getI_none {xs : List Int} (most : Int) (h : get xs = none) : getI most xs = none := by unfold getI; rw [h]; rfl
theorem int_some {w0 w : World} {g : Nat} {xs : List Int} (h : Rdr w0 w g xs) (most : Int) {n : Int} {r : List Int} (hg : getI most xs = some (n, r)) : Calls Try.prog 28 #[.pointer (some ⟨g, 0, none⟩), .int .i64 most] w (Got w0 w g (.int .i64 n) r) := by
  cases hx : get xs with
  | none => rw [getI_none most hx] at hg; cases hg
  | some q =>
    obtain ⟨m, r'⟩ := q
    rw [getI_eq most hx] at hg
    by_cases hm : m ≤ most
    · rw [if_pos hm] at hg
      obtain ⟨rfl, rfl⟩ := Prod.mk.inj (Option.some.inj hg)
      have g1 : decide (m ≤ most) = true := by simpa using hm
      have HN := Lib.hid (num_some h hx)
      clear hg hm hx
      go_enter Try.func28, Try.ntmps28
      go_wp2_with (first | (go_at_call 31; refine HN.out.mono ?_; rintro e w1 ⟨rfl, hk, hR⟩; (have HK := Lib.hid hk; have HR := Lib.hid hR; clear hk hR)) | (go_at_call 32; with_reducible refine (need_true _ _).mono ?_; rintro e wq ⟨rfl, rfl⟩))
      go_ret
      exact ⟨rfl, HK.out, HR.out⟩
    · rw [if_neg hm] at hg
      cases hg
theorem int_none {w0 w : World} {g : Nat} {xs : List Int} (h : Rdr w0 w g xs) (most : Int) (hg : getI most xs = none) : Calls Try.prog 28 #[.pointer (some ⟨g, 0, none⟩), .int .i64 most] w (Fell w0 w g) := by
  cases hx : get xs with
  | none =>
    have HN := Lib.hid (num_none h hx)
    clear hg hx
    go_enter Try.func28, Try.ntmps28
    go_wp2_with (first | (go_at_call 31; refine HN.out.mono ?_; rintro e w1 ⟨rfl, hk, hR⟩; (have HK := Lib.hid hk; have HR := Lib.hid hR; clear hk hR)))
    exact ⟨rfl, rfl, HK.out, HR.out⟩
  | some q =>
    obtain ⟨m, r'⟩ := q
    rw [getI_eq most hx] at hg
    by_cases hm : m ≤ most
    · rw [if_pos hm] at hg
      cases hg
    · have g1 : decide (m ≤ most) = false := by simpa using hm
      have HN := Lib.hid (num_some h hx)
      clear hg hm hx
      go_enter Try.func28, Try.ntmps28
      go_wp2_with (first | (go_at_call 31; refine HN.out.mono ?_; rintro e w1 ⟨rfl, hk, hR⟩; (have HK := Lib.hid hk; have HR := Lib.hid hR; clear hk hR)) | (go_at_call 32; with_reducible refine (need_false _ _).mono ?_; rintro e wq ⟨rfl, rfl⟩))
      exact ⟨rfl, rfl, HK.out, HR.out.below⟩

/-- A text cut off: what the two cuts and the conversion come to. -/
theorem Rdr.text {w0 w : World} {g : Nat} {xs : List Int} (h : Rdr w0 w g xs) {n : Int} (h0 : 0 ≤ n) (hn : n ≤ (xs.length : Int)) : ∃ (A A' : Option Addr) (c : Nat),
    w.cell? ⟨g, 0, none⟩ = some (.slice A xs.length c) ∧ w.frozen? ⟨g, 0, none⟩ = false ∧
    (∀ W : World, (Instr.slice 28 (.slice A xs.length c) none (some (.int .i64 n)) none).run Try.prog W = .ok (.slice A (min n.toNat xs.length) c) W) ∧
    ((convert 28 9 (.slice A (min n.toNat xs.length) c)).run Try.prog w = .ok (.string (strOfNums (xs.take n.toNat))) w) ∧
    (∀ W : World, (Instr.slice 28 (.slice A xs.length c) (some (.int .i64 n)) none none).run Try.prog W = .ok (.slice A' (xs.length - n.toNat) (c - n.toNat)) W) ∧
    Rdr w0 (w.setCell ⟨g, 0, none⟩ (.slice A' (xs.length - n.toNat) (c - n.toNat))) g (xs.drop n.toNat) := by
  have h' := h
  obtain ⟨hb, hnew, hy0, A, c, hc, hl0, hC0⟩ := h
  have hr := Kd.reads_of_C (enc := Value.int .u8) (d := (0 : Int)) (h1 := fun _ => rfl) hC0
  obtain ⟨i05, hi05, _, hsz5, _⟩ := info_parts info5
  obtain ⟨A', hrun, hreads, hlen⟩ := print_drop_of (P := Try.prog) (Value.int .u8) (0 : Int) 28 5 .i64 Try.underlying28 hi05 hsz5 A c xs n h0 hn hl0
  obtain ⟨hrun2, hreads2, hlen2⟩ := print_take_of (P := Try.prog) (Value.int .u8) (0 : Int) 28 5 .i64 Try.underlying28 hi05 hsz5 A c xs n h0 hn hl0
  refine ⟨A, A', c, blk_cell hc 0, blk_frozen hc 0, fun W => by rw [← List.length_take]; exact hrun2 W, ?_, fun W => by rw [← List.length_drop]; exact hrun W, ?_⟩
  · have hC2 : Kd.C (Kd.int .u8) w A (xs.take n.toNat).length (xs.take n.toNat) := Kd.C_below (Kd.C_of_reads (h1 := fun _ => rfl) (hreads2 w0 hr)) hb
    rw [← List.length_take]
    exact Kd.C_string Try.underlying28 Try.underlying5 Try.underlying9 hC2
  · rw [← List.length_drop]
    exact Rdr.set (ys := xs.drop n.toNat) h' (A' := A') (c' := c - n.toNat) (Kd.C_of_reads (h1 := fun _ => rfl) (hreads w0 hr)) hlen (hy0.drop _)
theorem getT_eq {xs : List Int} {n : Int} {r : List Int} {most : Int} (h : getI most xs = some (n, r)) : getT most xs = if n ≤ (r.length : Int) then some (strOfNums (r.take n.toNat), r.drop n.toNat) else none := by unfold getT; rw [h]; rfl
theorem getT_none {xs : List Int} {most : Int} (h : getI most xs = none) : getT most xs = none := by unfold getT; rw [h]; rfl
set_option maxHeartbeats 1000000 in
theorem text_some {w0 w : World} {g : Nat} {xs : List Int} (h : Rdr w0 w g xs) (most : Int) {s : ByteArray} {r : List Int} (hg : getT most xs = some (s, r)) : Calls Try.prog 30 #[.pointer (some ⟨g, 0, none⟩), .int .i64 most] w (Got w0 w g (.string s) r) := by
  cases hx : getI most xs with
  | none => rw [getT_none hx] at hg; cases hg
  | some q =>
    obtain ⟨m, r'⟩ := q
    rw [getT_eq hx] at hg
    by_cases hm : m ≤ (r'.length : Int)
    · rw [if_pos hm] at hg
      obtain ⟨rfl, rfl⟩ := Prod.mk.inj (Option.some.inj hg)
      have g1 : decide (m ≤ (r'.length : Int)) = true := by simpa using hm
      have hm0 := (getI_inv h.by_ hx).2.1
      have HN := Lib.hid (int_some h most hx)
      have HM := Lib.hid hm
      have HM0 := Lib.hid hm0
      clear hg hx hm hm0
      go_enter Try.func30, Try.ntmps30
      go_wp2_with (first | (go_at_call 28; refine HN.out.mono ?_; rintro e w1 ⟨rfl, hk, hR⟩; (obtain ⟨A, A', c, f0, f1, f2, f3, f4, hR2⟩ := hR.text HM0.out HM.out); (have HK := Lib.hid hk; have HR := Lib.hid hR2; clear hk hR hR2)) | (go_at_call 32; with_reducible refine (need_true _ _).mono ?_; rintro e wq ⟨rfl, rfl⟩))
      go_ret
      exact ⟨rfl, keep_far' HK.out, HR.out⟩
    · rw [if_neg hm] at hg
      cases hg
set_option maxHeartbeats 1000000 in
theorem text_none {w0 w : World} {g : Nat} {xs : List Int} (h : Rdr w0 w g xs) (most : Int) (hg : getT most xs = none) : Calls Try.prog 30 #[.pointer (some ⟨g, 0, none⟩), .int .i64 most] w (Fell w0 w g) := by
  cases hx : getI most xs with
  | none =>
    have HN := Lib.hid (int_none h most hx)
    clear hg hx
    go_enter Try.func30, Try.ntmps30
    go_wp2_with (first | (go_at_call 28; refine HN.out.mono ?_; rintro e w1 ⟨rfl, hk, hR⟩; (have HK := Lib.hid hk; have HR := Lib.hid hR; clear hk hR)))
    exact ⟨rfl, rfl, HK.out, HR.out⟩
  | some q =>
    obtain ⟨m, r'⟩ := q
    rw [getT_eq hx] at hg
    by_cases hm : m ≤ (r'.length : Int)
    · rw [if_pos hm] at hg
      cases hg
    · have g1 : decide (m ≤ (r'.length : Int)) = false := by simpa using hm
      have HN := Lib.hid (int_some h most hx)
      clear hg hx hm
      go_enter Try.func30, Try.ntmps30
      go_wp2_with (first | (go_at_call 28; refine HN.out.mono ?_; rintro e w1 ⟨rfl, hk, hR⟩; (obtain ⟨A, c, hcg, _, _⟩ := hR.cell); have f0 := blk_cell hcg 0; (try simp only [List.getElem?_toArray, List.getElem?_cons_zero] at f0); (have HK := Lib.hid hk; have HR := Lib.hid hR; clear hk hR hcg)) | (go_at_call 32; with_reducible refine (need_false _ _).mono ?_; rintro e wq ⟨rfl, rfl⟩))
      exact ⟨rfl, rfl, HK.out, HR.out.below⟩
end Go.Proofs.Ytnognmbapciegaa.Bk
namespace Go.Proofs.Ytnognmbapciegaa.Bk
open Go.RowKit Go.Proofs.YtnognmbapciegaaW.PrintWords Go.Proofs.YtnognmbapciegaaW.PrintLast Go.Proofs.YtnognmbapciegaaW.PrintMore Go.Proofs.Ytnognmbapciegaa.PBk
set_option linter.unusedVariables false
set_option linter.unusedSimpArgs false

theorem caught_idle (p : Addr) (w : World) :
    CallsD Try.prog 48 #[.pointer (some p)] .returning w fun e u' w' => e = .returned (.tuple #[]) ∧ u' = .returning ∧ w' = w := by
  refine callsD_of_wpS Try.func48 rfl fun c₀ cs hu => ?_
  apply wpS_seq
  apply wpS_region
  simp [wpOpsS, go_sem, recoverD, hu, Try.ntmps48, Exit.thenS]
  refine wpS_of_wp ?_
  simp only [Array.replicate, List.replicate]
  go_wp2
  cases c₀
  simp_all [bodyPostS, results, Try.results48]
theorem caught_bad (p : Addr) (w : World) (x : Int) (hc : w.cell? p = some (.int .i64 x)) (hz : w.frozen? p = false) :
    CallsD Try.prog 48 #[.pointer (some p)] (.panicking bad) w fun e u' w' => e = .returned (.tuple #[]) ∧ u' = .panicking [{ v := .iface 78 (.agg #[]), recovered := true }] ∧ w' = (w.alloc (.cells #[] 78)).setCell p (.int .i64 80) := by
  have hta : ∀ w : World, (Instr.typeAssert (.iface 78 (.agg #[])) 20 78 true).run Try.prog w = .ok (.tuple #[.agg #[], .bool true]) w := fun w => by kernel_rfl
  have hlt := World.block_lt_of_cell? w p hc
  have hbl := (Below.refl w.heap.size w).alloc (Nat.le_refl _) (.cells #[] 78)
  have hc1 := (hbl.cell hlt).trans hc
  have hz1 := (hbl.frozen hlt).trans hz
  clear hbl hlt hc hz
  refine callsD_of_wpS Try.func48 rfl fun c₀ cs hu => ?_
  apply wpS_seq
  apply wpS_region
  simp [wpOpsS, go_sem, recoverD, hu, bad, Try.ntmps48, Exit.thenS]
  refine wpS_of_wp ?_
  simp only [Array.replicate, List.replicate]
  go_wp2
  simp [bodyPostS, results, Try.results48]
end Go.Proofs.Ytnognmbapciegaa.Bk
namespace Go.Proofs.Ytnognmbapciegaa.Bk
open Go.RowKit Go.Proofs.YtnognmbapciegaaW.PrintWords Go.Proofs.YtnognmbapciegaaW.PrintLast Go.Proofs.YtnognmbapciegaaW.PrintMore Go.Proofs.Ytnognmbapciegaa.PBk
set_option linter.unusedVariables false
set_option linter.unusedSimpArgs false

/-- Block ge holds the entry; its rows are new. -/
def EntAt (w : World) (B ge : Nat) (en : Ent) : Prop := ∃ v1 v2 : Value, w.heap[ge]? = some (.cells #[.int .i64 en.g, v1, v2] 25 (0, 0)) ∧ Kd.R k42 42 w B (fun _ => True) v1 en.rs ∧ Kd.R (Kd.slice 44 k44) 46 w B (fun _ => True) v2 en.ts
/-- All but blocks g and ge is as it was. -/
def Kept2 (w w' : World) (g ge : Nat) : Prop := w.heap.size ≤ w'.heap.size ∧ ∀ i, i < w.heap.size → i ≠ g → i ≠ ge → w'.heap[i]? = w.heap[i]?
/-- What the closure comes to. -/
def UnPost (w0 w : World) (g ge : Nat) (xs : List Int) (e : Ending) (w' : World) : Prop :=
  Below w0.heap.size w0 w' ∧ Kept2 w w' g ge ∧
  ((∃ en r, getAll xs = some (en, r) ∧ rightE en = true ∧ e = .returned (.tuple #[]) ∧ Rdr w0 w' g r ∧ EntAt w' w.heap.size ge en) ∨ (e = .panicked bad ∧ ∀ en r, getAll xs = some (en, r) → rightE en = false))

theorem EntAt.lower {w : World} {B B' ge : Nat} {en : Ent} (h : EntAt w B ge en) (hb : B' ≤ B) : EntAt w B' ge en := by
  obtain ⟨v1, v2, h1, h2, h3⟩ := h
  exact ⟨v1, v2, h1, Kd.R_lower h2 hb, Kd.R_lower h3 hb⟩
/-- Another block (not ge, and below the rows) is written. -/
theorem EntAt.far {w : World} {B ge : Nat} {en : Ent} (h : EntAt w B ge en) {p : Addr} (hp : p.block < B) (hne : p.block ≠ ge) (u : Value) : EntAt (w.setCell p u) B ge en := by
  obtain ⟨v1, v2, h1, h2, h3⟩ := h
  refine ⟨v1, v2, (Below.heap_setCell w p u ge (fun h => hne h.symm)).trans h1, ?_, ?_⟩
  · exact Kd.R_mono (Kd.R_far (Kd.R_bound h2) (fun k hk => by have := hk.2.1; omega) u) (fun _ _ => trivial)
  · exact Kd.R_mono (Kd.R_far (Kd.R_bound h3) (fun k hk => by have := hk.2.1; omega) u) (fun _ _ => trivial)
theorem EntAt.alloc {w : World} {B ge : Nat} {en : Ent} (h : EntAt w B ge en) (o : Obj) : EntAt (w.alloc o) B ge en := by
  obtain ⟨v1, v2, h1, h2, h3⟩ := h
  exact ⟨v1, v2, blk_alloc h1 o, Kd.R_alloc h2 o, Kd.R_alloc h3 o⟩
theorem al_size (w : World) (o : Obj) : (w.alloc o).heap.size = w.heap.size + 1 := World.size_alloc ..
theorem kept2_keep {w wi w2 : World} {g ge : Nat} {p : Addr} {u : Value} (h : Kept2 wi w2 g ge) (hb : Below w.heap.size w wi) (hg : w.heap.size ≤ g) (hp : w.heap.size ≤ p.block := by simp) : KeepBut w (w2.setCell p u) ge none :=
  keep_far ⟨Nat.le_trans hb.size h.1, fun i hi hn _ => (h.2 i (Nat.lt_of_lt_of_le hi hb.size) (by omega) hn).trans (hb.block i hi)⟩ hp u
/-- The world in which the closure is called. -/
def inW (w : World) (A : Option Addr) (n c : Nat) : World := (w.alloc (.cells #[.int .i64 0] 29)).alloc (.cells #[.slice A n c] 80)
theorem inW_size (w : World) (A : Option Addr) (n c : Nat) : (inW w A n c).heap.size = w.heap.size + 2 := by simp only [inW, al_size]
theorem inW_below (w : World) (A : Option Addr) (n c : Nat) : Below w.heap.size w (inW w A n c) := ((Below.refl w.heap.size w).alloc (Nat.le_refl _) _).alloc (by rw [al_size]; omega) _
theorem inW_code (w : World) (A : Option Addr) (n c : Nat) : (inW w A n c).heap[w.heap.size]? = some (.cells #[.int .i64 0] 29 (0, 0)) := blk_alloc (blk_new w _) _
theorem inW_rdr {w0 w : World} {xs : List Int} {A : Option Addr} {c : Nat} (hb : Below w0.heap.size w0 w) (hl : xs.length ≤ c) (hC : Kd.C (Kd.int .u8) w0 A xs.length xs) (hy : By xs) : Rdr w0 (inW w A xs.length c) (w.heap.size + 1) xs := by
  have hs := hb.size
  refine ⟨hb.trans ((inW_below w A xs.length c).mono hs), by omega, hy, A, c, ?_, hl, hC⟩
  have := blk_new (w.alloc (.cells #[.int .i64 0] 29)) (.cells #[.slice A xs.length c] 80)
  have e : (w.alloc (.cells #[.int .i64 0] 29)).heap.size = w.heap.size + 1 := al_size _ _
  rw [e] at this
  exact this

set_option maxHeartbeats 2000000 in
set_option maxRecDepth 100000 in
theorem read_some {w0 w : World} {ge : Nat} {xs : List Int} {A : Option Addr} {c : Nat} (hb : Below w0.heap.size w0 w) (hge0 : w0.heap.size ≤ ge) (hge : ge < w.heap.size) (hl : xs.length ≤ c) (hC : Kd.C (Kd.int .u8) w0 A xs.length xs) (hy : By xs)
    (F : ∀ (w1 : World) (g : Nat), Rdr w0 w1 g xs → Below w.heap.size w w1 → w.heap.size ≤ g → g < w1.heap.size → Calls Try.prog 27 #[.pointer (some ⟨g, 0, none⟩), .pointer (some ⟨ge, 0, none⟩)] w1 (UnPost w0 w1 g ge xs))
    {en : Ent} (hu : unpack xs = some en) :
    Calls Try.prog 26 #[.slice A xs.length c, .func (.func 27) #[] #[.pointer (some ⟨ge, 0, none⟩)]] w fun e w' => e = .returned (.int .i64 0) ∧ KeepBut w w' ge none ∧ Below w0.heap.size w0 w' ∧ EntAt w' w.heap.size ge en := by
  have hmf : ∀ (fn : Fn) (first cap : Array Value) (w : World), (Instr.makeFunc fn first cap).run Try.prog w = .ok (.func fn first cap) w := fun _ _ _ _ => rfl
  have hs := hb.size
  have hsz := inW_size w A xs.length c
  have F1 := F (inW w A xs.length c) (w.heap.size + 1) (inW_rdr hb hl hC hy) (inW_below w A xs.length c) (by omega) (by omega)
  have hua : getAll xs = some (en, []) ∧ rightE en = true := by
    unfold unpack at hu
    obtain ⟨⟨en', r'⟩, h1, h2⟩ := Option.bind_eq_some_iff.mp hu
    by_cases h3 : (r'.isEmpty && rightE en') = true
    · simp only [h3, if_true, Option.some.injEq] at h2
      subst h2
      rw [Bool.and_eq_true] at h3
      have : r' = [] := by simpa using h3.1
      subst this
      exact ⟨h1, h3.2⟩
    · simp [h3] at h2
  have F2 := F1.mono (R' := fun e w2 => e = .returned (.tuple #[]) ∧ Below w0.heap.size w0 w2 ∧ Kept2 (inW w A xs.length c) w2 (w.heap.size + 1) ge ∧ Rdr w0 w2 (w.heap.size + 1) [] ∧ EntAt w2 (w.heap.size + 2) ge en) (by
    rintro e w2 ⟨h1, h2, h3 | h3⟩
    · obtain ⟨en', r', h4, h5, h6, h7, h8⟩ := h3
      rw [hua.1] at h4
      obtain ⟨rfl, rfl⟩ := Prod.mk.inj (Option.some.inj h4)
      rw [hsz] at h8
      exact ⟨h6, h1, h2, h7, h8⟩
    · have := h3.2 en [] hua.1
      rw [hua.2] at this
      cases this)
  have HF := Lib.hid F2
  clear F1 F2 F
  have HS := Lib.hid hs
  clear hua hu hC hy
  go_enter_defers Try.func26, Try.ntmps26
  go_wp2_with (first
    | (go_at_call 27; refine HF.out.mono ?_; rintro e w2 ⟨rfl, hb2, hk2, hR2, hE2⟩; (obtain ⟨A2, c2, hcg2, _, _⟩ := hR2.cell); have f0 := blk_cell hcg2 0; have fc := (hk2.2 w.heap.size (by rw [hsz]; omega) (by omega) (by omega)).trans (inW_code w A xs.length c); have f1 := blk_cell fc 0; have f2 := blk_frozen fc 0; (simp only [List.getElem?_toArray, List.getElem?_cons_zero, List.length_nil] at f0 f1); (have HB2 := Lib.hid hb2; have HK2 := Lib.hid hk2; have HE2 := Lib.hid hE2; clear hb2 hk2 hR2 hE2 hcg2 fc))
    | (go_at_call 32; with_reducible refine (need_true _ _).mono ?_; rintro e wq ⟨rfl, rfl⟩))
  refine leaves_cons (f := 48) (args := #[.pointer (some ⟨w.heap.size, 0, none⟩)]) (by simp) (by simp [go_sem]) ?_
  refine (caught_idle ⟨w.heap.size, 0, none⟩ _).mono ?_
  rintro e u' w'' ⟨rfl, rfl, rfl⟩
  have hkb : KeepBut w (wq.setCell ⟨w.heap.size, 0, none⟩ (.int .i64 0)) ge none := kept2_keep HK2.out (inW_below w A xs.length c) (by omega)
  have hcc : (wq.setCell ⟨w.heap.size, 0, none⟩ (.int .i64 0)).cell? ⟨w.heap.size, 0, none⟩ = some (.int .i64 0) := World.cell?_setCell_same _ _ _ f1
  have hbb := HB2.out.setCell (p := ⟨w.heap.size, 0, none⟩) HS.out (.int .i64 0)
  have hee := ((HE2.out).far (p := ⟨w.heap.size, 0, none⟩) (by show w.heap.size < _; omega) (by show w.heap.size ≠ ge; omega) (.int .i64 0)).lower (B' := w.heap.size) (by omega)
  simp [Leaves, settle, results, Try.results26, go_sem, hcc]
  exact ⟨hkb, hbb, hee⟩

theorem unpack_none {xs : List Int} {en : Ent} {r : List Int} (hu : unpack xs = none) (h : getAll xs = some (en, r)) (hr : rightE en = true) : r ≠ [] := by
  rintro rfl
  unfold unpack at hu
  rw [h] at hu
  simp [hr] at hu
theorem kept2_keep2 {w wi w2 : World} {g ge : Nat} {p : Addr} {u : Value} {o : Obj} (h : Kept2 wi w2 g ge) (hb : Below w.heap.size w wi) (hg : w.heap.size ≤ g) (hp : w.heap.size ≤ p.block := by simp) : KeepBut w ((w2.alloc o).setCell p u) ge none :=
  keep_far (keep_alloc (⟨Nat.le_trans hb.size h.1, fun i hi hn _ => (h.2 i (Nat.lt_of_lt_of_le hi hb.size) (by omega) hn).trans (hb.block i hi)⟩) o) hp u

set_option maxHeartbeats 2000000 in
set_option maxRecDepth 100000 in
theorem read_none {w0 w : World} {ge : Nat} {xs : List Int} {A : Option Addr} {c : Nat} (hb : Below w0.heap.size w0 w) (hge0 : w0.heap.size ≤ ge) (hge : ge < w.heap.size) (hl : xs.length ≤ c) (hC : Kd.C (Kd.int .u8) w0 A xs.length xs) (hy : By xs)
    (F : ∀ (w1 : World) (g : Nat), Rdr w0 w1 g xs → Below w.heap.size w w1 → w.heap.size ≤ g → g < w1.heap.size → Calls Try.prog 27 #[.pointer (some ⟨g, 0, none⟩), .pointer (some ⟨ge, 0, none⟩)] w1 (UnPost w0 w1 g ge xs))
    (hu : unpack xs = none) :
    Calls Try.prog 26 #[.slice A xs.length c, .func (.func 27) #[] #[.pointer (some ⟨ge, 0, none⟩)]] w fun e w' => e = .returned (.int .i64 80) ∧ KeepBut w w' ge none ∧ Below w0.heap.size w0 w' := by
  have hmf : ∀ (fn : Fn) (first cap : Array Value) (w : World), (Instr.makeFunc fn first cap).run Try.prog w = .ok (.func fn first cap) w := fun _ _ _ _ => rfl
  have hs := hb.size
  have hsz := inW_size w A xs.length c
  have F1 := F (inW w A xs.length c) (w.heap.size + 1) (inW_rdr hb hl hC hy) (inW_below w A xs.length c) (by omega) (by omega)
  have fin : ∀ wq : World, Below w0.heap.size w0 wq → Kept2 (inW w A xs.length c) wq (w.heap.size + 1) ge → wq.cell? ⟨w.heap.size, 0, none⟩ = some (.int .i64 0) →
      KeepBut w ((wq.alloc (.cells #[] 78)).setCell ⟨w.heap.size, 0, none⟩ (.int .i64 80)) ge none ∧ Below w0.heap.size w0 ((wq.alloc (.cells #[] 78)).setCell ⟨w.heap.size, 0, none⟩ (.int .i64 80)) ∧ ((wq.alloc (.cells #[] 78)).setCell ⟨w.heap.size, 0, none⟩ (.int .i64 80)).cell? ⟨w.heap.size, 0, none⟩ = some (.int .i64 80) := by
    intro wq h1 h2 h3
    refine ⟨kept2_keep2 h2 (inW_below w A xs.length c) (by omega), (h1.alloc h1.size _).setCell (p := ⟨w.heap.size, 0, none⟩) hs _, World.cell?_setCell_same _ _ _ ((((Below.refl wq.heap.size wq).alloc (Nat.le_refl _) (.cells #[] 78)).cell (World.block_lt_of_cell? wq _ h3)).trans h3)⟩
  have HFin := Lib.hid fin
  have F2 := F1.mono (R' := fun e w2 => Below w0.heap.size w0 w2 ∧ Kept2 (inW w A xs.length c) w2 (w.heap.size + 1) ge ∧ ((e = .panicked bad) ∨ (e = .returned (.tuple #[]) ∧ ∃ A2 c2 n, w2.cell? ⟨w.heap.size + 1, 0, none⟩ = some (.slice A2 (n + 1) c2)))) (by
    rintro e w2 ⟨h1, h2, h3 | h3⟩
    · obtain ⟨en', r', h4, h5, h6, h7, h8⟩ := h3
      have hr := unpack_none hu h4 h5
      obtain ⟨A2, c2, hcg, _, _⟩ := h7.cell
      obtain ⟨x, r2, rfl⟩ := List.exists_cons_of_ne_nil hr
      exact ⟨h1, h2, .inr ⟨h6, A2, c2, r2.length, blk_cell hcg 0⟩⟩
    · exact ⟨h1, h2, .inl h3.1⟩)
  have HF := Lib.hid F2
  clear F1 F2 F fin
  have HS := Lib.hid hs
  clear hu hC hy
  go_enter_defers Try.func26, Try.ntmps26
  go_wp2_with (first
    | (go_at_call 27; refine HF.out.mono ?_; rintro e w2 ⟨hb2, hk2, hor⟩; have fc := (hk2.2 w.heap.size (by rw [hsz]; omega) (by omega) (by omega)).trans (inW_code w A xs.length c); have f1 := blk_cell fc 0; have f2 := blk_frozen fc 0; (simp only [List.getElem?_toArray, List.getElem?_cons_zero, List.length_nil] at f1); (have HB2 := Lib.hid hb2; have HK2 := Lib.hid hk2; clear hb2 hk2 fc); rcases hor with rfl | ⟨rfl, A2, c2, n2, f0⟩)
    | (go_at_call 32; (have g0 : ((n2 + 1 : Int) == 0) = false := by simp; omega); (try simp only [g0]); with_reducible refine (need_false _ _).mono ?_; rintro e wq ⟨rfl, rfl⟩))
  all_goals
    refine leaves_cons (f := 48) (args := #[.pointer (some ⟨w.heap.size, 0, none⟩)]) (by simp) (by simp [go_sem]) ?_
    refine (caught_bad ⟨w.heap.size, 0, none⟩ _ 0 f1 f2).mono ?_
    rintro e u' w'' ⟨rfl, rfl, rfl⟩
    obtain ⟨q1, q2, q3⟩ := HFin.out _ HB2.out HK2.out f1
    simp [Leaves, settle, results, Try.results26, go_sem, q3]
    exact ⟨q1, q2⟩
end Go.Proofs.Ytnognmbapciegaa.Bk
namespace Go.Proofs.Ytnognmbapciegaa.Bk
open Go.RowKit Go.Proofs.YtnognmbapciegaaW.PrintWords Go.Proofs.YtnognmbapciegaaW.PrintLast Go.Proofs.YtnognmbapciegaaW.PrintMore Go.Proofs.Ytnognmbapciegaa.PBk
set_option linter.unusedVariables false
set_option linter.unusedSimpArgs false

/-- What is told of the closure. -/
def Body : Prop := ∀ {w0 w : World} {g ge : Nat} {xs : List Int}, Rdr w0 w g xs → w.heap[ge]? = some (.cells #[.int .i64 0, .slice none 0 0, .slice none 0 0] 25 (0, 0)) → g < w.heap.size → g ≠ ge → w0.heap.size ≤ ge → xs.length ≤ 1099511627776 →
  Calls Try.prog 27 #[.pointer (some ⟨g, 0, none⟩), .pointer (some ⟨ge, 0, none⟩)] w (UnPost w0 w g ge xs)

def zEnt : Array Value := #[.int .i64 0, .slice none 0 0, .slice none 0 0]
def inU (w : World) : World := (w.alloc (.cells zEnt 25)).alloc (.cells zEnt 25)

theorem inU_size (w : World) : (inU w).heap.size = w.heap.size + 2 := by simp only [inU, al_size]
theorem inU_below (w : World) : Below w.heap.size w (inU w) := ((Below.refl w.heap.size w).alloc (Nat.le_refl _) _).alloc (by rw [al_size]; omega) _
theorem inU_res (w : World) : (inU w).heap[w.heap.size]? = some (.cells zEnt 25 (0, 0)) := blk_alloc (blk_new w _) _
theorem inU_ent (w : World) : (inU w).heap[w.heap.size + 1]? = some (.cells zEnt 25 (0, 0)) := by
  have := blk_new (w.alloc (.cells zEnt 25)) (.cells zEnt 25)
  rw [al_size] at this
  exact this
theorem info25 : (Try.prog.info? 25).map (·.size) = some 3 := by kernel_rfl
theorem body_at (F : Body) (w : World) {xs : List Int} (hx : xs.length ≤ 1099511627776) : ∀ (w1 : World) (g : Nat), Rdr w w1 g xs → Below (inU w).heap.size (inU w) w1 → (inU w).heap.size ≤ g → g < w1.heap.size → Calls Try.prog 27 #[.pointer (some ⟨g, 0, none⟩), .pointer (some ⟨w.heap.size + 1, 0, none⟩)] w1 (UnPost w w1 g (w.heap.size + 1) xs) := by
  intro w1 g hR hb hg hlt
  have hsz := inU_size w
  exact F hR ((hb.block (w.heap.size + 1) (by omega)).trans (inU_ent w)) hlt (by omega) (by omega) hx

theorem rfar {α : Type} {d : Kd α} {e : Nat} {w : World} {B g j : Nat} {v u : Value} {l : List α} (h : d.R e w B (fun _ => True) v l) (hg : g < B) : d.R e (w.setCell ⟨g, j, none⟩ u) B (fun _ => True) v l :=
  Kd.R_mono (Kd.R_far (p := ⟨g, j, none⟩) (Kd.R_bound h) (fun k hk => by have := hk.2.1; show k ≠ g; omega) u) (fun _ _ => trivial)

set_option maxHeartbeats 2000000 in
set_option maxRecDepth 100000 in
theorem unpack_some (F : Body) {w : World} {xs : List Int} {A : Option Addr} {c : Nat} (hl : xs.length ≤ c) (hC : Kd.C (Kd.int .u8) w A xs.length xs) (hy : By xs) (hx : xs.length ≤ 1099511627776) {en : Ent} (hu : unpack xs = some en) :
    Calls Try.prog 11 #[.slice A xs.length c] w fun e w' => ∃ v1 v2, e = .returned (.tuple #[.agg #[.int .i64 en.g, v1, v2], .int .i64 0]) ∧ Below w.heap.size w w' ∧ Kd.R k42 42 w' w.heap.size (fun _ => True) v1 en.rs ∧ Kd.R (Kd.slice 44 k44) 46 w' w.heap.size (fun _ => True) v2 en.ts := by
  have hmf : ∀ (fn : Fn) (first cap : Array Value) (w : World), (Instr.makeFunc fn first cap).run Try.prog w = .ok (.func fn first cap) w := fun _ _ _ _ => rfl
  have hsz := inU_size w
  have HF := Lib.hid (read_some (w0 := w) (w := inU w) (ge := w.heap.size + 1) (inU_below w) (by omega) (by omega) hl hC hy (body_at F w hx) hu)
  go_enter Try.func11, Try.ntmps11
  go_wp2_with (first
    | (go_at_call 26; refine HF.out.mono ?_; rintro e w3 ⟨rfl, hk, hb, ⟨v1, v2, he, hr1, hr2⟩⟩; (obtain ⟨A1, c1, rfl⟩ := Kd.R_slice hr1; obtain ⟨A2, c2, rfl⟩ := Kd.R_slice hr2); have fr := (hk.2 w.heap.size (by omega) (by omega) (by simp)).trans (inU_res w); have f0 := blk_cell he 0; have f1 := blk_cell he 1; have f2 := blk_cell he 2; (simp only [List.getElem?_toArray, List.getElem?_cons_zero, List.getElem?_cons_succ] at f0 f1 f2); have e0 := blk_cell fr 0; have e1 := blk_cell fr 1; have e2 := blk_cell fr 2; (simp only [zEnt, List.getElem?_toArray, List.getElem?_cons_zero, List.getElem?_cons_succ] at e0 e1 e2); have e3 := blk_frozen fr 0; have e4 := blk_frozen fr 1; have e5 := blk_frozen fr 2; (have HB := Lib.hid hb; have H1 := Lib.hid hr1; have H2 := Lib.hid hr2; have HE := Lib.hid he; have HR := Lib.hid fr; clear hb hr1 hr2 he fr hk)))
  have hg : (((w3.setCell ⟨w.heap.size, 0, none⟩ (.int .i64 en.g)).setCell ⟨w.heap.size, 1, none⟩ (.slice A1 en.rs.length c1)).setCell ⟨w.heap.size, 2, none⟩ (.slice A2 en.ts.length c2)).heap[w.heap.size]? = some (.cells #[.int .i64 en.g, .slice A1 en.rs.length c1, .slice A2 en.ts.length c2] 25 (0, 0)) := blk_set (blk_set (blk_set HR.out 0 _) 1 _) 2 _
  refine bodyPost_ret (results_ct (p := 2) (u := 3) rfl _ _ w.heap.size 25 _ (0, 0) _ rfl hg Try.underlying25 rfl info25) rfl ?_
  have hle : w.heap.size < (inU w).heap.size := by omega
  refine ⟨_, _, rfl, ?_, ?_, ?_⟩
  · exact ((HB.out.setCell (p := ⟨w.heap.size, 0, none⟩) (Nat.le_refl _) _).setCell (p := ⟨w.heap.size, 1, none⟩) (Nat.le_refl _) _).setCell (p := ⟨w.heap.size, 2, none⟩) (Nat.le_refl _) _
  · exact Kd.R_lower (rfar (rfar (rfar H1.out hle) hle) hle) (Nat.le_of_lt hle)
  · exact Kd.R_lower (rfar (rfar (rfar H2.out hle) hle) hle) (Nat.le_of_lt hle)

set_option maxHeartbeats 2000000 in
set_option maxRecDepth 100000 in
theorem unpack_none' (F : Body) {w : World} {xs : List Int} {A : Option Addr} {c : Nat} (hl : xs.length ≤ c) (hC : Kd.C (Kd.int .u8) w A xs.length xs) (hy : By xs) (hx : xs.length ≤ 1099511627776) (hu : unpack xs = none) :
    Calls Try.prog 11 #[.slice A xs.length c] w fun e w' => e = .returned (.tuple #[.agg #[.int .i64 0, .slice none 0 0, .slice none 0 0], .int .i64 80]) ∧ Below w.heap.size w w' := by
  have hmf : ∀ (fn : Fn) (first cap : Array Value) (w : World), (Instr.makeFunc fn first cap).run Try.prog w = .ok (.func fn first cap) w := fun _ _ _ _ => rfl
  have hsz := inU_size w
  have HF := Lib.hid (read_none (w0 := w) (w := inU w) (ge := w.heap.size + 1) (inU_below w) (by omega) (by omega) hl hC hy (body_at F w hx) hu)
  go_enter Try.func11, Try.ntmps11
  go_wp2_with (first
    | (go_at_call 26; refine HF.out.mono ?_; rintro e w3 ⟨rfl, hk, hb⟩; have fr := (hk.2 w.heap.size (by omega) (by omega) (by simp)).trans (inU_res w); have e0 := blk_cell fr 0; have e1 := blk_cell fr 1; have e2 := blk_cell fr 2; (simp only [zEnt, List.getElem?_toArray, List.getElem?_cons_zero, List.getElem?_cons_succ] at e0 e1 e2); have e3 := blk_frozen fr 0; have e4 := blk_frozen fr 1; have e5 := blk_frozen fr 2; (have HB := Lib.hid hb; have HR := Lib.hid fr; clear hb fr hk)))
  have hg : (((w3.setCell ⟨w.heap.size, 0, none⟩ (.int .i64 0)).setCell ⟨w.heap.size, 1, none⟩ (.slice none 0 0)).setCell ⟨w.heap.size, 2, none⟩ (.slice none 0 0)).heap[w.heap.size]? = some (.cells #[.int .i64 0, .slice none 0 0, .slice none 0 0] 25 (0, 0)) := blk_set (blk_set (blk_set HR.out 0 _) 1 _) 2 _
  refine bodyPost_ret (results_ct (p := 2) (u := 3) rfl _ _ w.heap.size 25 _ (0, 0) _ rfl hg Try.underlying25 rfl info25) rfl ?_
  exact ⟨rfl, ((HB.out.setCell (p := ⟨w.heap.size, 0, none⟩) (Nat.le_refl _) _).setCell (p := ⟨w.heap.size, 1, none⟩) (Nat.le_refl _) _).setCell (p := ⟨w.heap.size, 2, none⟩) (Nat.le_refl _) _⟩
end Go.Proofs.Ytnognmbapciegaa.Bk
namespace Go.Proofs.Ytnognmbapciegaa.Bk
open Go.RowKit Go.Proofs.YtnognmbapciegaaW.PrintWords Go.Proofs.YtnognmbapciegaaW.PrintLast Go.Proofs.YtnognmbapciegaaW.PrintMore Go.Proofs.Ytnognmbapciegaa.PBk
set_option linter.unusedVariables false
set_option linter.unusedSimpArgs false

/-- What is told of book.Right. -/
def RightC : Prop := ∀ (w : World) (en : Ent) (A1 A2 : Option Addr) (c1 c2 : Nat), Kd.C k42 w A1 en.rs.length en.rs → Kd.C (Kd.slice 44 k44) w A2 en.ts.length en.ts → en.rs.length ≤ c1 → en.ts.length ≤ c2 → en.rs.length ≤ 140737488355328 → (∀ t, t ∈ en.ts → t.length ≤ 140737488355328) →
  Calls Try.prog 10 #[.agg #[.int .i64 en.g, .slice A1 en.rs.length c1, .slice A2 en.ts.length c2]] w fun e w' => e = .returned (.bool (rightE en)) ∧ Below w.heap.size w w'

theorem Rdr.move {w0 w w1 : World} {g B : Nat} {xs : List Int} (h : Rdr w0 w g xs) (hb : Below B w w1) (hg : g < B) : Rdr w0 w1 g xs := by
  obtain ⟨h1, h2, h3, A, c, h4, h5, h6⟩ := h
  exact ⟨h1.trans (hb.mono (by omega)), h2, h3, A, c, (hb.block g hg).trans h4, h5, h6⟩
theorem Rdr.alloc {w0 w : World} {g : Nat} {xs : List Int} (h : Rdr w0 w g xs) (o : Obj) : Rdr w0 (w.alloc o) g xs := by
  obtain ⟨h1, h2, h3, A, c, h4, h5, h6⟩ := h
  exact ⟨h1.alloc h1.size o, h2, h3, A, c, blk_alloc h4 o, h5, h6⟩
theorem Rdr.far {w0 w : World} {g : Nat} {xs : List Int} (h : Rdr w0 w g xs) {p : Addr} (hn : p.block ≠ g) (hp : w0.heap.size ≤ p.block) (u : Value) : Rdr w0 (w.setCell p u) g xs := by
  obtain ⟨h1, h2, h3, A, c, h4, h5, h6⟩ := h
  exact ⟨h1.setCell hp u, h2, h3, A, c, (Below.heap_setCell w p u g (fun e => hn e.symm)).trans h4, h5, h6⟩
theorem Rdr.lt {w0 w : World} {g : Nat} {xs : List Int} (h : Rdr w0 w g xs) : g < w.heap.size := by
  obtain ⟨h1, h2, h3, A, c, h4, h5, h6⟩ := h
  exact blk_lt h4
theorem Kept2.refl (w : World) (g ge : Nat) : Kept2 w w g ge := ⟨Nat.le_refl _, fun _ _ _ _ => rfl⟩
theorem Kept2.keep {w w1 w2 : World} {g ge : Nat} (h : Kept2 w w1 g ge) (k : KeepBut w1 w2 g none) : Kept2 w w2 g ge :=
  ⟨Nat.le_trans h.1 k.1, fun i hi h1 h2 => (k.2 i (Nat.lt_of_lt_of_le hi h.1) h1 (by simp)).trans (h.2 i hi h1 h2)⟩
theorem Kept2.below {w w1 w2 : World} {g ge B : Nat} (h : Kept2 w w1 g ge) (k : Below B w1 w2) (hB : w.heap.size ≤ B) : Kept2 w w2 g ge :=
  ⟨Nat.le_trans h.1 k.size, fun i hi h1 h2 => (k.block i (Nat.lt_of_lt_of_le hi hB)).trans (h.2 i hi h1 h2)⟩
theorem Kept2.set {w w1 : World} {g ge j : Nat} {u : Value} (h : Kept2 w w1 g ge) : Kept2 w (w1.setCell ⟨ge, j, none⟩ u) g ge :=
  ⟨Nat.le_trans h.1 (by simp [World.setCell]), fun i hi h1 h2 => (Below.heap_setCell w1 ⟨ge, j, none⟩ u i h2).trans (h.2 i hi h1 h2)⟩
theorem info42 : (Try.prog.info? 42).map (fun i => (i.zero, i.size, i.bytes)) = some (some (.agg #[.string ⟨#[]⟩, .int .i64 0]), 2, 24) := by kernel_rfl
theorem info44 : (Try.prog.info? 44).map (fun i => (i.zero, i.size, i.bytes)) = some (some (.agg #[.int .i64 0, .int .i64 0, .string ⟨#[]⟩, .int .i64 0]), 4, 40) := by kernel_rfl
theorem info46 : (Try.prog.info? 46).map (fun i => (i.zero, i.size, i.bytes)) = some (some (.slice none 0 0), 1, 24) := by kernel_rfl

theorem fell_post {w0 w w2 : World} {g ge : Nat} {xs : List Int} (hb : Below w0.heap.size w0 w2) (hk : Kept2 w w2 g ge) (h : ∀ en r, getAll xs = some (en, r) → rightE en = false) : UnPost w0 w g ge xs (.panicked bad) w2 := ⟨hb, hk, .inr ⟨rfl, h⟩⟩
theorem getAll_none1 {xs : List Int} (h : getI 1048576 xs = none) : ∀ en r, getAll xs = some (en, r) → rightE en = false := by
  intro en r h1
  unfold getAll at h1
  rw [h] at h1
  cases h1
theorem getAll_none2 {xs r1 : List Int} {G : Int} (h : getI 1048576 xs = some (G, r1)) (h2 : get r1 = none) : ∀ en r, getAll xs = some (en, r) → rightE en = false := by
  intro en r h1
  unfold getAll at h1
  rw [h] at h1
  simp only [Option.bind_some] at h1
  rw [h2] at h1
  cases h1
theorem getAll_none3 {xs r1 r2 : List Int} {G n : Int} (h : getI 1048576 xs = some (G, r1)) (h2 : get r1 = some (n, r2)) (h3 : getRs n.toNat r2 = none) : ∀ en r, getAll xs = some (en, r) → rightE en = false := by
  intro en r h1
  unfold getAll at h1
  rw [h] at h1
  simp only [Option.bind_some] at h1
  rw [h2] at h1
  simp only [Option.bind_some] at h1
  rw [h3] at h1
  cases h1

/-! how many bytes what is read takes -/
theorem get_len {xs r : List Int} {n : Int} (hb : By xs) (h : get xs = some (n, r)) : r.length + 1 ≤ xs.length := by
  have h1 := get_inv xs n r hb h
  have h2 := (num_len n).1
  rw [h1.1, List.length_append]
  omega
theorem getI_len {xs r : List Int} {m n : Int} (hb : By xs) (h : getI m xs = some (n, r)) : r.length + 1 ≤ xs.length := by
  have h1 := getI_inv hb h
  have h2 := (num_len n).1
  rw [h1.1, List.length_append]
  omega
theorem getT_len {xs r : List Int} {m : Int} {s : ByteArray} (hb : By xs) (h : getT m xs = some (s, r)) : r.length + 1 ≤ xs.length := by
  have h1 := getT_inv hb h
  have h2 := (num_len (s.size : Int)).1
  rw [h1.1, txt, List.length_append, List.length_append]
  omega
theorem getI_by {xs r : List Int} {m n : Int} (hb : By xs) (h : getI m xs = some (n, r)) : By r := by
  have h1 := getI_inv hb h
  rw [h1.1] at hb
  exact hb.right
theorem get_by {xs r : List Int} {n : Int} (hb : By xs) (h : get xs = some (n, r)) : By r := by
  have h1 := get_inv _ _ _ hb h
  rw [h1.1] at hb
  exact hb.right
theorem getT_by {xs r : List Int} {m : Int} {s : ByteArray} (hb : By xs) (h : getT m xs = some (s, r)) : By r := by
  have h1 := getT_inv hb h
  rw [h1.1] at hb
  exact hb.right
theorem getE_len {xs r : List Int} {e : S44} (hb : By xs) (h : getE xs = some (e, r)) : r.length + 1 ≤ xs.length := by
  have h1 := getE_inv hb h
  have h2 := (num_len e.f0).1
  rw [h1.1, evB, List.length_append, List.length_append]
  omega
theorem getEs_len : ∀ (k : Nat) {xs r : List Int} {es : List S44}, By xs → getEs k xs = some (es, r) → r.length + k ≤ xs.length
  | 0, xs, r, es, hb, h => by
    simp only [getEs, Option.some.injEq, Prod.mk.injEq] at h
    rw [h.2]
    exact Nat.le_refl _
  | k + 1, xs, r, es, hb, h => by
    rw [getEs] at h
    obtain ⟨⟨e, r1⟩, h1, h⟩ := Option.bind_eq_some_iff.mp h
    obtain ⟨⟨es', r2⟩, h2, h⟩ := Option.bind_eq_some_iff.mp h
    simp only [Option.some.injEq, Prod.mk.injEq] at h
    obtain ⟨rfl, rfl⟩ := h
    have i1 := getE_len hb h1
    have b1 : By r1 := by
      have := (getE_inv hb h1).1
      rw [this] at hb
      exact hb.right
    have i2 := getEs_len k b1 h2
    omega
theorem getR_len {xs r : List Int} {x : S42 × List S44} (hb : By xs) (h : getR xs = some (x, r)) : r.length + 1 + x.2.length ≤ xs.length := by
  unfold getR at h
  obtain ⟨⟨s, r1⟩, h1, h⟩ := Option.bind_eq_some_iff.mp h
  obtain ⟨⟨v, r2⟩, h2, h⟩ := Option.bind_eq_some_iff.mp h
  obtain ⟨⟨k, r3⟩, h3, h⟩ := Option.bind_eq_some_iff.mp h
  obtain ⟨⟨es, r4⟩, h4, h⟩ := Option.bind_eq_some_iff.mp h
  simp only [Option.some.injEq, Prod.mk.injEq] at h
  obtain ⟨rfl, rfl⟩ := h
  have b1 := getT_by hb h1
  have b2 := getI_by b1 h2
  have b3 := get_by b2 h3
  have l1 := getT_len hb h1
  have l2 := getI_len b1 h2
  have l3 := get_len b2 h3
  have l4 := getEs_len _ b3 h4
  have l5 := (getEs_inv _ _ _ _ b3 h4).2.1
  show r4.length + 1 + es.length ≤ _
  omega
theorem getRs_len : ∀ (k : Nat) {xs r : List Int} {l : List (S42 × List S44)}, By xs → getRs k xs = some (l, r) → r.length + k ≤ xs.length
  | 0, xs, r, l, hb, h => by
    simp only [getRs, Option.some.injEq, Prod.mk.injEq] at h
    rw [h.2]
    exact Nat.le_refl _
  | k + 1, xs, r, l, hb, h => by
    rw [getRs] at h
    obtain ⟨⟨e, r1⟩, h1, h⟩ := Option.bind_eq_some_iff.mp h
    obtain ⟨⟨l', r2⟩, h2, h⟩ := Option.bind_eq_some_iff.mp h
    simp only [Option.some.injEq, Prod.mk.injEq] at h
    obtain ⟨rfl, rfl⟩ := h
    have i1 := getR_len hb h1
    have b1 : By r1 := by
      have := (getR_inv hb h1).1
      rw [this] at hb
      exact hb.right
    have i2 := getRs_len k b1 h2
    omega
end Go.Proofs.Ytnognmbapciegaa.Bk
namespace Go.Proofs.Ytnognmbapciegaa.Bk
open Go.RowKit Go.Proofs.YtnognmbapciegaaW.PrintWords Go.Proofs.YtnognmbapciegaaW.PrintLast Go.Proofs.YtnognmbapciegaaW.PrintMore Go.Proofs.Ytnognmbapciegaa.PBk
set_option linter.unusedVariables false
set_option linter.unusedSimpArgs false

/-- The outer loop: so many results read. -/
structure Out (w0 w : World) (g ge : Nat) (xs r2 : List Int) (G : Int) (n k : Nat) (l : List (S42 × List S44)) (ys : List Int) (wr : World) : Prop where
  rdr : Rdr w0 wr g ys
  kept : Kept2 w wr g ge
  ent : EntAt wr w.heap.size ge ⟨G, l.map (·.1), l.map (·.2)⟩
  len : l.length = k
  some_ : ys.length + l.length ≤ xs.length
  eq : getRs n r2 = (getRs (n - k) ys).bind fun q => some (l ++ q.1, q.2)
  small : ∀ t, t ∈ l.map (·.2) → t.length ≤ xs.length

theorem EntAt.below {w w1 : World} {B ge : Nat} {en : Ent} (h : EntAt w B ge en) (hb : Below w.heap.size w w1) : EntAt w1 B ge en := by
  obtain ⟨v1, v2, h1, h2, h3⟩ := h
  exact ⟨v1, v2, blk_below h1 hb, Kd.R_below h2 hb, Kd.R_below h3 hb⟩
/-- The entry under way, its slices open. -/
structure Mid (w0 w : World) (g ge : Nat) (G : Int) (rs : List S42) (ts : List (List S44)) (ys : List Int) (wm : World) : Prop where
  rdr : Rdr w0 wm g ys
  kept : Kept2 w wm g ge
  at_ : ∃ (A1 : Option Addr) (n1 c1 : Nat) (A2 : Option Addr) (n2 c2 : Nat), wm.heap[ge]? = some (.cells #[.int .i64 G, .slice A1 n1 c1, .slice A2 n2 c2] 25 (0, 0)) ∧ Kd.R k42 42 wm w.heap.size (fun _ => True) (.slice A1 n1 c1) rs ∧ Kd.R (Kd.slice 44 k44) 46 wm w.heap.size (fun _ => True) (.slice A2 n2 c2) ts
theorem Out.mid {w0 w wr : World} {g ge : Nat} {xs r2 ys : List Int} {G : Int} {n k : Nat} {l : List (S42 × List S44)} (h : Out w0 w g ge xs r2 G n k l ys wr) : Mid w0 w g ge G (l.map (·.1)) (l.map (·.2)) ys wr := by
  refine ⟨h.rdr, h.kept, ?_⟩
  obtain ⟨v1, v2, h1, h2, h3⟩ := h.ent
  obtain ⟨A1, c1, rfl⟩ := Kd.R_slice h2
  obtain ⟨A2, c2, rfl⟩ := Kd.R_slice h3
  exact ⟨A1, _, c1, A2, _, c2, h1, h2, h3⟩
theorem R_keepB {α : Type} {d : Kd α} {e : Nat} {w w1 : World} {B g : Nat} {v : Value} {l : List α} (h : d.R e w B (fun _ => True) v l) (hk : KeepBut w w1 g none) (hg : g < B) : d.R e w1 B (fun _ => True) v l :=
  Kd.R_mono (Kd.R_keep (Kd.R_bound h) hk (fun k hk => by have := hk.2.1; omega)) (fun _ _ => trivial)
/-- The Reader has read; what else is written is new. -/
theorem Mid.keep {w0 w wm wn : World} {g ge : Nat} {G : Int} {rs : List S42} {ts : List (List S44)} {ys zs : List Int} (h : Mid w0 w g ge G rs ts ys wm) (hk : KeepBut wm wn g none) (hr : Rdr w0 wn g zs) (hg : g < w.heap.size) (hne : ge ≠ g) : Mid w0 w g ge G rs ts zs wn := by
  refine ⟨hr, h.kept.keep hk, ?_⟩
  obtain ⟨A1, n1, c1, A2, n2, c2, h1, h2, h3⟩ := h.at_
  exact ⟨A1, n1, c1, A2, n2, c2, hk.blk h1 hne (by simp), R_keepB h2 hk hg, R_keepB h3 hk hg⟩
theorem R_apart {α β : Type} {d : Kd α} {d' : Kd β} {e e' : Nat} {w w1 : World} {B : Nat} {v v' : Value} {l : List α} {l' : List β} (h : d.R e w B (fun _ => True) v l) (h' : d'.R e' w B (fun _ => True) v' l') (hg : w.grownBy w1 v.ownBlock) (ht : ∀ q, q ∈ e' :: d'.E → q ≠ e) : d'.R e' w1 B (fun _ => True) v' l' := by
  cases hv : v.ownBlock with
  | none => exact Kd.R_grown h' hg (fun k _ => by rw [hv]; simp)
  | some b =>
    obtain ⟨inner, ho⟩ := Kd.R_own h
    obtain ⟨cells, hc⟩ := own_typed ho b hv
    exact Kd.R_mono (Kd.R_grown (Kd.R_types h' hc ht) hg (fun k hk => by rw [hv]; simp only [ne_eq, Option.some.injEq]; exact hk.2)) (fun _ _ => trivial)
/-- Results: one more. -/
theorem Mid.res {w0 w wm w6 : World} {g ge : Nat} {G : Int} {rs : List S42} {ts : List (List S44)} {ys : List Int} {A1 A2 A3 : Option Addr} {n1 c1 n2 c2 n3 c3 : Nat} {p : S42} (h : Mid w0 w g ge G rs ts ys wm)
    (h1 : wm.heap[ge]? = some (.cells #[.int .i64 G, .slice A1 n1 c1, .slice A2 n2 c2] 25 (0, 0))) (h2 : Kd.R k42 42 wm w.heap.size (fun _ => True) (.slice A1 n1 c1) rs) (h3 : Kd.R (Kd.slice 44 k44) 46 wm w.heap.size (fun _ => True) (.slice A2 n2 c2) ts)
    (hr : Kd.R k42 42 w6 w.heap.size (fun _ => True) (.slice A3 n3 c3) (rs ++ [p])) (hb : Below w.heap.size wm w6) (hgr : wm.grownBy w6 (Value.slice A1 n1 c1).ownBlock) (hg : g < w.heap.size) (hge : ge < w.heap.size) (hne : ge ≠ g) (hw0 : w0.heap.size ≤ ge) :
    Mid w0 w g ge G (rs ++ [p]) ts ys (w6.setCell ⟨ge, 1, none⟩ (.slice A3 n3 c3)) := by
  refine ⟨(h.rdr.move hb hg).far hne hw0 _, (h.kept.below hb (Nat.le_refl _)).set, A3, n3, c3, A2, n2, c2, ?_, rfar hr hge, rfar (R_apart h2 h3 hgr (by decide)) hge⟩
  exact blk_set ((hb.block ge hge).trans h1) 1 _
/-- Traces: one more, its row made since. -/
theorem Mid.tr {w0 w wm w6 : World} {g ge : Nat} {G : Int} {rs : List S42} {ts : List (List S44)} {ys : List Int} {A1 A2 A3 : Option Addr} {n1 c1 n2 c2 n3 c3 : Nat} {t : List S44} (h : Mid w0 w g ge G rs ts ys wm)
    (h1 : wm.heap[ge]? = some (.cells #[.int .i64 G, .slice A1 n1 c1, .slice A2 n2 c2] 25 (0, 0))) (h2 : Kd.R k42 42 wm w.heap.size (fun _ => True) (.slice A1 n1 c1) rs) (h3 : Kd.R (Kd.slice 44 k44) 46 wm w.heap.size (fun _ => True) (.slice A2 n2 c2) ts)
    (hr : Kd.R (Kd.slice 44 k44) 46 w6 w.heap.size (fun _ => True) (.slice A3 n3 c3) (ts ++ [t])) (hb : Below w.heap.size wm w6) (hgr : wm.grownBy w6 (Value.slice A2 n2 c2).ownBlock) (hg : g < w.heap.size) (hge : ge < w.heap.size) (hne : ge ≠ g) (hw0 : w0.heap.size ≤ ge) :
    Mid w0 w g ge G rs (ts ++ [t]) ys (w6.setCell ⟨ge, 2, none⟩ (.slice A3 n3 c3)) := by
  refine ⟨(h.rdr.move hb hg).far hne hw0 _, (h.kept.below hb (Nat.le_refl _)).set, A1, n1, c1, A3, n3, c3, ?_, rfar (R_apart h3 h2 hgr (by decide)) hge, rfar hr hge⟩
  exact blk_set ((hb.block ge hge).trans h1) 2 _
theorem Kept2.alloc {w w1 : World} {g ge : Nat} (h : Kept2 w w1 g ge) (o : Obj) : Kept2 w (w1.alloc o) g ge := h.below ((Below.refl w1.heap.size w1).alloc (Nat.le_refl _) o) h.1
theorem getI_get {xs r : List Int} {m n : Int} (h : getI m xs = some (n, r)) : get xs = some (n, r) ∧ n ≤ m := by
  unfold getI at h
  obtain ⟨⟨n', r'⟩, h1, h2⟩ := Option.bind_eq_some_iff.mp h
  by_cases h3 : n' ≤ m
  · simp only [h3, if_true, Option.some.injEq, Prod.mk.injEq] at h2
    obtain ⟨rfl, rfl⟩ := h2
    exact ⟨h1, h3⟩
  · simp [h3] at h2
/-- The inner loop: so many events read. -/
structure Inn (w0 wI : World) (g : Nat) (y3 : List Int) (q j : Nat) (done : List S44) (zs : List Int) (v : Value) (wi : World) : Prop where
  rdr : Rdr w0 wi g zs
  keep : KeepBut wI wi g none
  row : Kd.R k44 44 wi wI.heap.size (fun _ => True) v done
  len : done.length = j
  some_ : zs.length + done.length ≤ y3.length
  eq : getEs q y3 = (getEs (q - j) zs).bind fun p => some (done ++ p.1, p.2)
theorem Inn.first {w0 wI : World} {g : Nat} {y3 : List Int} (h : Rdr w0 wI g y3) (q : Nat) : Inn w0 wI g y3 q 0 [] y3 (.slice none 0 0) wI :=
  ⟨h, KeepBut.refl _ _ _, Kd.R_nil _ _ _ _ _, rfl, by simp, by simp only [Nat.sub_zero, List.nil_append]; cases getEs q y3 <;> rfl⟩
theorem Out.first {w0 w w1 w3 : World} {g ge : Nat} {xs r2 : List Int} {G : Int} (hk : KeepBut w w1 g none) (hk3 : KeepBut (w1.setCell ⟨ge, 0, none⟩ (.int .i64 G)) w3 g none) (hr : Rdr w0 w3 g r2)
    (hb : (w1.setCell ⟨ge, 0, none⟩ (.int .i64 G)).heap[ge]? = some (.cells (#[.int .i64 0, .slice none 0 0, .slice none 0 0].setIfInBounds 0 (.int .i64 G)) 25 (0, 0))) (hne : ge ≠ g) (hl : r2.length ≤ xs.length) (m : Nat) : Out w0 w g ge xs r2 G m 0 [] r2 w3 :=
  ⟨hr, (((Kept2.refl w g ge).keep hk).set).keep hk3, ⟨.slice none 0 0, .slice none 0 0, hk3.blk hb hne (by simp), Kd.R_nil _ _ _ _ _, Kd.R_nil _ _ _ _ _⟩, rfl, by simpa using hl, by simp only [Nat.sub_zero, List.nil_append]; cases getRs m r2 <;> rfl, fun t ht => by cases ht⟩

theorem Inn.none_ {w0 wI wi : World} {g : Nat} {y3 zs : List Int} {q j : Nat} {done : List S44} {v : Value} (h : Inn w0 wI g y3 q j done zs v wi) (hj : j < q) (he : getE zs = none) : getEs q y3 = none := by
  obtain ⟨i, hi⟩ : ∃ i, q - j = i + 1 := ⟨q - j - 1, by omega⟩
  rw [h.eq, hi, getEs, he]
  rfl
theorem Inn.last {w0 wI wi : World} {g : Nat} {y3 zs : List Int} {q : Nat} {done : List S44} {v : Value} (h : Inn w0 wI g y3 q q done zs v wi) : getEs q y3 = some (done, zs) := by
  rw [h.eq, Nat.sub_self]
  simp [getEs]
theorem Inn.more {w0 wI wi W w13 : World} {g : Nat} {y3 zs z4 : List Int} {q j : Nat} {done : List S44} {v v' : Value} {e : S44} (h : Inn w0 wI g y3 q j done zs v wi) (hk : KeepBut wi W g none) (hr : Rdr w0 W g z4) (hrow : Kd.R k44 44 w13 wI.heap.size (fun _ => True) v' (done ++ [e])) (hb : Below wI.heap.size W w13) (he : getE zs = some (e, z4)) (hj : j < q) (hg : g < wI.heap.size) :
    Inn w0 wI g y3 q (j + 1) (done ++ [e]) z4 v' w13 := by
  have hl := getE_len h.rdr.by_ he
  have hs := h.some_
  have hkk := h.keep.trans hk (.inl rfl)
  refine ⟨hr.move hb hg, ⟨Nat.le_trans hkk.1 hb.size, fun i hi h1 h2 => (hb.block i hi).trans (hkk.2 i hi h1 h2)⟩, hrow, by rw [List.length_append, h.len]; rfl, by rw [List.length_append, List.length_singleton]; omega, ?_⟩
  obtain ⟨i, hi⟩ : ∃ i, q - j = i + 1 := ⟨q - j - 1, by omega⟩
  have hi' : q - (j + 1) = i := by omega
  rw [h.eq, hi, hi', getEs, he]
  simp only [Option.bind_some]
  cases getEs i z4 with
  | none => rfl
  | some p => simp
theorem Out.more {w0 w wr w' : World} {g ge : Nat} {xs r2 ys zs : List Int} {G : Int} {n k : Nat} {l : List (S42 × List S44)} {x : S42 × List S44} (h : Out w0 w g ge xs r2 G n k l ys wr) (hm : Mid w0 w g ge G (l.map (·.1) ++ [x.1]) (l.map (·.2) ++ [x.2]) zs w') (hR : getR ys = some (x, zs)) (hk : k < n) : Out w0 w g ge xs r2 G n (k + 1) (l ++ [x]) zs w' := by
  have hl := getR_len h.rdr.by_ hR
  have hs := h.some_
  obtain ⟨A1, n1, c1, A2, n2, c2, h1, h2, h3⟩ := hm.at_
  refine ⟨hm.rdr, hm.kept, ⟨_, _, h1, by simpa using h2, by simpa using h3⟩, by rw [List.length_append, h.len]; rfl, by rw [List.length_append, List.length_singleton]; omega, ?_, ?_⟩
  · obtain ⟨i, hi⟩ : ∃ i, n - k = i + 1 := ⟨n - k - 1, by omega⟩
    have hi' : n - (k + 1) = i := by omega
    rw [h.eq, hi, hi', getRs, hR]
    simp only [Option.bind_some]
    cases getRs i zs with
    | none => rfl
    | some p => simp
  · intro t ht
    rw [List.map_append, List.mem_append] at ht
    rcases ht with ht | ht
    · exact h.small t ht
    · simp only [List.map_cons, List.map_nil, List.mem_singleton] at ht
      subst ht
      omega
theorem wrap_succ {j : Nat} (h : j ≤ 1099511627776) : wrap64 ((j : Int) + 1) = ((j + 1 : Nat) : Int) := by
  unfold wrap64
  omega
theorem own_small {α : Type} {d : Kd α} {e : Nat} {w : World} {B : Nat} {v : Value} {l : List α} (h : d.R e w B (fun _ => True) v l) : ∀ k, w.heap.size ≤ k → True ∧ some k ≠ v.ownBlock := by
  intro k hk
  refine ⟨trivial, fun he => ?_⟩
  obtain ⟨inner, ho⟩ := Kd.R_own h
  have := own_lt ho k he.symm
  omega
set_option maxHeartbeats 400000 in
set_option maxRecDepth 100000 in
theorem body_any (RC : RightC) : Body := by
  intro w0 w g ge xs hR hE hg hne hge hx
  have hgl := blk_lt hE
  cases e1 : getI 1048576 xs with
  | none =>
    have HF := Lib.hid (int_none hR 1048576 e1)
    have HP := Lib.hid (getAll_none1 e1)
    go_enter Try.func27, Try.ntmps27
    go_wp2_with (first | (go_at_call 28; refine HF.out.mono ?_; rintro e w1 ⟨rfl, hk, hb⟩))
    exact ⟨rfl, fell_post hb ((Kept2.refl w g ge).keep hk) HP.out⟩
  | some q1 =>
    obtain ⟨G, r1⟩ := q1
    have b1 := getI_by hR.by_ e1
    have l1 := getI_len hR.by_ e1
    have HF := Lib.hid (int_some hR 1048576 e1)
    cases e2 : get r1 with
    | none =>
      have HP := Lib.hid (getAll_none2 e1 e2)
      have e3 := getI_none (r1.length : Int) e2
      clear e1 e2 b1 l1
      have HE := Lib.hid hE
      clear hR hE
      go_enter Try.func27, Try.ntmps27
      go_wp2_with (first
        | (go_at_call 28; (have hguard := HF; clear hguard); refine HF.out.mono ?_; rintro e w1 ⟨rfl, hk, hb⟩; clear HF; have h1 := hk.blk HE.out hne.symm (by simp); have f0 := blk_cell h1 0; have f1 := blk_frozen h1 0; (simp only [List.getElem?_toArray, List.getElem?_cons_zero] at f0); have HK := Lib.hid hk; have HR1 := Lib.hid (hb.far (p := ⟨ge, 0, none⟩) hne.symm hge (.int .i64 G)); clear hk hb h1)
        | (go_at_call 29; refine (left_any HR1.out).mono ?_; rintro e w2 ⟨rfl, rfl⟩)
        | (go_at_call 28; refine (int_none HR1.out _ e3).mono ?_; rintro e w3 ⟨rfl, hk3, hb3⟩))
      exact ⟨rfl, fell_post hb3 ((((Kept2.refl w g ge).keep HK.out).set).keep hk3) HP.out⟩
    | some q2 =>
      obtain ⟨n, r2⟩ := q2
      have b2 := get_by b1 e2
      have l2 := get_len b1 e2
      by_cases hn : n ≤ (r1.length : Int)
      · have e3 : getI (r1.length : Int) r1 = some (n, r2) := by rw [getI_eq _ e2, if_pos hn]
        have hn0 := (get_inv _ _ _ b1 e2).2.1
        have HG : Hid (∀ l ys, getRs n.toNat r2 = some (l, ys) → getAll xs = some (⟨G, l.map (·.1), l.map (·.2)⟩, ys)) := by
          refine Lib.hid fun l ys h => ?_
          unfold getAll
          rw [e1]
          simp only [Option.bind_some]
          rw [e2]
          simp only [Option.bind_some]
          rw [h]
          rfl
        have HG0 : Hid (getRs n.toNat r2 = none → ∀ en r, getAll xs = some (en, r) → rightE en = false) := Lib.hid (getAll_none3 e1 e2)
        have HL2 : Hid (r2.length ≤ xs.length) := Lib.hid (by omega)
        obtain ⟨m, rfl⟩ := Int.eq_ofNat_of_zero_le hn0
        simp only [Int.toNat_natCast] at HG HG0
        have hmB : m ≤ 1099511627776 := by omega
        clear e1 e2 b1 l1 b2 l2 hn hn0
        have HE := Lib.hid hE
        clear hR hE
        go_enter Try.func27, Try.ntmps27
        go_wp2_with (first
          | (go_at_call 28; (have hguard := HF; clear hguard); refine HF.out.mono ?_; rintro e w1 ⟨rfl, hk, hb⟩; clear HF; have h1 := hk.blk HE.out hne.symm (by simp); have f0 := blk_cell h1 0; have f1 := blk_frozen h1 0; (simp only [List.getElem?_toArray, List.getElem?_cons_zero] at f0); have HK := Lib.hid hk; have HB1 := Lib.hid (blk_set h1 0 (.int .i64 G)); have HR1 := Lib.hid (hb.far (p := ⟨ge, 0, none⟩) hne.symm hge (.int .i64 G)); clear hk hb h1)
          | (go_at_call 29; refine (left_any HR1.out).mono ?_; rintro e w2 ⟨rfl, rfl⟩)
          | (go_at_call 28; refine (int_some HR1.out _ e3).mono ?_; rintro e w3 ⟨rfl, hk3, hr3⟩; have HO := Lib.hid (Out.first (r2 := r2) HK.out hk3 hr3 HB1.out hne.symm HL2.out m); clear HR1 HB1 HK hk3 hr3 f0 f1 e3))
        go_loopw [16] (fun i wr => ∃ (k : Nat) (l : List (S42 × List S44)) (ys : List Int), i = .int .i64 (k : Int) ∧ k ≤ m ∧ Hid (Out w0 w g ge xs r2 G m k l ys wr)) (fun i _ => m - (iOf i).toNat)
        case atStart => exact ⟨0, [], r2, rfl, by omega, HO⟩
        case round =>
          clear HO
          obtain ⟨k, l, ys, rfl, hk, HO⟩ := hrel
          by_cases hlt : k < m
          · have HX : Hid (getR ys = none → ∀ en r, getAll xs = some (en, r) → rightE en = false) := by
              refine Lib.hid fun h => HG0.out ?_
              obtain ⟨j, hj⟩ : ∃ j, m - k = j + 1 := ⟨m - k - 1, by omega⟩
              rw [HO.out.eq, hj, getRs, h]
              rfl
            cases p1 : getT 80 ys with
            | none =>
              have HP := Lib.hid (HX.out (by unfold getR; rw [p1]; rfl))
              have hR := HO.out.rdr
              have HKE := Lib.hid HO.out.kept
              go_wp2_with (first
                | (go_at_call 30; refine (text_none hR 80 p1).mono ?_; rintro e w4 ⟨rfl, hk4, hb4⟩))
              exact ⟨rfl, fell_post hb4 (HKE.out.keep hk4) HP.out⟩
            | some q1 =>
              obtain ⟨s1, y1⟩ := q1
              have hR := HO.out.rdr
              have HT := Lib.hid (text_some hR 80 p1)
              have by1 := getT_by hR.by_ p1
              have HKE := Lib.hid HO.out.kept
              clear hR
              cases p2 : getI 7 y1 with
              | none =>
                have HP := Lib.hid (HX.out (by unfold getR; rw [p1]; simp only [Option.bind_some]; rw [p2]; rfl))
                go_wp2_with (first
                  | (go_at_call 30; refine HT.out.mono ?_; rintro e w4 ⟨rfl, hk4, hr4⟩)
                  | (go_at_call 28; refine (int_none (hr4.alloc _) 7 p2).mono ?_; rintro e w5 ⟨rfl, hk5, hb5⟩))
                exact ⟨rfl, fell_post hb5 (((HKE.out.keep hk4).alloc _).keep hk5) HP.out⟩
              | some q2 =>
                obtain ⟨v2_, y2⟩ := q2
                have by2 := getI_by by1 p2
                have HM := Lib.hid HO.out.mid
                have hll := HO.out.len
                have hls := HO.out.some_
                have HLL : Hid (((l.map (·.1)).length + 1) * 24 ≤ 140737488355328) := Lib.hid (by rw [List.length_map]; omega)
                have HLT : Hid (((l.map (·.2)).length + 1) * 24 ≤ 140737488355328) := Lib.hid (by rw [List.length_map]; omega)
                clear hll hls
                cases p4 : getI (y2.length : Int) y2 with
                | none =>
                  have HP := Lib.hid (HX.out (by
                    unfold getR; rw [p1]; simp only [Option.bind_some]; rw [p2]; simp only [Option.bind_some]
                    cases p3 : get y2 with
                    | none => rfl
                    | some q3 =>
                      obtain ⟨q, y3⟩ := q3
                      rw [getI_eq _ p3] at p4
                      have p5 : ¬ q ≤ (y2.length : Int) := fun h => by rw [if_pos h] at p4; cases p4
                      simp only [Option.bind_some]
                      cases p6 : getEs q.toNat y3 with
                      | none => rfl
                      | some q6 =>
                        have := getEs_len _ (get_by by2 p3) p6
                        have := get_len by2 p3
                        omega))
                  go_wp2_with (first
                    | (go_at_call 30; (have hguard := HT; clear hguard); refine HT.out.mono ?_; rintro e w4 ⟨rfl, hk4, hr4⟩; have HK4 := Lib.hid hk4; have HR4 := Lib.hid hr4; clear hk4 hr4 HT)
                    | (go_at_call 28; (have hguard := HR4; clear hguard); refine (int_some (HR4.out.alloc _) 7 p2).mono ?_; rintro e w5 ⟨rfl, hk5, hr5⟩; have hkk := (keep_alloc HK4.out _).trans hk5 (.inl rfl); have hxg : w4.heap.size ≠ g := (by have := HR4.out.lt; omega); have hx := hk5.blk (blk_new w4 (.cells #[.string s1, .int .i64 0] 42)) hxg (by simp); have x0 := blk_cell hx 0; have x1 := blk_cell hx 1; have x2 := blk_frozen hx 1; (simp only [List.getElem?_toArray, List.getElem?_cons_zero, List.getElem?_cons_succ] at x0 x1); have HM5 := Lib.hid (HM.out.keep (keep_far hkk (p := ⟨w4.heap.size, 1, none⟩) HK4.out.1 (.int .i64 v2_)) (hr5.far (p := ⟨w4.heap.size, 1, none⟩) hxg HR4.out.below.size (.int .i64 v2_)) hg hne.symm); (obtain ⟨A1, n1, c1, A2, n2, c2, hcl, hR1, hR2⟩ := HM5.out.at_); have f1 := blk_cell hcl 1; (simp only [List.getElem?_toArray, List.getElem?_cons_zero, List.getElem?_cons_succ] at f1); have HCL := Lib.hid hcl; have HR1 := Lib.hid hR1; have HR2 := Lib.hid hR2; clear HR4 HK4 hkk hx hk5 hr5 hcl hR1 hR2)
                    | ((with_reducible refine gate_builtin (b := .append) (xs := #[.tmp 25, .tmp 27]) rfl ?_); at_builtin; go_loud (refine Kd.R_append k42 (w0 := w5.setCell ⟨w4.heap.size, 1, none⟩ (.int .i64 v2_)) w.heap.size rfl (.tmp 25) (.tmp 27) 22 42 _ 24 rfl Try.underlying22 info42 rfl (by decide) (by omega) (.slice A1 n1 c1) (l.map (·.1)) ⟨s1, v2_⟩ [.string s1, .int .i64 v2_] (fun _ => True) (fun _ => False) rfl (by rw [World.size_setCell]; rfl) ?aP (fun _ hk => hk.elim) ?aF ?aO ?aB ?aS ?aL ?_; (case aP => exact k42_mkM _ _ _ ⟨s1, v2_⟩); (case aF => exact fun _ _ => trivial); (case aO => exact HR1.out); (case aB => exact Below.refl _ _); (case aS => exact HM5.out.kept.1); (case aL => exact HLL.out); intro v6 w6 hr6 hb6 hg6 _; (obtain ⟨A3, n3, c3, rfl⟩ : ∃ A n c, v6 = .slice A n c := by obtain ⟨A, c, e⟩ := Kd.R_slice hr6; exact ⟨A, _, c, e⟩); have h6 := (hb6.block ge hgl).trans HCL.out; have k0 := blk_cell h6 1; have k1 := blk_frozen h6 1; (simp only [List.getElem?_toArray, List.getElem?_cons_zero, List.getElem?_cons_succ] at k0); have HM6 := Lib.hid (HM5.out.res HCL.out HR1.out HR2.out hr6 hb6 hg6 hg hgl hne.symm hge); clear h6 hr6 hb6 hg6 HR1 HR2 HCL HM5))
                    | (go_at_call 29; refine (left_any HM6.out.rdr).mono ?_; rintro e w7 ⟨rfl, rfl⟩)
                    | (go_at_call 28; (have hguard := HM6; clear hguard); refine (int_none HM6.out.rdr _ p4).mono ?_; rintro e w8 ⟨rfl, hk8, hb8⟩))
                  exact ⟨rfl, fell_post hb8 (HM6.out.kept.keep hk8) HP.out⟩
                | some q3 =>
                  obtain ⟨q, y3⟩ := q3
                  obtain ⟨p3, p5⟩ := getI_get p4
                  have hq0 := (get_inv _ _ _ by2 p3).2.1
                  have by3 := get_by by2 p3
                  obtain ⟨qn, rfl⟩ := Int.eq_ofNat_of_zero_le hq0
                  have HXE : Hid (getEs qn y3 = none → ∀ en r, getAll xs = some (en, r) → rightE en = false) := by
                    refine Lib.hid fun h => HX.out ?_
                    unfold getR; rw [p1]; simp only [Option.bind_some]; rw [p2]; simp only [Option.bind_some]; rw [p3]; simp only [Option.bind_some, Int.toNat_natCast]; rw [h]; rfl
                  have HXS : Hid (∀ es zs, getEs qn y3 = some (es, zs) → getR ys = some ((⟨s1, v2_⟩, es), zs)) := by
                    refine Lib.hid fun es zs h => ?_
                    unfold getR; rw [p1]; simp only [Option.bind_some]; rw [p2]; simp only [Option.bind_some]; rw [p3]; simp only [Option.bind_some, Int.toNat_natCast]; rw [h]; rfl
                  have HY3 : Hid (y3.length + 1 + l.length ≤ xs.length) := by
                    have t1 := HO.out.some_
                    have t2 := getT_len HO.out.rdr.by_ p1
                    have t3 := getI_len by1 p2
                    have t4 := get_len by2 p3
                    exact Lib.hid (by omega)
                  have hqB : qn ≤ 1099511627776 := by
                    have t1 := HO.out.some_
                    have t2 := getT_len HO.out.rdr.by_ p1
                    have t3 := getI_len by1 p2
                    omega
                  clear p1 p3 p5 hq0 by1 by2 by3 HX
                  go_wp2_with (first
                    | (go_at_call 30; (have hguard := HT; clear hguard); refine HT.out.mono ?_; rintro e w4 ⟨rfl, hk4, hr4⟩; have HK4 := Lib.hid hk4; have HR4 := Lib.hid hr4; clear hk4 hr4 HT)
                    | (go_at_call 28; (have hguard := HR4; clear hguard); refine (int_some (HR4.out.alloc _) 7 p2).mono ?_; rintro e w5 ⟨rfl, hk5, hr5⟩; have hkk := (keep_alloc HK4.out _).trans hk5 (.inl rfl); have hxg : w4.heap.size ≠ g := (by have := HR4.out.lt; omega); have hx := hk5.blk (blk_new w4 (.cells #[.string s1, .int .i64 0] 42)) hxg (by simp); have x0 := blk_cell hx 0; have x1 := blk_cell hx 1; have x2 := blk_frozen hx 1; (simp only [List.getElem?_toArray, List.getElem?_cons_zero, List.getElem?_cons_succ] at x0 x1); have HM5 := Lib.hid (HM.out.keep (keep_far hkk (p := ⟨w4.heap.size, 1, none⟩) HK4.out.1 (.int .i64 v2_)) (hr5.far (p := ⟨w4.heap.size, 1, none⟩) hxg HR4.out.below.size (.int .i64 v2_)) hg hne.symm); (obtain ⟨A1, n1, c1, A2, n2, c2, hcl, hR1, hR2⟩ := HM5.out.at_); have f1 := blk_cell hcl 1; (simp only [List.getElem?_toArray, List.getElem?_cons_zero, List.getElem?_cons_succ] at f1); have HCL := Lib.hid hcl; have HR1 := Lib.hid hR1; have HR2 := Lib.hid hR2; clear HR4 HK4 hkk hx hk5 hr5 hcl hR1 hR2)
                    | ((with_reducible refine gate_builtin (b := .append) (xs := #[.tmp 25, .tmp 27]) rfl ?_); at_builtin; go_loud (refine Kd.R_append k42 (w0 := w5.setCell ⟨w4.heap.size, 1, none⟩ (.int .i64 v2_)) w.heap.size rfl (.tmp 25) (.tmp 27) 22 42 _ 24 rfl Try.underlying22 info42 rfl (by decide) (by omega) (.slice A1 n1 c1) (l.map (·.1)) ⟨s1, v2_⟩ [.string s1, .int .i64 v2_] (fun _ => True) (fun _ => False) rfl (by rw [World.size_setCell]; rfl) ?aP (fun _ hk => hk.elim) ?aF ?aO ?aB ?aS ?aL ?_; (case aP => exact k42_mkM _ _ _ ⟨s1, v2_⟩); (case aF => exact fun _ _ => trivial); (case aO => exact HR1.out); (case aB => exact Below.refl _ _); (case aS => exact HM5.out.kept.1); (case aL => exact HLL.out); intro v6 w6 hr6 hb6 hg6 _; (obtain ⟨A3, n3, c3, rfl⟩ : ∃ A n c, v6 = .slice A n c := by obtain ⟨A, c, e⟩ := Kd.R_slice hr6; exact ⟨A, _, c, e⟩); have h6 := (hb6.block ge hgl).trans HCL.out; have k0 := blk_cell h6 1; have k1 := blk_frozen h6 1; (simp only [List.getElem?_toArray, List.getElem?_cons_zero, List.getElem?_cons_succ] at k0); have HM6 := Lib.hid (HM5.out.res HCL.out HR1.out HR2.out hr6 hb6 hg6 hg hgl hne.symm hge); clear h6 hr6 hb6 hg6 HR1 HR2 HCL HM5))
                    | (go_at_call 29; refine (left_any HM6.out.rdr).mono ?_; rintro e w7 ⟨rfl, rfl⟩)
                    | (go_at_call 28; (have hguard := HM6; clear hguard); go_loud (refine (int_some HM6.out.rdr _ p4).mono ?_; rintro e w8 ⟨rfl, hk8, hr8⟩; have HM8 := Lib.hid (HM6.out.keep hk8 hr8 hg hne.symm); clear HM6 hk8 hr8)))
                  clear p4 p2
                  go_loopw [5, 35] (fun es i wi => ∃ (j : Nat) (A : Option Addr) (nA cA : Nat) (done : List S44) (zs : List Int), es = .slice A nA cA ∧ i = .int .i64 (j : Int) ∧ j ≤ qn ∧ Hid (Inn w0 w8 g y3 qn j done zs (.slice A nA cA) wi)) (fun _ i _ => qn - (iOf i).toNat)
                  case atStart => exact ⟨0, none, 0, 0, [], y3, rfl, rfl, by omega, Lib.hid (Inn.first HM8.out.rdr _)⟩
                  case round =>
                    obtain ⟨j, A, nA, cA, done, zs, rfl, rfl, hj, HI⟩ := hrel
                    have HG8 : Hid (g < w8.heap.size) := Lib.hid HM8.out.rdr.lt
                    by_cases hjq : j < qn
                    · have HZ := Lib.hid HI.out.rdr
                      have HZB := Lib.hid HI.out.rdr.by_
                      have HXF : Hid (getE zs = none → ∀ en r, getAll xs = some (en, r) → rightE en = false) := Lib.hid fun h => HXE.out (HI.out.none_ hjq h)
                      have HLE : Hid ((done.length + 1) * 40 ≤ 140737488355328) := by
                        have t1 := HI.out.some_
                        have t2 := HY3.out
                        exact Lib.hid (by omega)
                      cases m1 : getI 14 zs with
                      | none =>
                        have HP := Lib.hid (HXF.out (by unfold getE; rw [m1]; rfl))
                        go_wp2_with (first
                          | (go_at_call 28; refine (int_none HZ.out 14 m1).mono ?_; rintro e w9 ⟨rfl, hk9, hb9⟩))
                        exact ⟨rfl, fell_post hb9 ((HM8.out.kept.keep HI.out.keep).keep hk9) HP.out⟩
                      | some q1 =>
                        obtain ⟨K, z1⟩ := q1
                        cases m2 : get z1 with
                        | none =>
                          have HP := Lib.hid (HXF.out (by unfold getE; rw [m1]; simp only [Option.bind_some]; rw [m2]; rfl))
                          go_wp2_with (first
                            | (go_at_call 28; (have hguard := HZ; clear hguard); go_loud (refine (int_some HZ.out 14 m1).mono ?_; rintro e w9 ⟨rfl, hk9, hr9⟩; have HA9 := Lib.hid hk9; have HR9 := Lib.hid hr9; clear HZ hk9 hr9))
                            | (go_at_call 31; refine (num_none (HR9.out.alloc _) m2).mono ?_; rintro e w10 ⟨rfl, hk10, hb10⟩))
                          exact ⟨rfl, fell_post hb10 ((((HM8.out.kept.keep HI.out.keep).keep HA9.out).alloc _).keep hk10) HP.out⟩
                        | some q2 =>
                          obtain ⟨N, z2⟩ := q2
                          cases m3 : get z2 with
                          | none =>
                            have HP := Lib.hid (HXF.out (by unfold getE; rw [m1]; simp only [Option.bind_some]; rw [m2]; simp only [Option.bind_some]; rw [m3]; rfl))
                            go_wp2_with (first
                              | (go_at_call 28; (have hguard := HZ; clear hguard); go_loud (refine (int_some HZ.out 14 m1).mono ?_; rintro e w9 ⟨rfl, hk9, hr9⟩; have HA9 := Lib.hid hk9; have HR9 := Lib.hid hr9; clear HZ hk9 hr9))
                              | (go_at_call 31; (have hguard := HR9; clear hguard); go_loud (refine (num_some (HR9.out.alloc _) m2).mono ?_; rintro e w10 ⟨rfl, hk10, hr10⟩; have hyg : w9.heap.size ≠ g := (by have := HR9.out.lt; omega); have hy := hk10.blk (blk_new w9 (.cells #[.int .i64 K, .int .i64 0, .string ⟨#[]⟩, .int .i64 0] 44)) hyg (by simp); have y1 : w10.cell? ⟨w9.heap.size, 1, none⟩ = some (.int .i64 0) := blk_cell hy 1; have y1f := blk_frozen hy 1; have HY10 := Lib.hid (blk_set hy 1 (.int .i64 (wrap64 (N - 1)))); have HK10 := Lib.hid (keep_far ((keep_alloc HA9.out _).trans hk10 (.inl rfl)) (p := ⟨w9.heap.size, 1, none⟩) HA9.out.1 (.int .i64 (wrap64 (N - 1)))); have HR10 := Lib.hid (hr10.far (p := ⟨w9.heap.size, 1, none⟩) hyg HR9.out.below.size (.int .i64 (wrap64 (N - 1)))); have HS9 := Lib.hid HA9.out.1; have HT9 := Lib.hid HR9.out.below.size; clear HR9 HA9 hk10 hr10 hy))
                              | (go_at_call 31; (have hguard := HR10; clear hguard); refine (num_none HR10.out m3).mono ?_; rintro e w11 ⟨rfl, hk11, hb11⟩))
                            exact ⟨rfl, fell_post hb11 (((HM8.out.kept.keep HI.out.keep).keep HK10.out).keep hk11) HP.out⟩
                          | some q3 =>
                            obtain ⟨T, z3⟩ := q3
                            cases m4 : getT 1048576 z3 with
                            | none =>
                              have HP := Lib.hid (HXF.out (by unfold getE; rw [m1]; simp only [Option.bind_some]; rw [m2]; simp only [Option.bind_some]; rw [m3]; simp only [Option.bind_some]; rw [m4]; rfl))
                              go_wp2_with (first
                                | (go_at_call 28; (have hguard := HZ; clear hguard); go_loud (refine (int_some HZ.out 14 m1).mono ?_; rintro e w9 ⟨rfl, hk9, hr9⟩; have HA9 := Lib.hid hk9; have HR9 := Lib.hid hr9; clear HZ hk9 hr9))
                                | (go_at_call 31; (have hguard := HR9; clear hguard); go_loud (refine (num_some (HR9.out.alloc _) m2).mono ?_; rintro e w10 ⟨rfl, hk10, hr10⟩; have hyg : w9.heap.size ≠ g := (by have := HR9.out.lt; omega); have hy := hk10.blk (blk_new w9 (.cells #[.int .i64 K, .int .i64 0, .string ⟨#[]⟩, .int .i64 0] 44)) hyg (by simp); have y1 : w10.cell? ⟨w9.heap.size, 1, none⟩ = some (.int .i64 0) := blk_cell hy 1; have y1f := blk_frozen hy 1; have HY10 := Lib.hid (blk_set hy 1 (.int .i64 (wrap64 (N - 1)))); have HK10 := Lib.hid (keep_far ((keep_alloc HA9.out _).trans hk10 (.inl rfl)) (p := ⟨w9.heap.size, 1, none⟩) HA9.out.1 (.int .i64 (wrap64 (N - 1)))); have HR10 := Lib.hid (hr10.far (p := ⟨w9.heap.size, 1, none⟩) hyg HR9.out.below.size (.int .i64 (wrap64 (N - 1)))); have HS9 := Lib.hid HA9.out.1; have HT9 := Lib.hid HR9.out.below.size; clear HR9 HA9 hk10 hr10 hy))
                                | (go_at_call 31; (have hguard := HR10; clear hguard); go_loud (refine (num_some HR10.out m3).mono ?_; rintro e w11 ⟨rfl, hk11, hr11⟩; have hy := hk11.blk HY10.out hyg (by simp); have z1 : w11.cell? ⟨w9.heap.size, 3, none⟩ = some (.int .i64 0) := blk_cell hy 3; have z1f := blk_frozen hy 3; have HY11 := Lib.hid (blk_set hy 3 (.int .i64 T)); have HK11 := Lib.hid (keep_far (HK10.out.trans hk11 (.inl rfl)) (p := ⟨w9.heap.size, 3, none⟩) HS9.out (.int .i64 T)); have HR11 := Lib.hid (hr11.far (p := ⟨w9.heap.size, 3, none⟩) hyg HT9.out (.int .i64 T)); clear HR10 HK10 HY10 hk11 hr11 hy y1 y1f))
                                | (go_at_call 30; refine (text_none HR11.out 1048576 m4).mono ?_; rintro e w12 ⟨rfl, hk12, hb12⟩))
                              exact ⟨rfl, fell_post hb12 (((HM8.out.kept.keep HI.out.keep).keep HK11.out).keep hk12) HP.out⟩
                            | some q4 =>
                              obtain ⟨s2, z4⟩ := q4
                              have hN : wrap64 (N - 1) = N - 1 := by
                                have t1 := get_inv _ _ _ (getI_by HZB.out m1) m2
                                unfold wrap64
                                omega
                              have HGE : Hid (getE zs = some (⟨K, wrap64 (N - 1), s2, T⟩, z4)) := by
                                refine Lib.hid ?_
                                rw [hN]
                                unfold getE; rw [m1]; simp only [Option.bind_some]; rw [m2]; simp only [Option.bind_some]; rw [m3]; simp only [Option.bind_some]; rw [m4]; rfl
                              clear hN
                              go_wp2_with (first
                                | (go_at_call 28; (have hguard := HZ; clear hguard); go_loud (refine (int_some HZ.out 14 m1).mono ?_; rintro e w9 ⟨rfl, hk9, hr9⟩; have HA9 := Lib.hid hk9; have HR9 := Lib.hid hr9; clear HZ hk9 hr9))
                                | (go_at_call 31; (have hguard := HR9; clear hguard); go_loud (refine (num_some (HR9.out.alloc _) m2).mono ?_; rintro e w10 ⟨rfl, hk10, hr10⟩; have hyg : w9.heap.size ≠ g := (by have := HR9.out.lt; omega); have hy := hk10.blk (blk_new w9 (.cells #[.int .i64 K, .int .i64 0, .string ⟨#[]⟩, .int .i64 0] 44)) hyg (by simp); have y1 : w10.cell? ⟨w9.heap.size, 1, none⟩ = some (.int .i64 0) := blk_cell hy 1; have y1f := blk_frozen hy 1; have HY10 := Lib.hid (blk_set hy 1 (.int .i64 (wrap64 (N - 1)))); have HK10 := Lib.hid (keep_far ((keep_alloc HA9.out _).trans hk10 (.inl rfl)) (p := ⟨w9.heap.size, 1, none⟩) HA9.out.1 (.int .i64 (wrap64 (N - 1)))); have HR10 := Lib.hid (hr10.far (p := ⟨w9.heap.size, 1, none⟩) hyg HR9.out.below.size (.int .i64 (wrap64 (N - 1)))); have HS9 := Lib.hid HA9.out.1; have HT9 := Lib.hid HR9.out.below.size; clear HR9 HA9 hk10 hr10 hy))
                                | (go_at_call 31; (have hguard := HR10; clear hguard); go_loud (refine (num_some HR10.out m3).mono ?_; rintro e w11 ⟨rfl, hk11, hr11⟩; have hy := hk11.blk HY10.out hyg (by simp); have z1 : w11.cell? ⟨w9.heap.size, 3, none⟩ = some (.int .i64 0) := blk_cell hy 3; have z1f := blk_frozen hy 3; have HY11 := Lib.hid (blk_set hy 3 (.int .i64 T)); have HK11 := Lib.hid (keep_far (HK10.out.trans hk11 (.inl rfl)) (p := ⟨w9.heap.size, 3, none⟩) HS9.out (.int .i64 T)); have HR11 := Lib.hid (hr11.far (p := ⟨w9.heap.size, 3, none⟩) hyg HT9.out (.int .i64 T)); clear HR10 HK10 HY10 hk11 hr11 hy y1 y1f))
                                | (go_at_call 30; (have hguard := HR11; clear hguard); go_loud (refine (text_some HR11.out 1048576 m4).mono ?_; rintro e w12 ⟨rfl, hk12, hr12⟩; have hy := hk12.blk HY11.out hyg (by simp); have u0 : w12.cell? ⟨w9.heap.size, 0, none⟩ = some (.int .i64 K) := blk_cell hy 0; have u1 : w12.cell? ⟨w9.heap.size, 1, none⟩ = some (.int .i64 (wrap64 (N - 1))) := blk_cell hy 1; have u2 : w12.cell? ⟨w9.heap.size, 2, none⟩ = some (.string ⟨#[]⟩) := blk_cell hy 2; have u3 : w12.cell? ⟨w9.heap.size, 3, none⟩ = some (.int .i64 T) := blk_cell hy 3; have u2f := blk_frozen hy 2; have HK12 := Lib.hid (keep_far (HK11.out.trans hk12 (.inl rfl)) (p := ⟨w9.heap.size, 2, none⟩) HS9.out (.string s2)); have HR12 := Lib.hid (hr12.far (p := ⟨w9.heap.size, 2, none⟩) hyg HT9.out (.string s2)); have HE12 := Lib.hid (R_keepB HI.out.row HK12.out HG8.out); clear HR11 HK11 HY11 hk12 hr12 hy z1 z1f))
                                | ((with_reducible refine gate_builtin (b := .append) (xs := #[.tmp 50, .tmp 52]) rfl ?_); at_builtin; go_loud (refine Kd.R_append k44 (w0 := w12.setCell ⟨w9.heap.size, 2, none⟩ (.string s2)) w8.heap.size rfl (.tmp 50) (.tmp 52) 46 44 _ 40 rfl Try.underlying46 info44 rfl (by decide) (by omega) (.slice A nA cA) done ⟨K, wrap64 (N - 1), s2, T⟩ [.int .i64 K, .int .i64 (wrap64 (N - 1)), .string s2, .int .i64 T] (fun _ => True) (fun _ => False) rfl (by rw [World.size_setCell]; rfl) ?aP (fun _ hk => hk.elim) ?aF ?aO ?aB ?aS ?aL ?_; (case aP => exact k44_mkM _ _ _ ⟨K, wrap64 (N - 1), s2, T⟩); (case aF => exact fun _ _ => trivial); (case aO => exact HE12.out); (case aB => exact Below.refl _ _); (case aS => exact Nat.le_trans HI.out.keep.1 HK12.out.1); (case aL => exact HLE.out); intro v13 w13 hr13 hb13 _ _; (obtain ⟨A3, n3, c3, rfl⟩ : ∃ A n c, v13 = .slice A n c := by obtain ⟨A, c, e⟩ := Kd.R_slice hr13; exact ⟨A, _, c, e⟩); have HI13 := Lib.hid (HI.out.more HK12.out HR12.out hr13 hb13 HGE.out hjq HG8.out); clear hr13 hb13 HE12 HR12 HK12)))
                              go_roundw
                              case rel => exact ⟨j + 1, A3, n3, c3, _, z4, rfl, by first | rfl | go_num, by omega, HI13⟩
                              case measure => simp [iOf]; omega
                    · obtain rfl : j = qn := by omega
                      have hR := HXS.out _ _ HI.out.last
                      obtain ⟨A1, n1, c1, A2, n2, c2, hcl, hR1, hR2⟩ := HM8.out.at_
                      have HOK := Lib.hid (own_small hR2)
                      have hcl' := HI.out.keep.blk hcl hne.symm (by simp)
                      have f2 : wr.cell? ⟨ge, 2, none⟩ = some (.slice A2 n2 c2) := blk_cell hcl' 2
                      have HCL := Lib.hid hcl'
                      have HR1 := Lib.hid (R_keepB hR1 HI.out.keep hg)
                      have HR2 := Lib.hid (R_keepB hR2 HI.out.keep hg)
                      have HMi := Lib.hid (HM8.out.keep HI.out.keep HI.out.rdr hg hne.symm)
                      have HROW := Lib.hid (Kd.R_lower (Kd.R_mono (Kd.R_bound HI.out.row) (fun k hk => hk.2.1)) HM8.out.kept.1)
                      have HRR := Lib.hid hR
                      clear hcl hcl' hR1 hR2 hR
                      go_wp2_with (first
                        | ((with_reducible refine gate_builtin (b := .append) (xs := #[.tmp 56, .tmp 58]) rfl ?_); at_builtin; go_loud (refine Kd.R_append (Kd.slice 44 k44) (w0 := wr) w.heap.size rfl (.tmp 56) (.tmp 58) 23 46 _ 24 rfl Try.underlying23 info46 rfl (by decide) (by omega) (.slice A2 n2 c2) (l.map (·.2)) done [.slice A nA cA] (fun _ => True) (fun k => w8.heap.size ≤ k) rfl rfl ?aP HOK.out ?aF ?aO ?aB ?aS ?aL ?_; (case aP => exact ⟨_, rfl, HROW.out⟩); (case aF => exact fun _ _ => trivial); (case aO => exact HR2.out); (case aB => exact Below.refl _ _); (case aS => exact HMi.out.kept.1); (case aL => exact HLT.out); intro v13 w13 hr13 hb13 hg13 _; (obtain ⟨A3, n3, c3, rfl⟩ : ∃ A n c, v13 = .slice A n c := by obtain ⟨A, c, e⟩ := Kd.R_slice hr13; exact ⟨A, _, c, e⟩); have h13 := (hb13.block ge hgl).trans HCL.out; have k0 : w13.cell? ⟨ge, 2, none⟩ = some (.slice A2 n2 c2) := blk_cell h13 2; have k1 := blk_frozen h13 2; have HM13 := Lib.hid (HMi.out.tr HCL.out HR1.out HR2.out hr13 hb13 hg13 hg hgl hne.symm hge); clear h13 hr13 hb13 hg13)))
                      go_roundw
                      case rel => exact ⟨k + 1, _, zs, by first | rfl | go_num, by omega, Lib.hid (HO.out.more HM13.out HRR.out hlt)⟩
                      case measure => simp [iOf]; omega
          · obtain rfl : k = m := by omega
            have ho := HO.out
            have hg : getRs k r2 = some (l, ys) := by rw [ho.eq, Nat.sub_self]; simp [getRs]
            have hA := HG.out _ _ hg
            obtain ⟨v1, v2, hcells, hR1, hR2⟩ := ho.ent
            obtain ⟨A1, c1, rfl, hc1, hC1⟩ := Kd.R_reads hR1
            obtain ⟨A2, c2, rfl, hc2, hC2⟩ := Kd.R_reads hR2
            have f0 := blk_cell hcells 0
            have f1 := blk_cell hcells 1
            have f2 := blk_cell hcells 2
            simp only [List.getElem?_toArray, List.getElem?_cons_zero, List.getElem?_cons_succ] at f0 f1 f2
            have hlen := ho.len
            have hsm := ho.some_
            have hrc := (RC wr ⟨G, l.map (·.1), l.map (·.2)⟩ A1 A2 c1 c2 hC1 hC2 hc1 hc2 (by simp only [List.length_map]; omega) (fun t ht => by have := ho.small t ht; omega))
            simp only [List.length_map] at hrc
            have HRC := Lib.hid hrc
            clear hrc
            have HE2 := Lib.hid ho.ent
            have HA := Lib.hid hA
            clear hA hg hcells hR1 hR2 hc1 hC1 hc2 hC2 hlen hsm ho
            cases hr : rightE ⟨G, l.map (·.1), l.map (·.2)⟩ with
            | true =>
              rw [hr] at HRC
              go_wp2_with (first
                | (go_at_call 10; refine HRC.out.mono ?_; rintro e w4 ⟨rfl, hb4⟩)
                | (go_at_call 32; with_reducible refine (need_true _ _).mono ?_; rintro e wq ⟨rfl, rfl⟩))
              go_end0
              have ho := HO.out
              exact ⟨ho.rdr.below.trans (hb4.mono ho.rdr.below.size), ho.kept.below hb4 ho.kept.1, .inl ⟨_, ys, HA.out, hr, rfl, ho.rdr.move hb4 ho.rdr.lt, ho.ent.below hb4⟩⟩
            | false =>
              rw [hr] at HRC
              go_wp2_with (first
                | (go_at_call 10; refine HRC.out.mono ?_; rintro e w4 ⟨rfl, hb4⟩)
                | (go_at_call 32; with_reducible refine (need_false _ _).mono ?_; rintro e wq ⟨rfl, rfl⟩))
              have ho := HO.out
              refine ⟨rfl, fell_post (ho.rdr.below.trans (hb4.mono ho.rdr.below.size)) (ho.kept.below hb4 ho.kept.1) (fun en r h => ?_)⟩
              rw [HA.out] at h
              obtain ⟨rfl, rfl⟩ := Prod.mk.inj (Option.some.inj h)
              exact hr
      · have e3 : getI (r1.length : Int) r1 = none := by rw [getI_eq _ e2, if_neg hn]
        have HP : Hid (∀ en r, getAll xs = some (en, r) → rightE en = false) := by
          refine Lib.hid (getAll_none3 e1 e2 ?_)
          cases h : getRs n.toNat r2 with
          | none => rfl
          | some q =>
            have := getRs_len _ b2 h
            omega
        clear e1 e2 b1 l1 b2 l2 hn
        have HE := Lib.hid hE
        clear hR hE
        go_enter Try.func27, Try.ntmps27
        go_wp2_with (first
          | (go_at_call 28; (have hguard := HF; clear hguard); refine HF.out.mono ?_; rintro e w1 ⟨rfl, hk, hb⟩; clear HF; have h1 := hk.blk HE.out hne.symm (by simp); have f0 := blk_cell h1 0; have f1 := blk_frozen h1 0; (simp only [List.getElem?_toArray, List.getElem?_cons_zero] at f0); have HK := Lib.hid hk; have HR1 := Lib.hid (hb.far (p := ⟨ge, 0, none⟩) hne.symm hge (.int .i64 G)); clear hk hb h1)
          | (go_at_call 29; refine (left_any HR1.out).mono ?_; rintro e w2 ⟨rfl, rfl⟩)
          | (go_at_call 28; refine (int_none HR1.out _ e3).mono ?_; rintro e w3 ⟨rfl, hk3, hb3⟩))
        exact ⟨rfl, fell_post hb3 ((((Kept2.refl w g ge).keep HK.out).set).keep hk3) HP.out⟩
end Go.Proofs.Ytnognmbapciegaa.Bk
