/- tok.Quoted: a text's quote, byte by byte. -/
import Derived.Test.YtonbnfaleboobaaBld
import Derived.Test.YtonbnfaleboobaaShelf
import Derived.Laws.BytesArg
import Derived.Lib.Hide
import Derived.Outline
namespace Go.Proofs.Ytonbnfaleboobaa.Quo
set_option linter.unusedVariables false
set_option linter.unusedSimpArgs false
open Go.RowKit

/-- A digit below 16. -/
def hexI (d : Int) : Int := if d < 10 then 48 + d else 87 + d
def escI (c : Int) : List Int :=
  if c = 10 then [92, 110] else if c = 9 then [92, 116] else if c = 92 then [92, 92] else if c = 34 then [92, 34]
  else if c < 32 ∨ 126 < c then [92, 120, hexI (c / 16), hexI (c % 16)] else [c]
def bI (s : ByteArray) : List Int := s.data.toList.map fun b => (b.toNat : Int)
def quotI (l : List Int) : List Int := 34 :: (l.flatMap escI ++ [34])
def quot (s : ByteArray) : ByteArray := strOfNums (quotI (bI s))
def nU (xs : List Int) : List Value := xs.map (Value.int .u8)

theorem escI_len (c : Int) : (escI c).length ≤ 4 := by
  unfold escI
  repeat' split
  all_goals simp
theorem flat_len (l : List Int) : (l.flatMap escI).length ≤ 4 * l.length := by
  induction l with
  | nil => simp
  | cons c l ih => simp only [List.flatMap_cons, List.length_append, List.length_cons]; have := escI_len c; omega
theorem bI_len (s : ByteArray) : (bI s).length = s.size := by simp [bI]
theorem nU_append (xs ys : List Int) : nU (xs ++ ys) = nU xs ++ nU ys := by simp [nU]
theorem nU_len (xs : List Int) : (nU xs).length = xs.length := by simp [nU]
theorem bI_take (s : ByteArray) (k : Nat) (h : k < s.size) : (bI s).take (k + 1) = (bI s).take k ++ [(s[k].toNat : Int)] := by
  rw [List.take_succ_eq_append_getElem (by rw [bI_len]; exact h)]
  congr 1
  simp [bI]
  rfl

theorem hexI_rng {d : Int} (h : 0 ≤ d ∧ d < 16) : 0 ≤ hexI d ∧ hexI d ≤ 255 := by unfold hexI; split <;> omega
theorem escI_rng {c : Int} (h : 0 ≤ c ∧ c ≤ 255) : ∀ x, x ∈ escI c → 0 ≤ x ∧ x ≤ 255 := by
  have h1 := hexI_rng (d := c / 16) (by omega)
  have h2 := hexI_rng (d := c % 16) (by omega)
  intro x hx
  unfold escI at hx
  repeat' split at hx
  all_goals simp at hx
  all_goals omega
theorem bI_rng (s : ByteArray) : ∀ x, x ∈ bI s → 0 ≤ x ∧ x ≤ 255 := by
  intro x hx
  simp only [bI, List.mem_map] at hx
  obtain ⟨b, _, rfl⟩ := hx
  have := b.toNat_lt
  omega
theorem quotI_rng (s : ByteArray) : ∀ x, x ∈ quotI (bI s) → 0 ≤ x ∧ x ≤ 255 := by
  intro x hx
  simp only [quotI, List.mem_cons, List.mem_append, List.mem_flatMap, List.not_mem_nil, or_false] at hx
  rcases hx with rfl | ⟨c, hc, hx⟩ | rfl
  · omega
  · exact escI_rng (bI_rng s c hc) x hx
  · omega
theorem nU_cells {xs : List Int} (h : ∀ x, x ∈ xs → 0 ≤ x ∧ x ≤ 255) : nU xs = Lib.byteCells (xs.map fun n => UInt8.ofNat n.toNat) := by
  simp only [nU, Lib.byteCells, List.map_map]
  refine List.map_congr_left fun x hx => ?_
  have := h x hx
  simp
  omega
theorem quot_done (s : ByteArray) {b B : Nat} {p : Value} {w : World} (h : Lib.BuilderAt 39 5 B b p (nU (34 :: ((bI s).take s.size).flatMap escI) ++ [.int .u8 34]) w) : Lib.BuilderAt 39 5 B b p (Lib.byteCells ((quotI (bI s)).map fun n => UInt8.ofNat n.toNat)) w := by
  rw [← nU_cells (quotI_rng s)]
  rw [List.take_of_length_le (by rw [bI_len]; exact Nat.le_refl _)] at h
  simpa [quotI, nU] using h
theorem dig_at (n : Nat) (h : n < (⟨#[48, 49, 50, 51, 52, 53, 54, 55, 56, 57, 97, 98, 99, 100, 101, 102]⟩ : ByteArray).size) : (((⟨#[48, 49, 50, 51, 52, 53, 54, 55, 56, 57, 97, 98, 99, 100, 101, 102]⟩ : ByteArray)[n]'h).toNat : Int) = hexI (n : Int) := by
  have key : ∀ n : Fin 16, (((⟨#[48, 49, 50, 51, 52, 53, 54, 55, 56, 57, 97, 98, 99, 100, 101, 102]⟩ : ByteArray)[n.val]'n.isLt).toNat : Int) = hexI (n.val : Int) := by decide +kernel
  exact key ⟨n, h⟩

theorem ch0 (h : 0 < (⟨#[110, 116, 92, 34]⟩ : ByteArray).size) : ((⟨#[110, 116, 92, 34]⟩ : ByteArray)[0]'h).toNat = 110 := rfl
theorem ch1 (h : 1 < (⟨#[110, 116, 92, 34]⟩ : ByteArray).size) : ((⟨#[110, 116, 92, 34]⟩ : ByteArray)[1]'h).toNat = 116 := rfl
theorem ch2 (h : 2 < (⟨#[110, 116, 92, 34]⟩ : ByteArray).size) : ((⟨#[110, 116, 92, 34]⟩ : ByteArray)[2]'h).toNat = 92 := rfl
theorem ch3 (h : 3 < (⟨#[110, 116, 92, 34]⟩ : ByteArray).size) : ((⟨#[110, 116, 92, 34]⟩ : ByteArray)[3]'h).toNat = 34 := rfl

/-- Which of the four bytes with a letter of their own. -/
def ixI (c : Int) : Int := if c = 10 then 0 else if c = 9 then 1 else if c = 92 then 2 else if c = 34 then 3 else -1
theorem ix_eq (u : UInt8) : Lib.indexByte [10, 9, 92, 34] ((u.toNat : Int)).toNat.toUInt8 = ixI (u.toNat : Int) := by
  have hu : ((u.toNat : Int)).toNat.toUInt8 = u := by simp
  rw [hu]
  have key : ∀ n : Nat, n < 256 → Lib.indexByte [10, 9, 92, 34] (UInt8.ofNat n) = ixI (n : Int) := by decide +kernel
  have := key u.toNat u.toNat_lt
  simpa using this
theorem escI_hex {c : Int} (h1 : ixI c = -1) (h2 : c < 32 ∨ 126 < c) : escI c = [92, 120, hexI (c / 16), hexI (c % 16)] := by
  unfold ixI at h1
  unfold escI
  repeat' split at h1
  all_goals first | (exfalso; omega) | skip
  rename_i a b d e
  rw [if_neg a, if_neg b, if_neg d, if_neg e, if_pos h2]
theorem escI_one {c : Int} (h1 : ixI c = -1) (h2 : ¬ (c < 32 ∨ 126 < c)) : escI c = [c] := by
  unfold ixI at h1
  unfold escI
  repeat' split at h1
  all_goals first | (exfalso; omega) | skip
  rename_i a b d e
  rw [if_neg a, if_neg b, if_neg d, if_neg e, if_neg h2]
theorem ixI_cases {c : Int} (h1 : ¬ ixI c = -1) : (c = 10 ∧ ixI c = 0) ∨ (c = 9 ∧ ixI c = 1) ∨ (c = 92 ∧ ixI c = 2) ∨ (c = 34 ∧ ixI c = 3) := by
  unfold ixI at h1 ⊢
  repeat' split
  all_goals simp_all
theorem ix_any (u : UInt8) (w : World) : Calls Try.prog 20 #[.string ⟨#[10, 9, 92, 34]⟩, .int .u8 (u.toNat : Int)] w fun e w' => e = .returned (.int .i64 (ixI (u.toNat : Int))) ∧ w = w' := by
  refine (Try.strings_IndexByte ⟨#[10, 9, 92, 34]⟩ (u.toNat : Int) w).mono ?_
  rintro e w' ⟨rfl, rfl⟩
  exact ⟨by rw [← ix_eq], rfl⟩

set_option maxHeartbeats 4000000 in
set_option maxRecDepth 100000 in
theorem quoted_any (s : ByteArray) (w : World) (hs : 4 * s.size + 2 ≤ 140737488355328) :
    Calls Try.prog 16 #[.string s] w fun e w' => e = .returned (.string (quot s)) ∧ Below w.heap.size w w' := by
  have hb0 : Lib.IsBuilder 39 5 w.heap.size w.heap.size [] (w.alloc (.cells #[.pointer none, .slice none 0 0] 39)) := Lib.fresh_isBuilder 39 5 w
  have hw1 := Bld.writeByte w.heap.size w.heap.size [] 34 _ hb0 (by simp) (by simp)
  go_enter Try.func16, Try.ntmps16
  go_wp2_with (first
    | (go_at_call 19; refine hw1.mono ?_; rintro e w1 ⟨rfl, hB, hb⟩; (have HB := Lib.hid hB; have HW := Lib.hid (((Below.refl w.heap.size w).alloc (Nat.le_refl _) _).trans hb); clear hB hb hw1 hb0)))
  go_loopw [9] (fun i wr => ∃ k : Nat, k ≤ s.size ∧ i = .int .i64 k ∧ Hid (Lib.BuilderAt 39 5 w.heap.size w.heap.size (.pointer (some ⟨w.heap.size, 0, none⟩)) (nU (34 :: ((bI s).take k).flatMap escI)) wr) ∧ Hid (Below w.heap.size w wr)) (fun i _ => s.size - (intOf i).toNat)
  case atStart => exact ⟨0, Nat.zero_le _, rfl, HB, HW⟩
  case round =>
    obtain ⟨k, hk, rfl, HB2, HW2⟩ := hrel
    by_cases hlt : k < s.size
    · obtain ⟨u, hu⟩ : ∃ u : UInt8, s[k] = u := ⟨_, rfl⟩
      have hix := ix_any u
      have hfl := flat_len ((bI s).take k)
      have hln : ((bI s).take k).length ≤ k := List.length_take_le _ _
      have hbl : (nU (34 :: ((bI s).take k).flatMap escI)).length + 4 ≤ 140737488355328 := by simp only [nU_len, List.length_cons]; omega
      have HBL := Lib.hid hbl
      clear hfl hln hbl
      have hmore := bI_take s k hlt
      rw [hu] at hmore
      have HM := Lib.hid hmore
      clear hmore
      by_cases h1 : ixI (u.toNat : Int) = -1
      · rw [h1] at hix
        by_cases h2 : (u.toNat : Int) < 32 ∨ 126 < (u.toNat : Int)
        · have hr16 : 0 ≤ (u.toNat : Int) / 16 ∧ (u.toNat : Int) / 16 < 16 := by have := u.toNat_lt; omega
          have HES : Hid (escI (u.toNat : Int) = [92, 120, hexI ((u.toNat : Int) / 16), hexI ((u.toNat : Int) % 16)]) := escI_hex h1 h2
          by_cases h3 : (u.toNat : Int) < 32
          · have h4 : decide ((u.toNat : Int) < 32) = true := by simpa using h3
            go_wp2_with (first
              | (go_at_call 20; refine (hix _).mono ?_; rintro e wq ⟨rfl, rfl⟩)
              | (go_at_call 19; (have hguard := HB5; clear hguard); refine (Bld.writeByte w.heap.size w.heap.size _ _ _ (.inr HB5.out) (by have := HBL.out; simp only [List.length_append, Lib.strCells_length, List.length_cons, List.length_nil]; have e : (⟨#[92, 120]⟩ : ByteArray).size = 2 := rfl; omega) HW5.out.size).mono ?_; rintro e w6 ⟨rfl, hB, hb⟩; (have HB6 := Lib.hid hB; have HW6 := Lib.hid (HW5.out.trans hb); clear hB hb))
              | (go_at_call 19; (have hguard := HB4; clear hguard); refine (Bld.writeByte w.heap.size w.heap.size _ _ _ (.inr HB4.out) (by have := HBL.out; simp only [List.length_append, Lib.strCells_length, List.length_cons, List.length_nil]; have e : (⟨#[92, 120]⟩ : ByteArray).size = 2 := rfl; omega) HW4.out.size).mono ?_; rintro e w5 ⟨rfl, hB, hb⟩; (have HB5 := Lib.hid hB; have HW5 := Lib.hid (HW4.out.trans hb); clear hB hb))
              | (go_at_call 21; (have hguard := HB2; clear hguard); refine (Bld.writeString w.heap.size w.heap.size _ ⟨#[92, 120]⟩ _ (.inr HB2.out) (by have := HBL.out; have e : (⟨#[92, 120]⟩ : ByteArray).size = 2 := rfl; rw [e]; omega) HW2.out.size).mono ?_; rintro e w4 ⟨rfl, hB, hb⟩; (have HB4 := Lib.hid hB; have HW4 := Lib.hid (HW2.out.trans hb); clear hB hb)))
            go_roundw
            case rel => exact ⟨k + 1, by omega, by go_num, by have hb := HB6.out; rw [dig_at, dig_at] at hb; refine Lib.hid ?_; rw [HM.out, List.flatMap_append]; simpa [nU, HES.out, Lib.strCells] using hb, HW6⟩
            case measure => simp [intOf]; omega
          · have h4 : decide ((u.toNat : Int) < 32) = false := by simpa using h3
            have h5 : decide ((u.toNat : Int) > 126) = true := by simp; omega
            go_wp2_with (first
              | (go_at_call 20; refine (hix _).mono ?_; rintro e wq ⟨rfl, rfl⟩)
              | (go_at_call 19; (have hguard := HB5; clear hguard); refine (Bld.writeByte w.heap.size w.heap.size _ _ _ (.inr HB5.out) (by have := HBL.out; simp only [List.length_append, Lib.strCells_length, List.length_cons, List.length_nil]; have e : (⟨#[92, 120]⟩ : ByteArray).size = 2 := rfl; omega) HW5.out.size).mono ?_; rintro e w6 ⟨rfl, hB, hb⟩; (have HB6 := Lib.hid hB; have HW6 := Lib.hid (HW5.out.trans hb); clear hB hb))
              | (go_at_call 19; (have hguard := HB4; clear hguard); refine (Bld.writeByte w.heap.size w.heap.size _ _ _ (.inr HB4.out) (by have := HBL.out; simp only [List.length_append, Lib.strCells_length, List.length_cons, List.length_nil]; have e : (⟨#[92, 120]⟩ : ByteArray).size = 2 := rfl; omega) HW4.out.size).mono ?_; rintro e w5 ⟨rfl, hB, hb⟩; (have HB5 := Lib.hid hB; have HW5 := Lib.hid (HW4.out.trans hb); clear hB hb))
              | (go_at_call 21; (have hguard := HB2; clear hguard); refine (Bld.writeString w.heap.size w.heap.size _ ⟨#[92, 120]⟩ _ (.inr HB2.out) (by have := HBL.out; have e : (⟨#[92, 120]⟩ : ByteArray).size = 2 := rfl; rw [e]; omega) HW2.out.size).mono ?_; rintro e w4 ⟨rfl, hB, hb⟩; (have HB4 := Lib.hid hB; have HW4 := Lib.hid (HW2.out.trans hb); clear hB hb)))
            go_roundw
            case rel => exact ⟨k + 1, by omega, by go_num, by have hb := HB6.out; rw [dig_at, dig_at] at hb; refine Lib.hid ?_; rw [HM.out, List.flatMap_append]; simpa [nU, HES.out, Lib.strCells] using hb, HW6⟩
            case measure => simp [intOf]; omega
        · have h4 : decide ((u.toNat : Int) < 32) = false := by simp; omega
          have h5 : decide ((u.toNat : Int) > 126) = false := by simp; omega
          have HES : Hid (escI (u.toNat : Int) = [(u.toNat : Int)]) := escI_one h1 h2
          go_wp2_with (first
            | (go_at_call 20; refine (hix _).mono ?_; rintro e wq ⟨rfl, rfl⟩)
            | (go_at_call 19; (have hguard := HB2; clear hguard); refine (Bld.writeByte w.heap.size w.heap.size _ _ _ (.inr HB2.out) (by have := HBL.out; simp [nU_len] at this ⊢; omega) HW2.out.size).mono ?_; rintro e w3 ⟨rfl, hB, hb⟩; (have HB3 := Lib.hid hB; have HW3 := Lib.hid (HW2.out.trans hb); clear hB hb)))
          go_roundw
          case rel => exact ⟨k + 1, by omega, by go_num, by rw [HM.out, List.flatMap_append]; simpa [nU, HES.out] using HB3, HW3⟩
          case measure => simp [intOf]; omega
      · rcases ixI_cases h1 with ⟨h2, h3⟩ | ⟨h2, h3⟩ | ⟨h2, h3⟩ | ⟨h2, h3⟩
        all_goals
          rw [h3] at hix
          have HES := Lib.hid h2
          clear h1 h2 h3
          go_wp2_with (first
            | (go_at_call 20; refine (hix _).mono ?_; rintro e wq ⟨rfl, rfl⟩)
            | (go_at_call 19; (have hguard := HB3; clear hguard); refine (Bld.writeByte w.heap.size w.heap.size _ _ _ (.inr HB3.out) (by have := HBL.out; first | omega | (simp only [List.length_append, List.length_cons, List.length_nil]; omega)) HW3.out.size).mono ?_; rintro e w4 ⟨rfl, hB, hb⟩; (have HB4 := Lib.hid hB; have HW4 := Lib.hid (HW3.out.trans hb); clear hB hb))
            | (go_at_call 19; (have hguard := HB2; clear hguard); refine (Bld.writeByte w.heap.size w.heap.size _ _ _ (.inr HB2.out) (by have := HBL.out; first | omega | (simp only [List.length_append, List.length_cons, List.length_nil]; omega)) HW2.out.size).mono ?_; rintro e w3 ⟨rfl, hB, hb⟩; (have HB3 := Lib.hid hB; have HW3 := Lib.hid (HW2.out.trans hb); clear hB hb)))
          go_roundw
          case rel => exact ⟨k + 1, by omega, by go_num, by have hb := HB4.out; have hm := HM.out; rw [HES.out] at hm; refine Lib.hid ?_; rw [hm, List.flatMap_append]; simpa [nU, escI, ch0, ch1, ch2, ch3] using hb, HW4⟩
          case measure => simp [intOf]; omega
    · obtain rfl : k = s.size := by omega
      have hfl := flat_len ((bI s).take s.size)
      have hln : ((bI s).take s.size).length ≤ s.size := List.length_take_le _ _
      have hbl : (nU (34 :: ((bI s).take s.size).flatMap escI)).length + 1 ≤ 140737488355328 := by simp only [nU_len, List.length_cons]; omega
      have HBL := Lib.hid hbl
      clear hfl hln hbl
      go_wp2_with (first
        | (go_at_call 19; refine (Bld.writeByte w.heap.size w.heap.size _ _ _ (.inr HB2.out) HBL.out HW2.out.size).mono ?_; rintro e w3 ⟨rfl, hB, hb⟩; (have HB3 := Lib.hid (quot_done s hB); have HW3 := Lib.hid (HW2.out.trans hb); clear hB hb))
        | (go_at_call 22; refine (Try.Builder_String_any w.heap.size w.heap.size ((quotI (bI s)).map fun n => UInt8.ofNat n.toNat) _ (.inr HB3.out) HW3.out.size).mono ?_; rintro e w4 ⟨rfl, hb⟩; (have HW4 := Lib.hid (HW3.out.trans hb); clear hb)))
      go_ret
      exact ⟨rfl, HW4.out⟩

end Go.Proofs.Ytonbnfaleboobaa.Quo
