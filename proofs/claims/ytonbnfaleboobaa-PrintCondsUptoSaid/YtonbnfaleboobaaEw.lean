/- Plain: the printed functions of words, quotes, right conditions: what they answer. -/
import Derived.Test.YtonbnfaleboobaaEv
import Derived.Test.YtonbnfaleboobaaCt
import Derived.Test.YtonbnfaleboobaaPPrintCondsx4

namespace Go.Proofs.Ytonbnfaleboobaa.Pr
set_option linter.unusedVariables false
set_option linter.unusedSimpArgs false
open Go.RowKit Go.Proofs.Ytonbnfaleboobaa.PPrintConds Quo Go.Proofs.YtonbnfaleboobaaW.PrintWords

theorem w64 {z : Int} (h0 : -9223372036854775808 ≤ z) (h1 : z ≤ 9223372036854775807) : wrap64 z = z := by unfold wrap64; omega

def letB (c : Int) : Bool := (decide (97 ≤ c) && decide (c ≤ 122)) || (decide (65 ≤ c) && decide (c ≤ 90))
def digB (c : Int) : Bool := decide (48 ≤ c) && decide (c ≤ 57)
def okW (c : Int) : Bool := letB c || (digB c || (c == 45 || c == 95))
def wallB (s : ByteArray) : Nat → Nat → Bool
  | 0, _ => true
  | d + 1, i => okW (bt s (i : Int)) && wallB s d (i + 1)
def wordB (s : ByteArray) : Bool := decide (1 ≤ s.size ∧ s.size ≤ 40) && (letB (bt s 0) && wallB s s.size 0)

theorem letter1 (c : Int) : name_letter.f c = some (letB c) := by
  unfold name_letter.f
  have e : letB c = decide ((97 ≤ c ∧ c ≤ 122) ∨ (65 ≤ c ∧ c ≤ 90)) := by unfold letB; simp
  rw [e]
  repeat' split
  all_goals congr 1
  all_goals first | (symm; rw [decide_eq_true_iff]; omega) | (symm; rw [decide_eq_false_iff_not]; omega) | (rw [decide_eq_decide]; omega)
theorem letter2 (c : Int) : colloquyref02_Letter.f c = some (letB c) := by
  unfold colloquyref02_Letter.f
  have e : letB c = decide ((97 ≤ c ∧ c ≤ 122) ∨ (65 ≤ c ∧ c ≤ 90)) := by unfold letB; simp
  rw [e]
  repeat' split
  all_goals congr 1
  all_goals first | (symm; rw [decide_eq_true_iff]; omega) | (symm; rw [decide_eq_false_iff_not]; omega) | (rw [decide_eq_decide]; omega)
theorem digit1 (c : Int) : name_digit.f c = some (digB c) := by
  unfold name_digit.f
  have e : digB c = decide (48 ≤ c ∧ c ≤ 57) := by unfold digB; simp
  rw [e]
  split
  all_goals congr 1
  all_goals first | (symm; rw [decide_eq_false_iff_not]; omega) | (rw [decide_eq_decide]; omega)
theorem digit2 (c : Int) : colloquyref02_Digit.f c = some (digB c) := by
  unfold colloquyref02_Digit.f
  have e : digB c = decide (48 ≤ c ∧ c ≤ 57) := by unfold digB; simp
  rw [e]
  split
  all_goals congr 1
  all_goals first | (symm; rw [decide_eq_false_iff_not]; omega) | (rw [decide_eq_decide]; omega)

theorem wall1_ev (s : ByteArray) (hs : s.size ≤ 1000000) : ∀ (d i : Nat), d + i = s.size → Fac.Ev (fun k => name_Word.l0 k s (s.size : Int) (i : Int)) (wallB s d i) := by
  intro d
  induction d with
  | zero =>
    intro i hi
    refine Fac.Ev.succ ((Fac.Ev.ret _).congr fun k => ?_)
    rw [name_Word.l0, if_neg (by omega)]
    rfl
  | succ d ih =>
    intro i hi
    refine Fac.Ev.succ ?_
    have hn := ih (i + 1) (by omega)
    have hw : wrap64 ((i : Int) + 1) = ((i + 1 : Nat) : Int) := by rw [w64 (by omega) (by omega)]; omega
    cases ho : okW (bt s (i : Int)) with
    | true =>
      have e : wallB s (d + 1) i = wallB s d (i + 1) := by simp [wallB, ho]
      rw [e]
      refine hn.congr fun k => ?_
      rw [name_Word.l0, if_pos (by omega), if_pos (by omega), if_pos (by omega), letter1, hw]
      simp only [Option.bind_some, digit1]
      unfold okW at ho
      by_cases h1 : letB (bt s (i : Int)) = true
      · rw [if_pos h1]
      · rw [if_neg h1]
        by_cases h2 : digB (bt s (i : Int)) = true
        · rw [if_pos h2]
        · rw [if_neg h2]
          by_cases h3 : bt s (i : Int) = 45
          · rw [if_pos h3]
          · rw [if_neg h3, if_pos (by simpa [h1, h2, h3] using ho)]
    | false =>
      have e : wallB s (d + 1) i = false := by simp [wallB, ho]
      rw [e]
      refine (Fac.Ev.ret _).congr fun k => ?_
      unfold okW at ho
      simp only [Bool.or_eq_false_iff, beq_eq_false_iff_ne] at ho
      obtain ⟨h1, h2, h3, h4⟩ := ho
      rw [name_Word.l0, if_pos (by omega), if_pos (by omega), if_pos (by omega), letter1]
      simp [digit1, h1, h2, h3, h4]

theorem word1_ev (s : ByteArray) : Fac.Ev (fun k => name_Word.f k s) (wordB s) := by
  by_cases h1 : s.size < 1
  · have e : wordB s = false := by unfold wordB; rw [decide_eq_false (by omega)]; rfl
    rw [e]
    have : Fac.Ev (fun k => name_Word.j0 k s true) false := Fac.Ev.succ ((Fac.Ev.ret _).congr fun k => by simp [name_Word.j0])
    refine this.congr fun k => ?_
    rw [name_Word.f, if_pos (by omega)]
  · by_cases h2 : 40 < s.size
    · have e : wordB s = false := by unfold wordB; rw [decide_eq_false (by omega)]; rfl
      rw [e]
      have : Fac.Ev (fun k => name_Word.j0 k s true) false := Fac.Ev.succ ((Fac.Ev.ret _).congr fun k => by simp [name_Word.j0])
      refine this.congr fun k => ?_
      rw [name_Word.f, if_neg (by omega), if_pos (by omega)]
    · cases hl : letB (bt s 0) with
      | true =>
        have e : wordB s = wallB s s.size 0 := by unfold wordB; rw [decide_eq_true (by omega), hl]; rfl
        rw [e]
        have : Fac.Ev (fun k => name_Word.j0 k s false) (wallB s s.size 0) := Fac.Ev.succ ((wall1_ev s (by omega) s.size 0 (by omega)).congr fun k => by simp [name_Word.j0])
        refine this.congr fun k => ?_
        rw [name_Word.f, if_neg (by omega), if_neg (by omega), if_pos (by omega), letter1, hl]
        rfl
      | false =>
        have e : wordB s = false := by unfold wordB; rw [hl]; simp
        rw [e]
        have : Fac.Ev (fun k => name_Word.j0 k s true) false := Fac.Ev.succ ((Fac.Ev.ret _).congr fun k => by simp [name_Word.j0])
        refine this.congr fun k => ?_
        rw [name_Word.f, if_neg (by omega), if_neg (by omega), if_pos (by omega), letter1, hl]
        rfl

theorem wall2_ev (s : ByteArray) (hs : s.size ≤ 9223372036854775807) : ∀ (d i : Nat), d + i = s.size → 0 < i → Fac.Ev (fun k => colloquyref02_Word.l0 k s (i : Int)) (wallB s d i && decide (s.size ≤ 40)) := by
  intro d
  induction d with
  | zero =>
    intro i hi h0
    refine Fac.Ev.succ ((Fac.Ev.ret _).congr fun k => ?_)
    rw [colloquyref02_Word.l0, if_neg (by omega), if_pos (by omega)]
    simp [wallB]
    omega
  | succ d ih =>
    intro i hi h0
    refine Fac.Ev.succ ?_
    have hn := ih (i + 1) (by omega) (by omega)
    have hw : wrap64 ((i : Int) + 1) = ((i + 1 : Nat) : Int) := by rw [w64 (by omega) (by omega)]; omega
    cases ho : okW (bt s (i : Int)) with
    | true =>
      have e : wallB s (d + 1) i = wallB s d (i + 1) := by simp [wallB, ho]
      rw [e]
      refine hn.congr fun k => ?_
      rw [colloquyref02_Word.l0, if_pos (by omega), if_pos (by omega), letter2, hw]
      simp only [Option.bind_some, digit2]
      unfold okW at ho
      by_cases h1 : letB (bt s (i : Int)) = true
      · rw [if_pos h1]
      · rw [if_neg h1, if_neg (by omega)]
        by_cases h2 : digB (bt s (i : Int)) = true
        · rw [if_pos h2]
        · rw [if_neg h2]
          by_cases h3 : bt s (i : Int) = 45
          · rw [if_pos h3]
          · rw [if_neg h3, if_pos (by simpa [h1, h2, h3] using ho)]
    | false =>
      have e : wallB s (d + 1) i = false := by simp [wallB, ho]
      rw [e]
      refine (Fac.Ev.ret _).congr fun k => ?_
      unfold okW at ho
      simp only [Bool.or_eq_false_iff, beq_eq_false_iff_ne] at ho
      obtain ⟨h1, h2, h3, h4⟩ := ho
      rw [colloquyref02_Word.l0, if_pos (by omega), if_pos (by omega), letter2]
      simp [digit2, h1, h2, h3, h4]

theorem word2_ev (s : ByteArray) (hs : s.size ≤ 9223372036854775807) : Fac.Ev (fun k => colloquyref02_Word.f k s) (wordB s) := by
  refine (show Fac.Ev (fun k => colloquyref02_Word.l0 k s 0) (wordB s) from Fac.Ev.succ ?_).congr fun k => rfl
  by_cases h0 : s.size = 0
  · have e : wordB s = false := by unfold wordB; rw [decide_eq_false (by omega)]; rfl
    rw [e]
    refine (Fac.Ev.ret _).congr fun k => ?_
    rw [colloquyref02_Word.l0, if_neg (by omega), if_neg (by omega)]
  · obtain ⟨d, hd⟩ : ∃ d, s.size = d + 1 := ⟨s.size - 1, by omega⟩
    cases hl : letB (bt s 0) with
    | true =>
      have hn := wall2_ev s hs d 1 (by omega) (by omega)
      have e : wordB s = (wallB s d 1 && decide (s.size ≤ 40)) := by
        unfold wordB
        rw [hl, hd]
        have : okW (bt s ((0 : Nat) : Int)) = true := by unfold okW; simp; exact .inl hl
        simp only [wallB, this, Bool.true_and]
        rw [Bool.and_comm]
        congr 1
        simp
      rw [e]
      refine hn.congr fun k => ?_
      rw [colloquyref02_Word.l0, if_pos (by omega), if_pos (by omega), letter2, hl]
      simp only [Option.bind_some, if_true]
      rw [w64 (by omega) (by omega)]
      rfl
    | false =>
      have e : wordB s = false := by unfold wordB; rw [hl]; simp
      rw [e]
      refine (Fac.Ev.ret _).congr fun k => ?_
      rw [colloquyref02_Word.l0, if_pos (by omega), if_pos (by omega), letter2, hl]
      simp

end Go.Proofs.Ytonbnfaleboobaa.Pr
