/- TalkFirst: what is plain of it. -/
import Derived.Test.YtjnfomgehfmllaaTu
namespace Go.Proofs.Ytjnfomgehfmllaa.Tk
set_option linter.unusedVariables false
set_option linter.unusedSimpArgs false
open Go.RowKit Go.Proofs.Ytjnfomgehfmllaa.Mem Go.Proofs.Ytjnfomgehfmllaa.By Go.Proofs.YtjnfomgehfmllaaW.PrintWords Go.Proofs.YtjnfomgehfmllaaW.PrintLast Go.Proofs.YtjnfomgehfmllaaW.PrintMore

def catC (l : List (Int × List Int)) : List Int := l.flatMap (·.2)
theorem catC_snoc {l : List (Int × List Int)} {i : Nat} (h : i < l.length) : catC (l.take (i + 1)) = catC (l.take i) ++ (l[i]).2 := by
  unfold catC
  rw [List.take_succ_eq_append_getElem h, List.flatMap_append, List.flatMap_cons, List.flatMap_nil, List.append_nil]
theorem catC_rng {l : List (Int × List Int)} (h : ∀ c ∈ l, Rng c.2) (i : Nat) : Rng (catC (l.take i)) := by
  intro x hx
  unfold catC at hx
  obtain ⟨c, hc, hx⟩ := List.mem_flatMap.1 hx
  exact h c (List.mem_of_mem_take hc) x hx
abbrev clF (one two : ByteArray) : List Cl := [(1, some one), (1, some two)]
def wantF (one two : ByteArray) (b : List Int) : Int := if 0 ≤ ix b one then 0 else if 0 ≤ ix b two then 1 else -1
theorem look_F (one two : ByteArray) (b : List Int) : lookP (clF one two) b 0 = if 0 ≤ ix b one then some (0, ix b one, ix b one + (one.size : Int)) else if 0 ≤ ix b two then some (1, ix b two, ix b two + (two.size : Int)) else none := by
  simp only [clF, lookP]
abbrev UF : Int := 1125899906842624
abbrev BF : Int := 2251799813685248
structure RunF (s : Ln) (one two : ByteArray) (i : Nat) (d : Ld) (came : Bool) : Prop where
  at_ : d.at_ = i
  ge : 0 ≤ d.last
  le : d.last ≤ (i : Int) * 1000000
  eq : waitP s (clF one two) 2000 UF BF (s.chunks.length + 1) ⟨0, 0, 0⟩ [] false 0 = waitP s (clF one two) 2000 UF BF (s.chunks.length + 1 - i) d (catC (s.chunks.take i)) came 0
theorem wait_go {s : Ln} {one two : ByteArray} {k : Nat} {d : Ld} {b : List Int} {came : Bool} (h : lookP (clF one two) b 0 = none) : waitP s (clF one two) 2000 UF BF (k + 1) d b came 0 =
    if (nextP s d UF).1 = 1 then waitP s (clF one two) 2000 UF BF k (nextP s d UF).2.2 (putP 2000 b (nextP s d UF).2.1) true (0 + ((over 2000 b (nextP s d UF).2.1 : Nat) : Int))
    else if (nextP s d UF).1 = 2 then (⟨3, -1, [], 0⟩, (nextP s d UF).2.2, b)
    else if (nextP s d UF).1 = 3 then (⟨4, -1, [], 0⟩, (nextP s d UF).2.2, b)
    else (⟨5, -1, [], 0⟩, (nextP s d UF).2.2, b) := by
  have h7 : firstK (clF one two) 7 0 = -1 := by simp [firstK]
  have h6 : firstK (clF one two) 6 0 = -1 := by simp [firstK]
  have h5 : firstK (clF one two) 5 0 = -1 := by simp [firstK]
  have h4 : firstK (clF one two) 4 0 = -1 := by simp [firstK]
  have hm : min UF BF = UF := by decide
  rw [waitP, h]
  simp only [h7, h6, h5, h4, hm]
  rw [if_neg (by omega)]
  have hb : ¬ BF < UF := by decide
  simp only [if_neg hb]
theorem run_zero (s : Ln) (one two : ByteArray) : RunF s one two 0 ⟨0, 0, 0⟩ false := ⟨rfl, Int.le_refl _, by simp, rfl⟩
theorem run_next {s : Ln} {one two : ByteArray} {i : Nat} {d : Ld} {came : Bool} (h : RunF s one two i d came) (hi : i < s.chunks.length) (hn : s.chunks.length ≤ 30) (hl : lookP (clF one two) (catC (s.chunks.take i)) 0 = none) (hb : (catC (s.chunks.take (i + 1))).length ≤ 2000) : ∃ d', RunF s one two (i + 1) d' true := by
  obtain ⟨h1, h2, h3, h4⟩ := h
  have ht := ticks_rng (s.chunks[i]).1
  have hd : due s d = (d.last + ticks (s.chunks[i]).1, 1) := by
    unfold due; rw [h1, List.getElem?_eq_getElem hi]
  have hi' : (i : Int) ≤ 30 := by omega
  have hnx : nextP s d UF = (1, (s.chunks[i]).2, ⟨i + 1, max d.now (d.last + ticks (s.chunks[i]).1), d.last + ticks (s.chunks[i]).1⟩) := by
    unfold nextP
    rw [hd, if_neg (by simp only; unfold UF; omega), if_neg (by simp), h1, List.getElem?_eq_getElem hi]
    rfl
  rw [catC_snoc hi] at hb
  have ho : over 2000 (catC (s.chunks.take i)) (s.chunks[i]).2 = 0 := by unfold over; rw [List.length_append] at hb; omega
  refine ⟨⟨i + 1, max d.now (d.last + ticks (s.chunks[i]).1), d.last + ticks (s.chunks[i]).1⟩, rfl, ?_, ?_, ?_⟩
  · simp only; omega
  · simp only; push_cast; omega
  · rw [h4, show s.chunks.length + 1 - i = (s.chunks.length - i) + 1 by omega, wait_go hl, hnx]
    simp only
    rw [if_pos trivial, ho, catC_snoc hi]
    have hp : putP 2000 (catC (s.chunks.take i)) (s.chunks[i]).2 = catC (s.chunks.take i) ++ (s.chunks[i]).2 := by unfold putP; rw [ho]; rfl
    rw [hp, show s.chunks.length - i = s.chunks.length + 1 - (i + 1) by omega]
    rfl
theorem run_found {s : Ln} {one two : ByteArray} {i : Nat} {d : Ld} {came : Bool} (h : RunF s one two i d came) (hi : i ≤ s.chunks.length) {q : Nat × Int × Int} (hl : lookP (clF one two) (catC (s.chunks.take i)) 0 = some q) : waitP s (clF one two) 2000 UF BF (s.chunks.length + 1) ⟨0, 0, 0⟩ [] false 0 = (⟨1, (q.1 : Int), ((catC (s.chunks.take i)).take q.2.2.toNat).drop q.2.1.toNat, 0⟩, d, (catC (s.chunks.take i)).drop q.2.2.toNat) := by
  rw [h.eq]
  exact wait_some hl.symm (by omega)
theorem run_over {s : Ln} {one two : ByteArray} {d : Ld} {came : Bool} (h : RunF s one two s.chunks.length d came) (hl : lookP (clF one two) (catC (s.chunks.take s.chunks.length)) 0 = none) : ∃ K d', (K = 3 ∨ K = 4 ∨ K = 5) ∧ d'.at_ = s.chunks.length ∧ waitP s (clF one two) 2000 UF BF (s.chunks.length + 1) ⟨0, 0, 0⟩ [] false 0 = (⟨K, -1, [], 0⟩, d', catC (s.chunks.take s.chunks.length)) := by
  obtain ⟨h1, h2, h3, h4⟩ := h
  rw [h4, show s.chunks.length + 1 - s.chunks.length = 0 + 1 by omega, wait_go hl]
  have hk := due_kinds s d
  have hne : (due s d).2 ≠ 1 := by
    intro e
    unfold due at e
    rw [h1, List.getElem?_eq_none (Nat.le_refl _)] at e
    simp only at e
    split at e
    · cases e
    · split at e <;> cases e
  have hat : (nextP s d UF).2.2.at_ = s.chunks.length := by
    unfold nextP
    split
    · exact h1
    · exact h1
  have hn1 : (nextP s d UF).1 ≠ 1 := by
    unfold nextP
    split
    · show (4 : Int) ≠ 1
      decide
    · exact hne
  rw [if_neg hn1]
  by_cases e2 : (nextP s d UF).1 = 2
  · rw [if_pos e2]; exact ⟨3, _, .inl rfl, hat, rfl⟩
  · rw [if_neg e2]
    by_cases e3 : (nextP s d UF).1 = 3
    · rw [if_pos e3]; exact ⟨4, _, .inr (.inl rfl), hat, rfl⟩
    · rw [if_neg e3]; exact ⟨5, _, .inr (.inr rfl), hat, rfl⟩
/-- What is found is the text. -/
theorem found_text {b : List Int} {x : ByteArray} (h : 0 ≤ ix b x) : strOfNums ((b.take (ix b x + (x.size : Int)).toNat).drop (ix b x).toNat) = x := by
  have hl : x.data.toList.length = x.size := by simp
  rcases Lib.index_spec (Lib.bytesOf b) x.data.toList with ⟨h1, _⟩ | ⟨i, h1, h2, h3, _⟩
  · unfold ix at h; omega
  · have e : ix b x = (i : Int) := h1
    rw [e]
    have e1 : ((i : Int) + (x.size : Int)).toNat = i + x.size := by omega
    have e2 : ((i : Int)).toNat = i := by omega
    rw [e1, e2]
    unfold Lib.occAt at h3
    rw [List.isPrefixOf_iff_prefix, List.prefix_iff_eq_take, hl] at h3
    have hb : Lib.bytesOf ((b.take (i + x.size)).drop i) = x.data.toList := by
      unfold Lib.bytesOf at h3 ⊢
      rw [List.drop_take, show i + x.size - i = x.size by omega, List.map_take, List.map_drop]
      exact h3.symm
    unfold strOfNums
    unfold Lib.bytesOf at hb
    rw [hb]
theorem has_ix (b : List Int) (x : ByteArray) : Lib.index (strOfNums b).data.toList x.data.toList = ix b x := ix_str b x
theorem str_app (a b : List Int) : strOfNums (a ++ b) = strOfNums a ++ strOfNums b := by
  unfold strOfNums
  simp [ByteArray.ext_iff]
end Go.Proofs.Ytjnfomgehfmllaa.Tk
