/- Plain: what a Star, a Plus, a Star of a Star take. -/
import Derived.Test.YtmhodkkfbbpgaaaMs
namespace Go.Proofs.Ytmhodkkfbbpgaaa.Nm
set_option linter.unusedVariables false
set_option linter.unusedSimpArgs false
open Go.RowKit Mem Re Tree Fac Go.Proofs.Ytmhodkkfbbpgaaa.PNfa Go.Proofs.YtmhodkkfbbpgaaaW.PrintWords Go.Proofs.YtmhodkkfbbpgaaaW.PrintLast Go.Proofs.YtmhodkkfbbpgaaaW.PrintMore

theorem re_star (x : Nd) : re ⟨4, [], [x]⟩ = .star (re x) := by simp [re, reK]
theorem re_plus (x : Nd) : re ⟨5, [], [x]⟩ = .plus (re x) := by simp [re, reK]
theorem re_maybe (x : Nd) : re ⟨6, [], [x]⟩ = .maybe (re x) := by simp [re, reK]
theorem re_alt (x y : Nd) : re ⟨3, [], [x, y]⟩ = .alt [re x, re y] := by simp [re, reL]
theorem re_cat (x y : Nd) : re ⟨2, [], [x, y]⟩ = .cat [re x, re y] := by simp [re, reL]

theorem lg_eq {s : ByteArray} {r r' : Re} (i : Nat) (hi : i ≤ s.size) (h : ∀ j, mt (bS s) s.size r i j ↔ mt (bS s) s.size r' i j) : lg s r (i : Int) = lg s r' (i : Int) := by
  rcases lg_cases s r hi with ⟨e1, h1⟩ | ⟨j1, e1, _, _, h1, m1⟩ <;> rcases lg_cases s r' hi with ⟨e2, h2⟩ | ⟨j2, e2, _, _, h2, m2⟩
  · rw [e1, e2]
  · exact (h1 j2 ((h j2).2 h2)).elim
  · exact (h2 j1 ((h j1).1 h1)).elim
  · have := m1 j2 ((h j2).2 h2)
    have := m2 j1 ((h j1).1 h1)
    rw [e1, e2]; omega

theorem clo_clo {R : Nat → Nat → Prop} {i j : Nat} (h : Clo (Clo R) i j) : Clo R i j := by
  induction h with
  | refl => exact .refl _
  | step a _ ih => exact a.trans ih
theorem clo_one {R : Nat → Nat → Prop} {i j : Nat} (h : R i j) : Clo R i j := .step h (.refl _)

theorem loops_fact (s : ByteArray) (r : Re) {i : Nat} (hi : i ≤ s.size) :
    ∃ to_ : Nat, lg s (.star r) (i : Int) = to_ ∧ i ≤ to_ ∧ to_ ≤ s.size ∧ lg s (.star (.star r)) (i : Int) = to_ ∧ lg s r (i : Int) ≤ to_ ∧ lg s r (to_ : Int) ≤ to_ ∧
      (lg s r (i : Int) < 0 → to_ = i ∧ lg s (.plus r) (i : Int) = -1) ∧ (¬ lg s r (i : Int) < 0 → lg s (.plus r) (i : Int) = to_) := by
  have hst : ∀ a j, mt (bS s) s.size (.star r) a j ↔ Clo (mt (bS s) s.size r) a j := fun a j => by simp only [Re.mt]
  have hpl : ∀ a j, mt (bS s) s.size (.plus r) a j ↔ ∃ m, mt (bS s) s.size r a m ∧ Clo (mt (bS s) s.size r) m j := fun a j => by simp only [Re.mt]
  have hss : ∀ j, mt (bS s) s.size (.star (.star r)) i j ↔ mt (bS s) s.size (.star r) i j := fun j => by
    simp only [Re.mt]
    exact ⟨clo_clo, clo_one⟩
  rcases lg_cases s (.star r) hi with ⟨_, h0⟩ | ⟨t, e1, e2, e3, e4, e5⟩
  · exact (h0 i ((hst i i).2 (.refl _))).elim
  have et := (hst i t).1 e4
  refine ⟨t, e1, e2, e3, by rw [lg_eq i hi hss, e1], ?_, ?_, ?_, ?_⟩
  · rcases lg_cases s r hi with ⟨e, _⟩ | ⟨j, e, _, _, h, _⟩
    · omega
    · have := e5 j ((hst i j).2 (clo_one h)); omega
  · rcases lg_cases s r e3 with ⟨e, _⟩ | ⟨j, e, _, _, h, _⟩
    · omega
    · have := e5 j ((hst i j).2 (et.trans (clo_one h))); omega
  · intro hneg
    rcases lg_cases s r hi with ⟨e, hno⟩ | ⟨j, e, _, _, h, _⟩
    · refine ⟨?_, ?_⟩
      · cases et with
        | refl => rfl
        | step a _ => exact (hno _ a).elim
      · rcases lg_cases s (.plus r) hi with ⟨e, _⟩ | ⟨j, _, _, _, h, _⟩
        · exact e
        · obtain ⟨m, h1, _⟩ := (hpl i j).1 h
          exact (hno m h1).elim
    · omega
  · intro hpos
    rcases lg_cases s r hi with ⟨e, hno⟩ | ⟨j, e, hij, _, h, _⟩
    · omega
    · have hp : mt (bS s) s.size (.plus r) i t := by
        refine (hpl i t).2 ?_
        cases et with
        | refl =>
          have := e5 j ((hst i j).2 (clo_one h))
          obtain rfl : j = i := by omega
          exact ⟨j, h, .refl _⟩
        | step a b => exact ⟨_, a, b⟩
      rcases lg_cases s (.plus r) hi with ⟨_, hn⟩ | ⟨j2, e6, _, _, h2, m2⟩
      · exact (hn t hp).elim
      · have h3 := m2 t hp
        obtain ⟨m, q1, q2⟩ := (hpl i j2).1 h2
        have h4 := e5 j2 ((hst i j2).2 (.step q1 q2))
        rw [e6]; omega

theorem right1 {k : Int} (hk : 1 ≤ k ∧ k ≤ 6) (x : Nd) : rightT ⟨k, [], [x]⟩ ↔ rightT x := by simp [rightT, rightL]; intro _; omega
theorem len1 {k : Int} {x : Nd} (h : lenT x) : lenT ⟨k, [], [x]⟩ := by simp [lenT, lenL, lenMax]; exact h
theorem ok1 {k : Int} (hk : 1 ≤ k ∧ k ≤ 6) {x : Nd} (h : okT x) : okT ⟨k, [], [x]⟩ := by simp [okT, okL]; exact ⟨by omega, h⟩
theorem sz1 (k : Int) (x : Nd) : sz ⟨k, [], [x]⟩ = 1 + sz x := by simp [sz, szL]
theorem dp1 (k : Int) (x : Nd) : dp ⟨k, [], [x]⟩ = 1 + dp x := by simp [dp, dpL]

end Go.Proofs.Ytmhodkkfbbpgaaa.Nm
