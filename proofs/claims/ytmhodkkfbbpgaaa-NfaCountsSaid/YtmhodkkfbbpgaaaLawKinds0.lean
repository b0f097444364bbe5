/- Plain: what an Alt, a Maybe, a Cat with a Star of all bytes take; what trees of one byte take in a text of that byte. -/
import Derived.Test.YtmhodkkfbbpgaaaLawLoops0
namespace Go.Proofs.Ytmhodkkfbbpgaaa.Nm
set_option linter.unusedVariables false
set_option linter.unusedSimpArgs false
open Go.RowKit Mem Re Tree Fac Go.Proofs.Ytmhodkkfbbpgaaa.PNfa Go.Proofs.YtmhodkkfbbpgaaaW.PrintWords Go.Proofs.YtmhodkkfbbpgaaaW.PrintLast Go.Proofs.YtmhodkkfbbpgaaaW.PrintMore

theorem lg_none {s : ByteArray} {r : Re} {i : Nat} (hi : i ≤ s.size) (h : ∀ j, ¬ mt (bS s) s.size r i j) : lg s r (i : Int) = -1 := by
  rcases lg_cases s r hi with ⟨e, _⟩ | ⟨j, _, _, _, h1, _⟩
  · exact e
  · exact (h j h1).elim
theorem lg_max {s : ByteArray} {r : Re} {i j : Nat} (hi : i ≤ s.size) (h : mt (bS s) s.size r i j) (hm : ∀ j', mt (bS s) s.size r i j' → j' ≤ j) : lg s r (i : Int) = (j : Int) := by
  rcases lg_cases s r hi with ⟨_, h1⟩ | ⟨j1, e, _, _, h1, m1⟩
  · exact (h1 j h).elim
  · have := m1 j h
    have := hm j1 h1
    rw [e]; omega

theorem lg_alt (s : ByteArray) (r1 r2 : Re) {i : Nat} (hi : i ≤ s.size) : lg s (.alt [r1, r2]) (i : Int) = max (lg s r1 (i : Int)) (lg s r2 (i : Int)) := by
  have h : ∀ j, mt (bS s) s.size (.alt [r1, r2]) i j ↔ mt (bS s) s.size r1 i j ∨ mt (bS s) s.size r2 i j := fun j => by simp only [Re.mt, anyM, or_false]
  rcases lg_cases s r1 hi with ⟨e1, n1⟩ | ⟨j1, e1, _, _, h1, m1⟩ <;> rcases lg_cases s r2 hi with ⟨e2, n2⟩ | ⟨j2, e2, _, _, h2, m2⟩ <;> rw [e1, e2]
  · rw [lg_none hi (fun j hj => ((h j).1 hj).elim (n1 j) (n2 j))]; rfl
  · rw [lg_max hi ((h j2).2 (.inr h2)) (fun j hj => ((h j).1 hj).elim (fun c => (n1 j c).elim) (m2 j))]; omega
  · rw [lg_max hi ((h j1).2 (.inl h1)) (fun j hj => ((h j).1 hj).elim (m1 j) (fun c => (n2 j c).elim))]; omega
  · by_cases hle : j1 ≤ j2
    · rw [lg_max hi ((h j2).2 (.inr h2)) (fun j hj => ((h j).1 hj).elim (fun c => Nat.le_trans (m1 j c) hle) (m2 j))]; omega
    · rw [lg_max hi ((h j1).2 (.inl h1)) (fun j hj => ((h j).1 hj).elim (m1 j) (fun c => Nat.le_trans (m2 j c) (by omega)))]; omega

theorem lg_maybe (s : ByteArray) (r : Re) {i : Nat} (hi : i ≤ s.size) : lg s (.maybe r) (i : Int) = max (lg s r (i : Int)) (i : Int) := by
  have h : ∀ j, mt (bS s) s.size (.maybe r) i j ↔ i = j ∨ mt (bS s) s.size r i j := fun j => by simp only [Re.mt]
  rcases lg_cases s r hi with ⟨e1, n1⟩ | ⟨j1, e1, hij, _, h1, m1⟩ <;> rw [e1]
  · rw [lg_max hi ((h i).2 (.inl rfl)) (fun j hj => ((h j).1 hj).elim (fun c => by omega) (fun c => (n1 j c).elim))]; omega
  · rw [lg_max hi ((h j1).2 (.inr h1)) (fun j hj => ((h j).1 hj).elim (fun c => by omega) (m1 j))]; omega

theorem clo_to (s : ByteArray) (f : Int → Bool) (hf : ∀ k, f (bS s k) = true) : ∀ (d i : Nat), s.size - i = d → i ≤ s.size → Clo (mt (bS s) s.size (.set f)) i s.size := by
  intro d
  induction d with
  | zero => intro i h1 h2; obtain rfl : i = s.size := by omega
            exact .refl _
  | succ d ih =>
    intro i h1 h2
    exact .step (by simp only [Re.mt]; exact ⟨by omega, by trivial, hf i⟩) (ih (i + 1) (by omega) (by omega))

theorem lg_rest (s : ByteArray) (r : Re) (f : Int → Bool) (hf : ∀ k, f (bS s k) = true) {i : Nat} (hi : i ≤ s.size) :
    (lg s r (i : Int) < 0 → lg s (.cat [r, .star (.set f)]) (i : Int) = -1) ∧ (¬ lg s r (i : Int) < 0 → lg s (.cat [r, .star (.set f)]) (i : Int) = (s.size : Int)) := by
  have h : ∀ j, mt (bS s) s.size (.cat [r, .star (.set f)]) i j ↔ ∃ m, mt (bS s) s.size r i m ∧ Clo (mt (bS s) s.size (.set f)) m j := fun j => by
    simp only [Re.mt, seqM]
    constructor
    · rintro ⟨m, h1, m2, h2, rfl⟩; exact ⟨m, h1, h2⟩
    · rintro ⟨m, h1, h2⟩; exact ⟨m, h1, j, h2, rfl⟩
  rcases lg_cases s r hi with ⟨e1, n1⟩ | ⟨j1, e1, hij, hj1, h1, m1⟩
  · exact ⟨fun _ => lg_none hi (fun j hj => by obtain ⟨m, hm, _⟩ := (h j).1 hj; exact n1 m hm), fun c => by omega⟩
  · exact ⟨fun c => by omega, fun _ => lg_max hi ((h _).2 ⟨j1, h1, clo_to s f hf _ j1 rfl hj1⟩) (fun j hj => (mt_le s _ hj hi).2)⟩

theorem inR_all (k : Int) (h : 0 ≤ k ∧ k ≤ 255) : inR [⟨0, 255⟩] k = true := by simp [inR, h.1, h.2]

theorem right2 {k : Int} (hk : 1 ≤ k ∧ k ≤ 6) (x y : Nd) : rightT ⟨k, [], [x, y]⟩ ↔ rightT x ∧ rightT y := by simp [rightT, rightL]; intro _; omega
theorem len2 {k : Int} {x y : Nd} (h : lenT x) (h2 : lenT y) : lenT ⟨k, [], [x, y]⟩ := by simp [lenT, lenL, lenMax]; exact ⟨h, h2⟩
theorem ok2 {k : Int} (hk : 1 ≤ k ∧ k ≤ 6) {x y : Nd} (h : okT x) (h2 : okT y) : okT ⟨k, [], [x, y]⟩ := by simp [okT, okL]; exact ⟨by omega, h, h2⟩
theorem sz2 (k : Int) (x y : Nd) : sz ⟨k, [], [x, y]⟩ = 1 + (sz x + sz y) := by simp [sz, szL]
theorem dp2 (k : Int) (x y : Nd) : dp ⟨k, [], [x, y]⟩ = 1 + max (dp x) (dp y) := by simp [dp, dpL]
theorem ofN_right (lo hi : Int) : rightT (ofN lo hi) := by simp [ofN, rightT, rightL]
theorem ofN_len (lo hi : Int) : lenT (ofN lo hi) := by simp [ofN, lenT, lenL, lenMax]
theorem ofN_ok {lo hi : Int} (h : 0 ≤ lo ∧ lo ≤ 255) (h2 : 0 ≤ hi ∧ hi ≤ 255) : okT (ofN lo hi) := by simp [ofN, okT, okL, okR]; omega
theorem ofN_sz (lo hi : Int) : sz (ofN lo hi) = 1 := by simp [ofN, sz, szL]
theorem ofN_dp (lo hi : Int) : dp (ofN lo hi) = 1 := by simp [ofN, dp, dpL]
theorem re_of (lo hi : Int) : re (ofN lo hi) = .set (inR [⟨lo, hi⟩]) := by simp [ofN, re]

/-- A text of one byte, again and again. -/
def Only (s : ByteArray) (n : Nat) (c : Int) : Prop := s.size = n ∧ ∀ k, k < n → bS s k = c

theorem only_step {s : ByteArray} {n : Nat} {c : Int} (h : Only s n c) (i j : Nat) : mt (bS s) s.size (re (ofN c c)) i j ↔ i < n ∧ j = i + 1 := by
  rw [mt_of, h.1]
  constructor
  · rintro ⟨a, b, _⟩; exact ⟨a, b⟩
  · rintro ⟨a, b⟩; exact ⟨a, b, h.2 i a⟩
theorem only_clo {s : ByteArray} {n : Nat} {c : Int} (h : Only s n c) : ∀ (d i : Nat), n - i = d → i ≤ n → Clo (mt (bS s) s.size (re (ofN c c))) i n := by
  intro d
  induction d with
  | zero => intro i h1 h2; obtain rfl : i = n := by omega
            exact .refl _
  | succ d ih => intro i h1 h2; exact .step ((only_step h _ _).2 ⟨by omega, rfl⟩) (ih (i + 1) (by omega) (by omega))

theorem counts_fact {s : ByteArray} {n : Nat} {c : Int} (h : Only s n c) {i : Nat} (hi : i ≤ n) :
    lg s (.star (re (ofN c c))) (i : Int) = n ∧ lg s (.plus (re (ofN c c))) (i : Int) = (if i < n then (n : Int) else -1) ∧ lg s (.maybe (re (ofN c c))) (i : Int) = (if i < n then (i : Int) + 1 else i) ∧ lg s (.cat [re (ofN c c), re (ofN c c)]) (i : Int) = (if i + 1 < n then (i : Int) + 2 else -1) := by
  have hs := h.1
  have his : i ≤ s.size := by omega
  have st := only_step h
  have hle : ∀ r j, mt (bS s) s.size r i j → j ≤ n := fun r j hj => by have := (mt_le s r hj his).2; omega
  refine ⟨?_, ?_, ?_, ?_⟩
  · exact lg_max his (by simp only [Re.mt]; exact only_clo h _ i rfl hi) (hle _)
  · split
    · refine lg_max his ?_ (hle _)
      simp only [Re.mt]
      exact ⟨i + 1, (st _ _).2 ⟨by omega, rfl⟩, only_clo h _ (i + 1) rfl (by omega)⟩
    · refine lg_none his fun j hj => ?_
      simp only [Re.mt] at hj
      obtain ⟨m, h1, _⟩ := hj
      have := ((st _ _).1 h1).1
      omega
  · split
    · refine (lg_max (j := i + 1) his ?_ ?_).trans (by omega)
      · simp only [Re.mt]; exact .inr ((st _ _).2 ⟨by omega, rfl⟩)
      · intro j hj
        simp only [Re.mt] at hj
        rcases hj with rfl | hj
        · omega
        · have := ((st _ _).1 hj).2; omega
    · refine lg_max his (by simp only [Re.mt]; exact .inl (by trivial)) ?_
      intro j hj
      simp only [Re.mt] at hj
      rcases hj with rfl | hj
      · omega
      · have := ((st _ _).1 hj).1; omega
  · split
    · refine (lg_max (j := i + 2) his ?_ ?_).trans (by omega)
      · simp only [Re.mt, seqM]; exact ⟨i + 1, (st _ _).2 ⟨by omega, rfl⟩, i + 2, (st _ _).2 ⟨by omega, rfl⟩, rfl⟩
      · intro j hj
        simp only [Re.mt, seqM] at hj
        obtain ⟨m, h1, m2, h2, rfl⟩ := hj
        have := ((st _ _).1 h1).2
        have := ((st _ _).1 h2).2
        omega
    · refine lg_none his fun j hj => ?_
      simp only [Re.mt, seqM] at hj
      obtain ⟨m, h1, m2, h2, rfl⟩ := hj
      have := ((st _ _).1 h1).2
      have := ((st _ _).1 h2).1
      omega
theorem lg_out (s : ByteArray) (r : Re) {a : Int} (h : ¬ (0 ≤ a ∧ a ≤ s.size)) : lg s r a = -1 := (lg_spec s r a).2 h

end Go.Proofs.Ytmhodkkfbbpgaaa.Nm
