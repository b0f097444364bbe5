/- Some machines side by side; the longest piece as a number. -/
import Derived.Test.YtmhodkkfbbpgaaaLawSteps
namespace Go.Proofs.Ytmhodkkfbbpgaaa.Nm
set_option linter.unusedVariables false
set_option linter.unusedSimpArgs false
open Go.RowKit Mem Re Tree Fac Go.Proofs.Ytmhodkkfbbpgaaa.PNfa Go.Proofs.YtmhodkkfbbpgaaaW.PrintWords Go.Proofs.YtmhodkkfbbpgaaaW.PrintLast Go.Proofs.YtmhodkkfbbpgaaaW.PrintMore

theorem exists_max (P : Nat → Prop) (n : Nat) (h : ∀ j, P j → j ≤ n) : (∀ j, ¬ P j) ∨ ∃ j, P j ∧ ∀ j', P j' → j' ≤ j := by
  induction n generalizing P with
  | zero =>
    by_cases h0 : P 0
    · exact .inr ⟨0, h0, fun j' hj => h j' hj⟩
    · refine .inl fun j hj => ?_
      obtain rfl : j = 0 := by have := h j hj; omega
      exact h0 hj
  | succ n ih =>
    by_cases h0 : P (n + 1)
    · exact .inr ⟨n + 1, h0, fun j' hj => h j' hj⟩
    · refine ih P fun j hj => ?_
      have := h j hj
      by_cases e : j = n + 1
      · subst e; exact (h0 hj).elim
      · omega

theorem longP_ex (s : ByteArray) (r : Re) (a : Int) : ∃ v, LongP s r a v := by
  by_cases ha : 0 ≤ a ∧ a ≤ s.size
  · rcases exists_max (fun j => mt (bS s) s.size r a.toNat j) s.size (fun j hj => (mt_le s r hj (by omega)).2) with h | ⟨j, h1, h2⟩
    · exact ⟨-1, fun _ => .inl ⟨rfl, h⟩, fun c => (c ha).elim⟩
    · exact ⟨j, fun _ => .inr ⟨j, rfl, (mt_le s r h1 (by omega)).2, h1, h2⟩, fun c => (c ha).elim⟩
  · exact ⟨-1, fun c => (ha c).elim, fun _ => rfl⟩

noncomputable def lg (s : ByteArray) (r : Re) (a : Int) : Int := Classical.choose (longP_ex s r a)
theorem lg_spec (s : ByteArray) (r : Re) (a : Int) : LongP s r a (lg s r a) := Classical.choose_spec (longP_ex s r a)
theorem longP_uniq {s : ByteArray} {r : Re} {a v v' : Int} (h : LongP s r a v) (h' : LongP s r a v') : v = v' := by
  by_cases ha : 0 ≤ a ∧ a ≤ s.size
  · rcases h.1 ha with ⟨rfl, h1⟩ | ⟨j, rfl, _, h1, h2⟩ <;> rcases h'.1 ha with ⟨rfl, h3⟩ | ⟨j', rfl, _, h3, h4⟩
    · rfl
    · exact (h1 j' h3).elim
    · exact (h3 j h1).elim
    · have := h2 j' h3
      have := h4 j h1
      omega
  · rw [h.2 ha, h'.2 ha]

/-- At a place in the text: none, or the greatest. -/
theorem lg_cases (s : ByteArray) (r : Re) {i : Nat} (hi : i ≤ s.size) : (lg s r (i : Int) = -1 ∧ ∀ j, ¬ mt (bS s) s.size r i j) ∨ (∃ j : Nat, lg s r (i : Int) = j ∧ i ≤ j ∧ j ≤ s.size ∧ mt (bS s) s.size r i j ∧ ∀ j', mt (bS s) s.size r i j' → j' ≤ j) := by
  have h := (lg_spec s r (i : Int)).1 ⟨by omega, by omega⟩
  rw [Int.toNat_natCast] at h
  rcases h with h | ⟨j, h1, h2, h3, h4⟩
  · exact .inl h
  · exact .inr ⟨j, h1, (mt_le s r h3 hi).1, h2, h3, h4⟩

/-- Machines in memory, each of its own block. -/
structure Ms (B : Nat) (w : World) (l : List (Nat × Re)) : Prop where
  nd : (l.map (·.1)).Nodup
  ge : ∀ p, p ∈ l → B ≤ p.1
  at_ : ∀ p, p ∈ l → ∃ base stp, Mach w base p.1 p.2 stp

theorem Ms.nil (B : Nat) (w : World) : Ms B w [] := ⟨List.nodup_nil, fun p hp => by simp at hp, fun p hp => by simp at hp⟩
theorem Ms.below {B : Nat} {w w' : World} {l : List (Nat × Re)} (h : Ms B w l) (hb : Below w.heap.size w w') : Ms B w' l :=
  ⟨h.nd, h.ge, fun p hp => by obtain ⟨base, stp, hm⟩ := h.at_ p hp; exact ⟨base, stp, hm.below hb⟩⟩
theorem Ms.cons {B : Nat} {w w' : World} {l : List (Nat × Re)} {b base : Nat} {r : Re} {stp : Int} (h : Ms B w l) (hb : Below w.heap.size w w') (hm : Mach w' base b r stp) (hB : B ≤ w.heap.size) (hge : w.heap.size ≤ b) : Ms B w' ((b, r) :: l) := by
  refine ⟨?_, ?_, ?_⟩
  · simp only [List.map_cons]
    refine List.nodup_cons.2 ⟨fun c => ?_, h.nd⟩
    obtain ⟨p, hp, e⟩ := List.mem_map.1 c
    obtain ⟨base, stp, hm2⟩ := h.at_ p hp
    have := hm2.lt
    omega
  · intro p hp
    rcases List.mem_cons.1 hp with rfl | hp
    · show B ≤ b; omega
    · exact h.ge p hp
  · intro p hp
    rcases List.mem_cons.1 hp with rfl | hp
    · exact ⟨base, stp, hm⟩
    · exact (h.below hb).at_ p hp

theorem nodup_fst {l : List (Nat × Re)} (h : (l.map (·.1)).Nodup) {p q : Nat × Re} (hp : p ∈ l) (hq : q ∈ l) (e : p.1 = q.1) : p = q := by
  induction l with
  | nil => simp at hp
  | cons x l ih =>
    simp only [List.map_cons, List.nodup_cons] at h
    rcases List.mem_cons.1 hp with e1 | hp1
    · rcases List.mem_cons.1 hq with e2 | hq1
      · rw [e1, e2]
      · exact (h.1 (List.mem_map.2 ⟨q, hq1, by rw [← e, e1]⟩)).elim
    · rcases List.mem_cons.1 hq with e2 | hq1
      · exact (h.1 (List.mem_map.2 ⟨p, hp1, by rw [e, e2]⟩)).elim
      · exact ih h.2 hp1 hq1

theorem ms_long {w W : World} {l : List (Nat × Re)} (h : Ms W.heap.size w l) (b : Nat) (r : Re) (hm : (b, r) ∈ l) (s : ByteArray) (a : Int) (hs : s.size ≤ 1000000000) (hB : Below W.heap.size W w) :
    Calls Try.prog 13 #[.pointer (some ⟨b, 0, none⟩), .string s, .int .i64 a] w fun e w' => e = .returned (.int .i64 (lg s r a)) ∧ Ms W.heap.size w' l ∧ Below W.heap.size W w' := by
  obtain ⟨base, stp, hM⟩ := h.at_ _ hm
  refine (longest_any w base b r stp s a hM hs).mono ?_
  rintro e w' ⟨v, stp', rfl, h1, _, _, h4, h5⟩
  refine ⟨by rw [longP_uniq h1 (lg_spec s r a)], ⟨h.nd, h.ge, fun p hp => ?_⟩, hB.trans (h5.below hB.size (fun k e => by rw [e]; exact h.ge _ hm))⟩
  obtain ⟨base2, stp2, hM2⟩ := h.at_ p hp
  by_cases e : p.1 = b
  · obtain rfl := nodup_fst h.nd hp hm e
    exact ⟨base, stp', h4⟩
  · exact ⟨base2, stp2, hM2.kpb h5 hM e⟩

theorem ms_compile {w W : World} {l : List (Nat × Re)} (h : Ms W.heap.size w l) (hB : Below W.heap.size W w) (x : Nd) (cs : List Value) (hK : k25.K w x cs) (hl : lenT x) (hok : okT x) (hs : sz x ≤ 1000) (hd : dp x ≤ 300) (hr : rightT x) :
    Calls Try.prog 12 #[.agg cs.toArray] w fun e w' => ∃ b, e = .returned (.tuple #[.pointer (some ⟨b, 0, none⟩), .int .i64 0]) ∧ Ms W.heap.size w' ((b, re x) :: l) ∧ Below w.heap.size w w' ∧ Below W.heap.size W w' := by
  refine (compile_right w x cs hK hl hok hs hd hr).mono ?_
  rintro e w' ⟨b, h1, h2, h3, h4⟩
  exact ⟨b, h1, h.cons h4 h2 hB.size h3, h4, hB.trans (h4.mono hB.size)⟩

end Go.Proofs.Ytmhodkkfbbpgaaa.Nm
