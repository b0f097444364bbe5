/- Plain: the document's Last, Longest and Find. -/
import Derived.Test.YtmhodkkfbbpgaaaTab3
import Derived.Test.YtmhodkkfbbpgaaaMs
namespace Go.Proofs.Ytmhodkkfbbpgaaa.Nm
set_option linter.unusedVariables false
set_option linter.unusedSimpArgs false
open Go.RowKit Mem Re Tree Fac Go.Proofs.Ytmhodkkfbbpgaaa.PNfa Go.Proofs.YtmhodkkfbbpgaaaW.PrintWords

theorem bN_eq (s : ByteArray) : bN s = bS s := rfl

theorem last_ev (s : ByteArray) (hs : s.size + 1 ≤ 1000) (r : Re) {i : Nat} (hi : i ≤ s.size) : Fac.Ev (fun k => colloquyref03_Last.f k (tb (s.size + 1) (M s r)) (i : Int)) (lg s r (i : Int)) := by
  have hin : i < s.size + 1 := by omega
  have hlen : ((tb (s.size + 1) (M s r)).length : Int) = ((s.size + 1 : Nat) : Int) := by rw [tb_len]
  have key : ∀ j : Nat, j ≤ s.size + 1 → (∀ j', j ≤ j' → ¬ Re.mt (bS s) s.size r i j') → Fac.Ev (fun k => colloquyref03_Last.l0 k (tb (s.size + 1) (M s r)) (i : Int) ((j : Int) - 1)) (lg s r (i : Int)) := by
    intro j
    induction j with
    | zero =>
      intro _ hno
      have e : lg s r (i : Int) = -1 := by
        rcases lg_cases s r hi with ⟨e, _⟩ | ⟨j, _, _, _, h, _⟩
        · exact e
        · exact (hno j (Nat.zero_le _) h).elim
      rw [e]
      refine Fac.Ev.succ ((Fac.Ev.ret _).congr fun k => ?_)
      rw [colloquyref03_Last.l0, if_neg (by omega)]
    | succ j ih =>
      intro hj hno
      have hjn : j < s.size + 1 := by omega
      have ej : (((j + 1 : Nat) : Int) - 1) = (j : Int) := by omega
      rw [ej]
      refine Fac.Ev.succ ?_
      by_cases hm : Re.mt (bS s) s.size r i j
      · have e : lg s r (i : Int) = j := by
          rcases lg_cases s r hi with ⟨_, h⟩ | ⟨j2, e, _, _, h, hmax⟩
          · exact (h j hm).elim
          · have h1 := hmax j hm
            have h2 : ¬ j + 1 ≤ j2 := fun c => hno j2 c h
            rw [e]; omega
        rw [e]
        refine (Fac.Ev.ret _).congr fun k => ?_
        have hM : M s r i j = true := (M_iff s r i j).2 hm
        rw [colloquyref03_Last.l0, if_pos (by omega), if_pos (by omega), if_pos (by rw [hlen]; omega), if_pos (by omega), if_pos (by rw [row_len hin]; omega), tb_get hin hjn, if_pos hM]
      · have hM : ¬ M s r i j = true := fun c => hm ((M_iff s r i j).1 c)
        have := ih (by omega) (fun j' hj' => by
          by_cases e : j' = j
          · subst e; exact hm
          · exact hno j' (by omega))
        refine this.congr fun k => ?_
        rw [colloquyref03_Last.l0, if_pos (by omega), if_pos (by omega), if_pos (by rw [hlen]; omega), if_pos (by omega), if_pos (by rw [row_len hin]; omega), tb_get hin hjn, if_neg hM, w64 (z := (j : Int) - 1) (by omega) (by omega)]
  have := key (s.size + 1) (Nat.le_refl _) (fun j' hj' hm => by have := (mt_le s r hm hi).2; omega)
  refine this.congr fun k => ?_
  simp only [colloquyref03_Last.f]
  rw [hlen, w64 (by omega) (by omega)]

theorem rlongest_ev (x : Nd) (s : ByteArray) (hs : s.size + 1 ≤ 1000) (hr : rightT x) (ho : okT x) (hl : lenT x) (a : Int) : Fac.Ev (fun k => colloquyref05_Longest.f k x.f0 x.f1 x.f2 s a) (lg s (re x) a) := by
  by_cases ha : 0 ≤ a ∧ a ≤ s.size
  · obtain ⟨i, rfl⟩ : ∃ i : Nat, a = i := ⟨a.toNat, by omega⟩
    have h1 : Fac.Ev (fun k => colloquyref05_Longest.j0 k s (i : Int) false x.f0 x.f1 x.f2) (lg s (re x) (i : Int)) := by
      refine Fac.Ev.succ ((Fac.Ev.bind (g := fun k t => (colloquyref03_Last.f k t (i : Int)).bind fun t2 => some t2) (table_ev s hs (sz x) x (Nat.le_refl _) hr ho hl) (Fac.Ev.bind (g := fun k t2 => some t2) (last_ev s hs (re x) (by omega)) (Fac.Ev.ret _))).congr fun k => ?_)
      simp only [colloquyref05_Longest.j0]
      rfl
    refine h1.congr fun k => ?_
    simp only [colloquyref05_Longest.f]
    rw [if_neg (by omega), decide_eq_false (by omega)]
  · have e : lg s (re x) a = -1 := (lg_spec s (re x) a).2 ha
    rw [e]
    have h1 : Fac.Ev (fun k => colloquyref05_Longest.j0 k s a true x.f0 x.f1 x.f2) (-1) := Fac.Ev.succ ((Fac.Ev.ret _).congr fun k => by simp [colloquyref05_Longest.j0])
    refine h1.congr fun k => ?_
    simp only [colloquyref05_Longest.f]
    by_cases h0 : a < 0
    · rw [if_pos h0]
    · rw [if_neg h0, decide_eq_true (by omega)]

/-- Find of the document. -/
theorem rfind_ev (x : Nd) (s : ByteArray) (hs : s.size + 1 ≤ 1000) (hr : rightT x) (ho : okT x) (hl : lenT x) {f t : Int} {ok : Bool} (h : FindP s (re x) f t ok) : Fac.Ev (fun k => colloquyref05_Find.f k x.f0 x.f1 x.f2 s) (f, t, ok) := by
  have key : ∀ (d i : Nat), d = s.size + 1 - i → i ≤ s.size + 1 → (∀ a, a < i → ∀ j, ¬ mt (bS s) s.size (re x) a j) → Fac.Ev (fun k => colloquyref05_Find.l0 k s (tb (s.size + 1) (M s (re x))) (i : Int)) (f, t, ok) := by
    intro d
    induction d with
    | zero =>
      intro i hd hi hno
      obtain rfl : i = s.size + 1 := by omega
      obtain ⟨rfl, rfl, rfl⟩ := find_none h hno
      refine Fac.Ev.succ ((Fac.Ev.ret _).congr fun k => ?_)
      rw [colloquyref05_Find.l0, if_neg (by omega)]
    | succ d hd =>
      intro i hdi hi hno
      have hin : i ≤ s.size := by omega
      refine Fac.Ev.succ ?_
      refine Fac.Ev.congr (f := fun k => (colloquyref03_Last.f k (tb (s.size + 1) (M s (re x))) (i : Int)).bind fun t2 => if t2 ≥ 0 then some ((i : Int), t2, true) else colloquyref05_Find.l0 k s (tb (s.size + 1) (M s (re x))) ((i + 1 : Nat) : Int)) (Fac.Ev.bind (last_ev s hs (re x) hin) ?_) (fun k => ?_)
      · rcases lg_cases s (re x) hin with ⟨e, hn⟩ | ⟨j, e, _, _, hm, hmax⟩
        · rw [e]
          refine (hd (i + 1) (by omega) (by omega) (fun a ha j hj => ?_)).congr fun k => ?_
          · by_cases c : a < i
            · exact hno a c j hj
            · obtain rfl : a = i := by omega
              exact hn j hj
          · rw [if_neg (by omega)]
        · rw [e]
          obtain ⟨rfl, rfl, rfl⟩ := find_first h hin hno hm hmax
          exact (Fac.Ev.ret _).congr fun k => by rw [if_pos (by omega)]
      · rw [colloquyref05_Find.l0, if_pos (by omega), w64 (z := (i : Int) + 1) (by omega) (by omega)]
        rfl
  have := key (s.size + 1) 0 (by omega) (Nat.zero_le _) (fun a c => absurd c (Nat.not_lt_zero a))
  exact (Fac.Ev.bind (g := fun k t2 => colloquyref05_Find.l0 k s t2 0) (table_ev s hs (sz x) x (Nat.le_refl _) hr ho hl) this).congr fun k => by simp only [colloquyref05_Find.f]

end Go.Proofs.Ytmhodkkfbbpgaaa.Nm
