/- Plain: the printed functions of right conditions answer alike. -/
import Derived.Test.YtonbnfaleboobaaEw
namespace Go.Proofs.Ytonbnfaleboobaa.Pr
set_option linter.unusedVariables false
set_option linter.unusedSimpArgs false
open Go.RowKit Go.Proofs.Ytonbnfaleboobaa.PPrintConds Quo Go.Proofs.YtonbnfaleboobaaW.PrintWords

def bare (n v : ByteArray) : Bool := (n.toList == []) && (v.toList == [])
def topR (k : Int) (n v : ByteArray) (len : Nat) : Bool :=
  if k = 1 ∨ k = 2 then wordB n && decide (len = 0) else if k = 3 then bare n v && decide (len = 1) else if k = 4 ∨ k = 5 then bare n v && decide (2 ≤ len) else false
def rightB : Nat → Cd → Bool
  | 0, _ => false
  | d + 1, c => c.f3.all (rightB d) && topR c.f0 c.f1 c.f2 c.f3.length

theorem rd_at (l : List Cd) (i : Nat) (h : i < l.length) : rd_T24 l (i : Int) = l[i] := by
  unfold rd_T24
  simp [List.getD, h]

theorem j2_ev (k : Int) (b : Bool) (n v : ByteArray) (l : List Cd) (hb : b = bare n v) : Fac.Ev (fun q => cond_right.j1 q b k n v l) (topR k n v l.length) := by
  subst hb
  have e3 : ∀ m : Nat, ((l.length : Int) == (m : Int)) = decide (l.length = m) := fun m => by
    by_cases h : l.length = m
    · rw [decide_eq_true h, h]; simp
    · rw [decide_eq_false h]; simp; omega
  have h0 := e3 0
  have h1 := e3 1
  have h2 : decide ((l.length : Int) ≥ 2) = decide (2 ≤ l.length) := by rw [decide_eq_decide]; omega
  simp only [Int.natCast_zero, Int.natCast_one] at h0 h1
  by_cases c12 : k = 1 ∨ k = 2
  · have e : topR k n v l.length = (wordB n && decide (l.length = 0)) := by unfold topR; rw [if_pos c12]
    rw [e]
    have hw := word1_ev n
    have hj : ∀ x32 : Int, Fac.Ev (fun q => cond_right.j2 q (bare n v) x32 true k n v l) (wordB n && decide (l.length = 0)) := fun x32 => by
      refine Fac.Ev.succ ?_
      cases hwn : wordB n with
      | true =>
        rw [hwn] at hw
        refine (Fac.Ev.bind (g := fun q t => if t = true then some ((l.length : Int) == 0) else some false) hw (r := true && decide (l.length = 0)) ((Fac.Ev.ret _).congr fun q => by simp only [if_true]; rw [h0]; rfl)).congr fun q => ?_
        rw [cond_right.j2, if_pos rfl]
      | false =>
        rw [hwn] at hw
        refine (Fac.Ev.bind (g := fun q t => if t = true then some ((l.length : Int) == 0) else some false) hw (r := false && decide (l.length = 0)) ((Fac.Ev.ret _).congr fun q => by simp)).congr fun q => ?_
        rw [cond_right.j2, if_pos rfl]
    refine Fac.Ev.succ ((hj k).congr fun q => ?_)
    rw [cond_right.j1]
    by_cases c1 : k = 1
    · rw [if_pos c1]; simp [c1]
    · rw [if_neg c1]; have : k = 2 := by omega
      simp [this]
  · have hf1 : ¬ k = 1 := fun c => c12 (.inl c)
    have hf2 : ¬ k = 2 := fun c => c12 (.inr c)
    have hj : Fac.Ev (fun q => cond_right.j2 q (bare n v) k false k n v l) (topR k n v l.length) := by
      refine Fac.Ev.succ ((Fac.Ev.ret _).congr fun q => ?_)
      rw [cond_right.j2, if_neg (by decide)]
      unfold topR
      rw [if_neg c12]
      by_cases c3 : k = 3
      · rw [if_pos c3, if_pos c3, h1]; cases bare n v <;> simp
      · rw [if_neg c3, if_neg c3]
        by_cases c4 : k = 4
        · rw [if_pos c4, if_pos (show k = 4 ∨ k = 5 from .inl c4), h2]; cases bare n v <;> simp
        · rw [if_neg c4]
          by_cases c5 : k = 5
          · rw [if_pos c5, if_pos (show k = 4 ∨ k = 5 from .inr c5), h2]; cases bare n v <;> simp
          · rw [if_neg c5, if_neg (by omega)]
    refine Fac.Ev.succ (hj.congr fun q => ?_)
    rw [cond_right.j1, if_neg hf1]
    have : (k == 2) = false := by simpa using hf2
    rw [this]

theorem cright_ev (N : Nat) : ∀ (c : Cd) (d : Nat), blk c ≤ N → N ≤ 1048576 → d ≤ 20 → Fac.Ev (fun q => cond_right.f q c.f0 c.f1 c.f2 c.f3 (d : Int)) (rightB d c) := by
  induction N with
  | zero => intro c d h; have := blk_pos c; omega
  | succ N ih =>
    intro c d hb hN hd
    obtain ⟨k, n, v, l⟩ := c
    simp only [blk] at hb
    have hlb := len_blkL l
    cases d with
    | zero =>
      refine Fac.Ev.succ ((Fac.Ev.ret _).congr fun q => ?_)
      rw [cond_right.f, if_pos (by omega)]
      rfl
    | succ d =>
      have loop : ∀ (m i : Nat), m + i = l.length → Fac.Ev (fun q => cond_right.l0 q ((d + 1 : Nat) : Int) l (l.length : Int) (i : Int) k n v l) ((l.drop i).all (rightB d) && topR k n v l.length) := by
        intro m
        induction m with
        | zero =>
          intro i hi
          have hz : l.drop i = [] := List.drop_of_length_le (by omega)
          rw [hz]
          simp only [List.all_nil, Bool.true_and]
          refine Fac.Ev.succ ?_
          by_cases hn : n.toList = []
          · refine (j2_ev k (v.toList == []) n v l (by simp [bare, hn])).congr fun q => ?_
            rw [cond_right.l0, if_neg (by omega), if_pos hn]
          · refine (j2_ev k false n v l (by simp [bare, hn])).congr fun q => ?_
            rw [cond_right.l0, if_neg (by omega), if_neg hn]
        | succ m ihm =>
          intro i hi
          have hil : i < l.length := by omega
          have hnext := ihm (i + 1) (by omega)
          have hy := ih l[i] d (by have := blkL_mem l[i] (List.getElem_mem hil); omega) (by omega) (by omega)
          have hw : wrap64 (((d + 1 : Nat) : Int) - 1) = (d : Int) := by rw [w64 (by omega) (by omega)]; omega
          have hw2 : wrap64 ((i : Int) + 1) = ((i + 1 : Nat) : Int) := by rw [w64 (by omega) (by omega)]; omega
          rw [List.drop_eq_getElem_cons hil, List.all_cons]
          refine Fac.Ev.succ ?_
          cases hr : rightB d l[i] with
          | true =>
            rw [hr] at hy
            refine (Fac.Ev.bind (g := fun q t => if t = true then cond_right.l0 q ((d + 1 : Nat) : Int) l (l.length : Int) ((i + 1 : Nat) : Int) k n v l else some false) hy (hnext.congr fun q => by simp)).congr fun q => ?_
            rw [cond_right.l0, if_pos (by omega), if_pos (by omega), if_pos (by omega), hw, hw2, rd_at l i hil]
          | false =>
            rw [hr] at hy
            refine (Fac.Ev.bind (g := fun q t => if t = true then cond_right.l0 q ((d + 1 : Nat) : Int) l (l.length : Int) ((i + 1 : Nat) : Int) k n v l else some false) hy (r := false && _ && _) ((Fac.Ev.ret _).congr fun q => by simp)).congr fun q => ?_
            rw [cond_right.l0, if_pos (by omega), if_pos (by omega), if_pos (by omega), hw, hw2, rd_at l i hil]
      have h0 := loop l.length 0 (by omega)
      rw [List.drop_zero] at h0
      refine Fac.Ev.succ (h0.congr fun q => ?_)
      rw [cond_right.f, if_neg (by omega)]
      rfl

theorem rj2_ev (d : Nat) (k : Int) (n v : ByteArray) (l : List Cd) (hl : l.length ≤ 1048576) (ih : ∀ i (h : i < l.length), Fac.Ev (fun q => colloquyref12_Right.f q l[i].f0 l[i].f1 l[i].f2 l[i].f3 (d : Int)) (rightB d l[i])) (hd : d ≤ 20) :
    Fac.Ev (fun q => colloquyref12_Right.j2 q ((d + 1 : Nat) : Int) k n v l) (l.all (rightB d) && bare n v) := by
  have loop : ∀ (m i : Nat), m + i = l.length → Fac.Ev (fun q => colloquyref12_Right.l0 q ((d + 1 : Nat) : Int) (i : Int) k n v l) ((l.drop i).all (rightB d) && bare n v) := by
    intro m
    induction m with
    | zero =>
      intro i hi
      have hz : l.drop i = [] := List.drop_of_length_le (by omega)
      rw [hz]
      simp only [List.all_nil, Bool.true_and]
      refine Fac.Ev.succ ((Fac.Ev.ret _).congr fun q => ?_)
      rw [colloquyref12_Right.l0, if_neg (by omega)]
      by_cases hn : n.toList = []
      · rw [if_pos hn]; simp [bare, hn]
      · rw [if_neg hn]; simp [bare, hn]
    | succ m ihm =>
      intro i hi
      have hil : i < l.length := by omega
      have hnext := ihm (i + 1) (by omega)
      have hy := ih i hil
      have hw : wrap64 (((d + 1 : Nat) : Int) - 1) = (d : Int) := by rw [w64 (by omega) (by omega)]; omega
      have hw2 : wrap64 ((i : Int) + 1) = ((i + 1 : Nat) : Int) := by rw [w64 (by omega) (by omega)]; omega
      rw [List.drop_eq_getElem_cons hil, List.all_cons]
      refine Fac.Ev.succ ?_
      cases hr : rightB d l[i] with
      | true =>
        rw [hr] at hy
        refine (Fac.Ev.bind (g := fun q t => if t = true then colloquyref12_Right.l0 q ((d + 1 : Nat) : Int) ((i + 1 : Nat) : Int) k n v l else some false) hy (hnext.congr fun q => by simp)).congr fun q => ?_
        rw [colloquyref12_Right.l0, if_pos (by omega), if_pos (by omega), hw, hw2, rd_at l i hil]
      | false =>
        rw [hr] at hy
        refine (Fac.Ev.bind (g := fun q t => if t = true then colloquyref12_Right.l0 q ((d + 1 : Nat) : Int) ((i + 1 : Nat) : Int) k n v l else some false) hy (r := false && _ && _) ((Fac.Ev.ret _).congr fun q => by simp)).congr fun q => ?_
        rw [colloquyref12_Right.l0, if_pos (by omega), if_pos (by omega), hw, hw2, rd_at l i hil]
  have h0 := loop l.length 0 (by omega)
  rw [List.drop_zero] at h0
  exact Fac.Ev.succ (h0.congr fun q => by rw [colloquyref12_Right.j2]; rfl)

theorem rright_ev (N : Nat) : ∀ (c : Cd) (d : Nat), blk c ≤ N → N ≤ 1048576 → d ≤ 20 → Fac.Ev (fun q => colloquyref12_Right.f q c.f0 c.f1 c.f2 c.f3 (d : Int)) (rightB d c) := by
  induction N with
  | zero => intro c d h; have := blk_pos c; omega
  | succ N ih =>
    intro c d hb hN hd
    obtain ⟨k, n, v, l⟩ := c
    simp only [blk] at hb
    have hlb := len_blkL l
    cases d with
    | zero =>
      refine Fac.Ev.succ ((Fac.Ev.ret _).congr fun q => ?_)
      rw [colloquyref12_Right.f, if_pos (by omega)]
      rfl
    | succ d =>
      have hj2 := rj2_ev d k n v l (by omega) (fun i h => ih l[i] d (by have := blkL_mem l[i] (List.getElem_mem h); omega) (by omega) (by omega)) (by omega)
      have hnsz : n.size ≤ 9223372036854775807 := by omega
      have hw := word2_ev n hnsz
      have goalR : rightB (d + 1) ⟨k, n, v, l⟩ = (l.all (rightB d) && topR k n v l.length) := rfl
      rw [goalR]
      by_cases c12 : k = 1 ∨ k = 2
      · have e : (l.all (rightB d) && topR k n v l.length) = (decide (l.length = 0) && wordB n) := by
          unfold topR
          rw [if_pos c12]
          by_cases hz : l.length = 0
          · have : l = [] := List.eq_nil_of_length_eq_zero hz
            subst this
            simp
          · rw [decide_eq_false hz]; simp
        rw [e]
        have hj : ∀ x9 : Int, Fac.Ev (fun q => colloquyref12_Right.j0 q ((d + 1 : Nat) : Int) x9 true k n v l) (decide (l.length = 0) && wordB n) := fun x9 => by
          refine Fac.Ev.succ ?_
          by_cases hz : l.length = 0
          · rw [decide_eq_true hz, Bool.true_and]
            refine (Fac.Ev.bind (g := fun q t => some t) hw (Fac.Ev.ret _)).congr fun q => ?_
            rw [colloquyref12_Right.j0, if_pos rfl, if_pos (by omega)]
          · rw [decide_eq_false hz, Bool.false_and]
            refine (Fac.Ev.ret _).congr fun q => ?_
            rw [colloquyref12_Right.j0, if_pos rfl, if_neg (by omega)]
        refine Fac.Ev.succ ((hj k).congr fun q => ?_)
        rw [colloquyref12_Right.f, if_neg (by omega)]
        by_cases c1 : k = 1
        · rw [if_pos c1]; simp [c1]
        · rw [if_neg c1]; have : k = 2 := by omega
          simp [this]
      · have hf1 : ¬ k = 1 := fun c => c12 (.inl c)
        have hf2 : (k == 2) = false := by simp; exact fun c => c12 (.inr c)
        have hj : Fac.Ev (fun q => colloquyref12_Right.j0 q ((d + 1 : Nat) : Int) k false k n v l) (l.all (rightB d) && topR k n v l.length) := by
          refine Fac.Ev.succ ?_
          unfold topR
          rw [if_neg c12]
          by_cases c3 : k = 3
          · rw [if_pos c3]
            by_cases h1 : l.length = 1
            · rw [decide_eq_true h1, Bool.and_true]
              refine hj2.congr fun q => ?_
              rw [colloquyref12_Right.j0, if_neg (by decide), if_pos c3, if_pos (by omega)]
            · rw [decide_eq_false h1, Bool.and_false, Bool.and_false]
              refine (Fac.Ev.ret _).congr fun q => ?_
              rw [colloquyref12_Right.j0, if_neg (by decide), if_pos c3, if_neg (by omega)]
          · rw [if_neg c3]
            have hj1 : Fac.Ev (fun q => colloquyref12_Right.j1 q ((d + 1 : Nat) : Int) true k n v l) (l.all (rightB d) && (bare n v && decide (2 ≤ l.length))) := by
              refine Fac.Ev.succ ?_
              by_cases h2 : 2 ≤ l.length
              · rw [decide_eq_true h2, Bool.and_true]
                refine hj2.congr fun q => ?_
                rw [colloquyref12_Right.j1, if_pos rfl, if_neg (by omega)]
              · rw [decide_eq_false h2, Bool.and_false, Bool.and_false]
                refine (Fac.Ev.ret _).congr fun q => ?_
                rw [colloquyref12_Right.j1, if_pos rfl, if_pos (by omega)]
            by_cases c45 : k = 4 ∨ k = 5
            · rw [if_pos c45]
              refine hj1.congr fun q => ?_
              rw [colloquyref12_Right.j0, if_neg (by decide), if_neg c3]
              by_cases c4 : k = 4
              · rw [if_pos c4]; simp [c4]
              · rw [if_neg c4]; have : k = 5 := by omega
                simp [this]
            · rw [if_neg c45, Bool.and_false]
              have : Fac.Ev (fun q => colloquyref12_Right.j1 q ((d + 1 : Nat) : Int) false k n v l) false := Fac.Ev.succ ((Fac.Ev.ret _).congr fun q => by simp [colloquyref12_Right.j1])
              refine this.congr fun q => ?_
              rw [colloquyref12_Right.j0, if_neg (by decide), if_neg c3, if_neg (fun c => c45 (.inl c))]
              have : (k == 5) = false := by simp; exact fun c => c45 (.inr c)
              rw [this]
        refine Fac.Ev.succ (hj.congr fun q => ?_)
        rw [colloquyref12_Right.f, if_neg (by omega), if_neg hf1, hf2]

theorem shp_of_right : ∀ (d : Nat) (c : Cd), rightB d c = true → shp c := by
  intro d
  induction d with
  | zero => intro c h; simp [rightB] at h
  | succ d ih =>
    intro c h
    obtain ⟨k, n, v, l⟩ := c
    simp only [rightB, Bool.and_eq_true] at h
    obtain ⟨h1, h2⟩ := h
    unfold shp
    refine ⟨fun hk => ?_, ?_⟩
    · subst hk
      simp [topR] at h2
      exact h2.2
    · have hall : ∀ y, y ∈ l → shp y := fun y hy => ih y (by simpa using (List.all_eq_true.1 h1) y hy)
      clear h1 h2
      induction l with
      | nil => simp [shpL]
      | cons y l ihl =>
        unfold shpL
        exact ⟨hall y List.mem_cons_self, ihl fun z hz => hall z (List.mem_cons_of_mem _ hz)⟩

end Go.Proofs.Ytonbnfaleboobaa.Pr
