/- The same bytes, traces, entries; few events: what the printed functions tell. An entry as a value; the contracts that the laws call, told of such a value. The law's 'packing': packing and unpacking are alive. An entry, and bytes, that come in as an argument: what is read of them. -/
import Derived.Test.YtnognmbapciegaaSa
import Derived.Test.YtnognmbapciegaaPBkx7
import Derived.Test.YtnognmbapciegaaKa
import Derived.Test.YtnognmbapciegaaS7
import Derived.Test.YtnognmbapciegaaKd
import Derived.Test.YtnognmbapciegaaKb
import Derived.ChangeArms
import Derived.Deep.Slices
import Derived.SizedLaws
namespace Go.Proofs.Ytnognmbapciegaa.Bk
open Go.RowKit Go.Proofs.YtnognmbapciegaaW.PrintWords Go.Proofs.YtnognmbapciegaaW.PrintLast Go.Proofs.YtnognmbapciegaaW.PrintMore Go.Proofs.Ytnognmbapciegaa.PBk
set_option linter.unusedVariables false
set_option linter.unusedSimpArgs false

theorem wrapn {i n : Nat} (h : i < n) (hn : n ≤ 140737488355328) : wrap64 ((i : Int) + 1) = ((i + 1 : Nat) : Int) := by
  unfold wrap64
  omega
theorem drop_ext {α : Type} {xs ys : List α} {i : Nat} (hx : i < xs.length) (hy : i < ys.length) : (xs.drop i = ys.drop i) ↔ (xs[i] = ys[i] ∧ xs.drop (i + 1) = ys.drop (i + 1)) := by
  rw [List.drop_eq_getElem_cons hx, List.drop_eq_getElem_cons hy, List.cons.injEq]
theorem bytes_tell (xs ys : List Int) (hl : xs.length = ys.length) (hn : xs.length ≤ 140737488355328) (d : Nat) : ∀ (k i : Nat), i ≤ xs.length → xs.length - i = d → d < k → ∃ b, colloquyref01_SameBytes.l0 k xs ys (i : Int) = some b ∧ (b = true ↔ xs.drop i = ys.drop i) := by
  induction d with
  | zero =>
    intro k i h1 hd hk
    obtain ⟨k, rfl⟩ : ∃ m, k = m + 1 := ⟨k - 1, by omega⟩
    refine ⟨true, by simp only [colloquyref01_SameBytes.l0]; rw [if_neg (by omega)], ?_⟩
    rw [List.drop_eq_nil_of_le (by omega), List.drop_eq_nil_of_le (by omega)]
    simp
  | succ d ih =>
    intro k i h1 hd hk
    obtain ⟨k, rfl⟩ : ∃ m, k = m + 1 := ⟨k - 1, by omega⟩
    have hi : i < xs.length := by omega
    have hi2 : i < ys.length := by omega
    have e1 : rd xs (i : Int) = xs[i] := by simp [rd, List.getD_eq_getElem?_getD, List.getElem?_eq_getElem hi]
    have e2 : rd ys (i : Int) = ys[i] := by simp [rd, List.getD_eq_getElem?_getD, List.getElem?_eq_getElem hi2]
    by_cases he : xs[i] = ys[i]
    · obtain ⟨b, hb, hq⟩ := ih k (i + 1) (by omega) (by omega) (by omega)
      refine ⟨b, ?_, ?_⟩
      · simp only [colloquyref01_SameBytes.l0]
        rw [if_pos (by omega), if_pos (by omega), if_pos (by omega), e1, e2, if_pos he, wrapn hi hn]
        exact hb
      · rw [hq, drop_ext hi hi2]
        simp [he]
    · refine ⟨false, ?_, ?_⟩
      · simp only [colloquyref01_SameBytes.l0]
        rw [if_pos (by omega), if_pos (by omega), if_pos (by omega), e1, e2, if_neg he]
      · rw [drop_ext hi hi2]
        simp [he]
theorem bytes_same (xs ys : List Int) (hn : xs.length ≤ 140737488355328) : ∃ k b, colloquyref01_SameBytes.f k xs ys = some b ∧ (b = true ↔ xs = ys) := by
  by_cases hl : xs.length = ys.length
  · obtain ⟨b, hb, hq⟩ := bytes_tell xs ys hl hn xs.length (xs.length + 1) 0 (by omega) (by omega) (by omega)
    refine ⟨xs.length + 1, b, ?_, by simpa using hq⟩
    unfold colloquyref01_SameBytes.f
    rw [if_pos (by omega)]
    exact hb
  · refine ⟨0, false, ?_, ?_⟩
    · unfold colloquyref01_SameBytes.f
      rw [if_neg (by omega)]
    · simp
      intro h
      exact hl (by rw [h])
theorem sameB_any (w : World) (A0 : Option Addr) (n0 c0 : Nat) (xs : List Int) (A1 : Option Addr) (n1 c1 : Nat) (ys : List Int) (h0 : n0 = xs.length) (h1 : n1 = ys.length) (hr0 : Kd.C (Kd.int .u8) w A0 n0 xs) (hc0 : n0 ≤ c0) (hr1 : Kd.C (Kd.int .u8) w A1 n1 ys) (hc1 : n1 ≤ c1) (hn : xs.length ≤ 140737488355328) :
    Calls Try.prog 12 #[.slice A0 n0 c0, .slice A1 n1 c1] w fun e w' => e = .returned (.bool (decide (xs = ys))) ∧ Below w.heap.size w w' := by
  subst h0
  subst h1
  obtain ⟨k, b, hb, hq⟩ := bytes_same xs ys hn
  refine (colloquyref01_SameBytes.calls k A0 c0 xs A1 c1 ys b w hr0 hc0 hr1 hc1 hb).mono fun e w' h => ?_
  have : b = decide (xs = ys) := by rw [Bool.eq_iff_iff]; simpa using hq
  exact ⟨by rw [← this]; exact h.1, h.2.below⟩

theorem tl_inj (a b : ByteArray) : a.toList = b.toList ↔ a = b := by
  refine ⟨fun h => ?_, fun h => by rw [h]⟩
  rw [ByteArray.toList_eq, ByteArray.toList_eq] at h
  exact ByteArray.ext (Array.ext' h)
theorem ev_tell (x y : S44) : ((!((x.f0) == (y.f0)) || (!((x.f1) == (y.f1)) || (!(((x.f2).toList) == ((y.f2).toList)) || (!((x.f3) == (y.f3))))))= true) ↔ ¬ x = y := by
  obtain ⟨a, b, c, d⟩ := x
  obtain ⟨a', b', c', d'⟩ := y
  simp only [Bool.or_eq_true, Bool.not_eq_true', beq_eq_false_iff_ne, S44.mk.injEq, ne_eq, tl_inj]
  by_cases h1 : a = a' <;> by_cases h2 : b = b' <;> by_cases h3 : c = c' <;> by_cases h4 : d = d' <;> simp [h1, h2, h3, h4]
theorem rs_tell (x y : S42) : ((!(((x.f0).toList) == ((y.f0).toList)) || (!((x.f1) == (y.f1)))) = true) ↔ ¬ x = y := by
  obtain ⟨a, b⟩ := x
  obtain ⟨a', b'⟩ := y
  simp only [Bool.or_eq_true, Bool.not_eq_true', beq_eq_false_iff_ne, S42.mk.injEq, ne_eq, tl_inj]
  by_cases h1 : a = a' <;> by_cases h2 : b = b' <;> simp [h1, h2]
theorem rd44_at {xs : List S44} {i : Nat} (h : i < xs.length) : rd_T44 xs (i : Int) = xs[i] := by simp [rd_T44, List.getD_eq_getElem?_getD, List.getElem?_eq_getElem h]
theorem rd42_at {xs : List S42} {i : Nat} (h : i < xs.length) : rd_T42 xs (i : Int) = xs[i] := by simp [rd_T42, List.getD_eq_getElem?_getD, List.getElem?_eq_getElem h]
theorem rdL_at {xs : List (List S44)} {i : Nat} (h : i < xs.length) : rd_L4 xs (i : Int) = xs[i] := by simp [rd_L4, List.getD_eq_getElem?_getD, List.getElem?_eq_getElem h]
theorem trace_tell (xs ys : List S44) (hl : xs.length = ys.length) (hn : xs.length ≤ 140737488355328) (d : Nat) : ∀ (k i : Nat), i ≤ xs.length → xs.length - i = d → d < k → ∃ b, colloquyref18_SameTrace.l0 k xs ys (i : Int) = some b ∧ (b = true ↔ xs.drop i = ys.drop i) := by
  induction d with
  | zero =>
    intro k i h1 hd hk
    obtain ⟨k, rfl⟩ : ∃ m, k = m + 1 := ⟨k - 1, by omega⟩
    refine ⟨true, by simp only [colloquyref18_SameTrace.l0]; rw [if_neg (by omega)], ?_⟩
    rw [List.drop_eq_nil_of_le (by omega), List.drop_eq_nil_of_le (by omega)]
    simp
  | succ d ih =>
    intro k i h1 hd hk
    obtain ⟨k, rfl⟩ : ∃ m, k = m + 1 := ⟨k - 1, by omega⟩
    have hi : i < xs.length := by omega
    have hi2 : i < ys.length := by omega
    by_cases he : xs[i] = ys[i]
    · obtain ⟨b, hb, hq⟩ := ih k (i + 1) (by omega) (by omega) (by omega)
      refine ⟨b, ?_, ?_⟩
      · simp only [colloquyref18_SameTrace.l0]
        rw [if_pos (by omega), if_pos (by omega), if_pos (by omega), rd44_at hi, rd44_at hi2, if_neg (by rw [ev_tell]; simpa using he), wrapn hi hn]
        exact hb
      · rw [hq, drop_ext hi hi2]
        simp [he]
    · refine ⟨false, ?_, ?_⟩
      · simp only [colloquyref18_SameTrace.l0]
        rw [if_pos (by omega), if_pos (by omega), if_pos (by omega), rd44_at hi, rd44_at hi2, if_pos (by rw [ev_tell]; exact he)]
      · rw [drop_ext hi hi2]
        simp [he]
theorem trace_same (xs ys : List S44) (hn : xs.length ≤ 140737488355328) : ∃ b, (∀ k, xs.length + 1 ≤ k → colloquyref18_SameTrace.f k xs ys = some b) ∧ (b = true ↔ xs = ys) := by
  by_cases hl : xs.length = ys.length
  · obtain ⟨b, hb, hq⟩ := trace_tell xs ys hl hn xs.length (xs.length + 1) 0 (by omega) (by omega) (by omega)
    refine ⟨b, fun k hk => ?_, by simpa using hq⟩
    obtain ⟨b2, hb2, hq2⟩ := trace_tell xs ys hl hn xs.length k 0 (by omega) (by omega) (by omega)
    have : b2 = b := by rw [Bool.eq_iff_iff, hq, hq2]
    unfold colloquyref18_SameTrace.f
    rw [if_pos (by omega), ← this]
    exact hb2
  · refine ⟨false, fun k hk => ?_, ?_⟩
    · unfold colloquyref18_SameTrace.f
      rw [if_neg (by omega)]
    · simp
      intro h
      exact hl (by rw [h])
theorem traces_tell (g1 g2 : Int) (rs1 rs2 : List S42) (xs ys : List (List S44)) (M : Nat) (hl : xs.length = ys.length) (hn : xs.length ≤ 140737488355328) (hs : ∀ t, t ∈ xs → t.length ≤ M) (hM : M ≤ 140737488355328) (d : Nat) : ∀ (k i : Nat), i ≤ xs.length → xs.length - i = d → d + M + 2 ≤ k → ∃ b, colloquyref18_SameEntry.l1 k (i : Int) g1 rs1 xs g2 rs2 ys = some b ∧ (b = true ↔ xs.drop i = ys.drop i) := by
  induction d with
  | zero =>
    intro k i h1 hd hk
    obtain ⟨k, rfl⟩ : ∃ m, k = m + 1 := ⟨k - 1, by omega⟩
    refine ⟨true, by simp only [colloquyref18_SameEntry.l1]; rw [if_neg (by omega)], ?_⟩
    rw [List.drop_eq_nil_of_le (by omega), List.drop_eq_nil_of_le (by omega)]
    simp
  | succ d ih =>
    intro k i h1 hd hk
    obtain ⟨k, rfl⟩ : ∃ m, k = m + 1 := ⟨k - 1, by omega⟩
    have hi : i < xs.length := by omega
    have hi2 : i < ys.length := by omega
    have hM1 := hs xs[i] (List.getElem_mem hi)
    obtain ⟨b0, hb0, hq0⟩ := trace_same xs[i] ys[i] (by omega)
    have hb1 := hb0 k (by omega)
    cases b0 with
    | true =>
      have he : xs[i] = ys[i] := hq0.mp rfl
      obtain ⟨b, hb, hq⟩ := ih k (i + 1) (by omega) (by omega) (by omega)
      refine ⟨b, ?_, ?_⟩
      · simp only [colloquyref18_SameEntry.l1]
        rw [if_pos (by omega), if_pos (by omega), if_pos (by omega), rdL_at hi, rdL_at hi2, hb1]
        simp only [Option.bind_some, if_true]
        rw [wrapn hi hn]
        exact hb
      · rw [hq, drop_ext hi hi2]
        simp [he]
    | false =>
      have he : ¬ xs[i] = ys[i] := fun h => by have := hq0.mpr h; cases this
      refine ⟨false, ?_, ?_⟩
      · simp only [colloquyref18_SameEntry.l1]
        rw [if_pos (by omega), if_pos (by omega), if_pos (by omega), rdL_at hi, rdL_at hi2, hb1]
        simp
      · rw [drop_ext hi hi2]
        simp [he]
theorem results_tell (g1 g2 : Int) (rs1 rs2 : List S42) (xs ys : List (List S44)) (M : Nat) (hl : xs.length = ys.length) (hn : xs.length ≤ 140737488355328) (hs : ∀ t, t ∈ xs → t.length ≤ M) (hM : M ≤ 140737488355328) (hl2 : rs1.length = rs2.length) (hn2 : rs1.length ≤ 140737488355328) (d : Nat) : ∀ (k i : Nat), i ≤ rs1.length → rs1.length - i = d → d + xs.length + M + 4 ≤ k → ∃ b, colloquyref18_SameEntry.l0 k (i : Int) g1 rs1 xs g2 rs2 ys = some b ∧ (b = true ↔ (rs1.drop i = rs2.drop i ∧ xs = ys)) := by
  induction d with
  | zero =>
    intro k i h1 hd hk
    obtain ⟨k, rfl⟩ : ∃ m, k = m + 1 := ⟨k - 1, by omega⟩
    obtain ⟨b, hb, hq⟩ := traces_tell g1 g2 rs1 rs2 xs ys M hl hn hs hM xs.length k 0 (by omega) (by omega) (by omega)
    refine ⟨b, by simp only [colloquyref18_SameEntry.l0]; rw [if_neg (by omega)]; exact hb, ?_⟩
    rw [List.drop_eq_nil_of_le (by omega), List.drop_eq_nil_of_le (by omega), hq]
    simp
  | succ d ih =>
    intro k i h1 hd hk
    obtain ⟨k, rfl⟩ : ∃ m, k = m + 1 := ⟨k - 1, by omega⟩
    have hi : i < rs1.length := by omega
    have hi2 : i < rs2.length := by omega
    by_cases he : rs1[i] = rs2[i]
    · obtain ⟨b, hb, hq⟩ := ih k (i + 1) (by omega) (by omega) (by omega)
      refine ⟨b, ?_, ?_⟩
      · simp only [colloquyref18_SameEntry.l0]
        rw [if_pos (by omega), if_pos (by omega), if_pos (by omega), rd42_at hi, rd42_at hi2, if_neg (by rw [rs_tell]; simpa using he), wrapn hi hn2]
        exact hb
      · rw [hq, drop_ext hi hi2]
        simp [he]
    · refine ⟨false, ?_, ?_⟩
      · simp only [colloquyref18_SameEntry.l0]
        rw [if_pos (by omega), if_pos (by omega), if_pos (by omega), rd42_at hi, rd42_at hi2, if_pos (by rw [rs_tell]; exact he)]
      · rw [drop_ext hi hi2]
        simp [he]
theorem entry_same (a b : Ent) (h1 : a.rs.length ≤ 140737488355328) (h2 : a.ts.length ≤ 140737488355328) (h3 : ∀ t, t ∈ a.ts → t.length ≤ 140737488355328) : ∃ k r, colloquyref18_SameEntry.f k a.g a.rs a.ts b.g b.rs b.ts = some r ∧ (r = true ↔ a = b) := by
  obtain ⟨g1, rs1, ts1⟩ := a
  obtain ⟨g2, rs2, ts2⟩ := b
  simp only [Ent.mk.injEq] at *
  obtain ⟨K, hK⟩ : ∃ K, K = rs1.length + ts1.length + 140737488355328 + 6 := ⟨_, rfl⟩
  have hne : ∀ k, colloquyref18_SameEntry.j0 (k + 1) true g1 rs1 ts1 g2 rs2 ts2 = some false := fun k => by simp [colloquyref18_SameEntry.j0]
  by_cases e1 : g1 = g2
  · by_cases e2 : rs1.length = rs2.length
    · by_cases e3 : ts1.length = ts2.length
      · obtain ⟨r, hr, hq⟩ := results_tell g1 g2 rs1 rs2 ts1 ts2 140737488355328 e3 h2 h3 (Nat.le_refl _) e2 h1 rs1.length K 0 (by omega) (by omega) (by omega)
        refine ⟨K + 1, r, ?_, ?_⟩
        · unfold colloquyref18_SameEntry.f
          rw [if_pos e1, if_pos (by omega)]
          have : ((ts1.length : Int) != (ts2.length : Int)) = false := by simp [e3]
          rw [this]
          simp only [colloquyref18_SameEntry.j0]
          rw [if_neg (by simp)]
          exact hr
        · rw [hq]
          simp [e1]
      · refine ⟨1, false, ?_, ?_⟩
        · unfold colloquyref18_SameEntry.f
          rw [if_pos e1, if_pos (by omega)]
          have : ((ts1.length : Int) != (ts2.length : Int)) = true := by simp; omega
          rw [this]
          exact hne 0
        · simp
          intro _ _ h
          exact e3 (by rw [h])
    · refine ⟨1, false, ?_, ?_⟩
      · unfold colloquyref18_SameEntry.f
        rw [if_pos e1, if_neg (by omega)]
        exact hne 0
      · simp
        intro _ h
        exact absurd (by rw [h]) e2
  · refine ⟨1, false, ?_, ?_⟩
    · unfold colloquyref18_SameEntry.f
      rw [if_neg e1]
      exact hne 0
    · simp [e1]
instance : DecidableEq S44 := fun a b => if h : a.f0 = b.f0 ∧ a.f1 = b.f1 ∧ a.f2 = b.f2 ∧ a.f3 = b.f3 then .isTrue (by obtain ⟨x, y, z, u⟩ := a; obtain ⟨x', y', z', u'⟩ := b; simp at h; simp [h]) else .isFalse (fun e => h (by rw [e]; simp))
instance : DecidableEq S42 := fun a b => if h : a.f0 = b.f0 ∧ a.f1 = b.f1 then .isTrue (by obtain ⟨x, y⟩ := a; obtain ⟨x', y'⟩ := b; simp at h; simp [h]) else .isFalse (fun e => h (by rw [e]; simp))
instance : DecidableEq Ent := fun a b => if h : a.g = b.g ∧ a.rs = b.rs ∧ a.ts = b.ts then .isTrue (by obtain ⟨x, y, z⟩ := a; obtain ⟨x', y', z'⟩ := b; simp at h; simp [h]) else .isFalse (fun e => h (by rw [e]; simp))
theorem same_any (w : World) (a b : Ent) (A1 A2 A3 A4 : Option Addr) (c1 c2 c3 c4 : Nat) (h1 : Kd.C k42 w A1 a.rs.length a.rs) (l1 : a.rs.length ≤ c1) (h2 : Kd.C (Kd.slice 44 k44) w A2 a.ts.length a.ts) (l2 : a.ts.length ≤ c2) (h3 : Kd.C k42 w A3 b.rs.length b.rs) (l3 : b.rs.length ≤ c3) (h4 : Kd.C (Kd.slice 44 k44) w A4 b.ts.length b.ts) (l4 : b.ts.length ≤ c4)
    (n1 : a.rs.length ≤ 140737488355328) (n2 : a.ts.length ≤ 140737488355328) (n3 : ∀ t, t ∈ a.ts → t.length ≤ 140737488355328) :
    Calls Try.prog 14 #[.agg #[.int .i64 a.g, .slice A1 a.rs.length c1, .slice A2 a.ts.length c2], .agg #[.int .i64 b.g, .slice A3 b.rs.length c3, .slice A4 b.ts.length c4]] w fun e w' => e = .returned (.bool (decide (a = b))) ∧ Below w.heap.size w w' := by
  obtain ⟨k, r, hr, hq⟩ := entry_same a b n1 n2 n3
  refine (colloquyref18_SameEntry.calls k a.g A1 c1 a.rs A2 c2 a.ts b.g A3 c3 b.rs A4 c4 b.ts r w h1 l1 h2 l2 h3 l3 h4 l4 hr).mono fun e w' h => ?_
  have : r = decide (a = b) := by rw [Bool.eq_iff_iff]; simpa using hq
  exact ⟨by rw [← this]; exact h.1, h.2⟩

/-! ### few events -/
def total (ts : List (List S44)) : Nat := (ts.map List.length).sum
theorem few_tell (g : Int) (rs : List S42) (ts : List (List S44)) (hn : ts.length ≤ 140737488355328) (hs : ∀ t, t ∈ ts → t.length ≤ 140737488355328) (d : Nat) : ∀ (k i n : Nat), i ≤ ts.length → ts.length - i = d → d < k → (n : Int) ≤ 281474976710656 → ∃ b, colloquylaw21_few.l0 k (n : Int) (i : Int) g rs ts = some b ∧ (b = true → n + total (ts.drop i) ≤ 500) := by
  induction d with
  | zero =>
    intro k i n h1 hd hk hN
    obtain ⟨k, rfl⟩ : ∃ m, k = m + 1 := ⟨k - 1, by omega⟩
    refine ⟨decide ((n : Int) ≤ 500), by simp only [colloquylaw21_few.l0]; rw [if_neg (by omega)], ?_⟩
    rw [List.drop_eq_nil_of_le (by omega)]
    simp [total]
    omega
  | succ d ih =>
    intro k i n h1 hd hk hN
    obtain ⟨k, rfl⟩ : ∃ m, k = m + 1 := ⟨k - 1, by omega⟩
    have hi : i < ts.length := by omega
    have hl := hs ts[i] (List.getElem_mem hi)
    by_cases he : (n : Int) ≤ 500
    · obtain ⟨b, hb, hq⟩ := ih k (i + 1) (n + ts[i].length) (by omega) (by omega) (by omega) (by omega)
      refine ⟨b, ?_, ?_⟩
      · simp only [colloquylaw21_few.l0]
        rw [if_pos (by omega), if_pos he, if_pos (by omega), rdL_at hi, wrapn hi hn]
        have : wrap64 ((n : Int) + (ts[i].length : Int)) = ((n + ts[i].length : Nat) : Int) := by unfold wrap64; omega
        rw [this]
        exact hb
      · intro h
        have := hq h
        rw [List.drop_eq_getElem_cons hi]
        simp only [total, List.map_cons, List.sum_cons] at this ⊢
        omega
    · refine ⟨decide ((n : Int) ≤ 500), ?_, ?_⟩
      · simp only [colloquylaw21_few.l0]
        rw [if_pos (by omega), if_neg he]
      · intro h
        exact absurd (of_decide_eq_true h) he
theorem few_any (w : World) (a : Ent) (A1 A2 : Option Addr) (c1 c2 : Nat) (h1 : Kd.C k42 w A1 a.rs.length a.rs) (l1 : a.rs.length ≤ c1) (h2 : Kd.C (Kd.slice 44 k44) w A2 a.ts.length a.ts) (l2 : a.ts.length ≤ c2) (n1 : a.rs.length ≤ 140737488355328) (n2 : a.ts.length ≤ 140737488355328) (n3 : ∀ t, t ∈ a.ts → t.length ≤ 140737488355328) :
    ∃ b : Bool, (b = true → a.rs.length + a.ts.length + total a.ts ≤ 500) ∧ ∀ w', Below w.heap.size w w' → Calls Try.prog 7 #[.agg #[.int .i64 a.g, .slice A1 a.rs.length c1, .slice A2 a.ts.length c2]] w' fun e w2 => e = .returned (.bool b) ∧ Below w'.heap.size w' w2 := by
  obtain ⟨b, hb, hq⟩ := few_tell a.g a.rs a.ts n2 n3 a.ts.length (a.ts.length + 1) 0 (a.rs.length + a.ts.length) (by omega) (by omega) (by omega) (by omega)
  refine ⟨b, fun h => by simpa using hq h, fun w' hw => ?_⟩
  refine colloquylaw21_few.calls (a.ts.length + 1) a.g A1 c1 a.rs A2 c2 a.ts b w' (Kd.C_below h1 hw) l1 (Kd.C_below h2 hw) l2 ?_
  unfold colloquylaw21_few.f
  have : wrap64 ((a.rs.length : Int) + (a.ts.length : Int)) = ((a.rs.length + a.ts.length : Nat) : Int) := by unfold wrap64; omega
  rw [this]
  exact hb
end Go.Proofs.Ytnognmbapciegaa.Bk
namespace Go.Proofs.Ytnognmbapciegaa.Bk
open Go.RowKit Go.Proofs.YtnognmbapciegaaW.PrintWords Go.Proofs.YtnognmbapciegaaW.PrintLast Go.Proofs.YtnognmbapciegaaW.PrintMore Go.Proofs.Ytnognmbapciegaa.PBk
set_option linter.unusedVariables false
set_option linter.unusedSimpArgs false

/-- An entry's slices in memory. -/
structure EntV (w : World) (en : Ent) (A1 : Option Addr) (n1 c1 : Nat) (A2 : Option Addr) (n2 c2 : Nat) : Prop where
  h1 : n1 = en.rs.length
  h2 : n2 = en.ts.length
  l1 : n1 ≤ c1
  l2 : n2 ≤ c2
  C1 : Kd.C k42 w A1 n1 en.rs
  C2 : Kd.C (Kd.slice 44 k44) w A2 n2 en.ts
theorem EntV.below {w w' : World} {en : Ent} {A1 A2 : Option Addr} {n1 c1 n2 c2 : Nat} (h : EntV w en A1 n1 c1 A2 n2 c2) (hb : Below w.heap.size w w') : EntV w' en A1 n1 c1 A2 n2 c2 :=
  ⟨h.h1, h.h2, h.l1, h.l2, Kd.C_below h.C1 hb, Kd.C_below h.C2 hb⟩
theorem EntV.of_R {w : World} {B : Nat} {en : Ent} {A1 A2 : Option Addr} {n1 c1 n2 c2 : Nat} (h1 : Kd.R k42 42 w B (fun _ => True) (.slice A1 n1 c1) en.rs) (h2 : Kd.R (Kd.slice 44 k44) 46 w B (fun _ => True) (.slice A2 n2 c2) en.ts) : EntV w en A1 n1 c1 A2 n2 c2 := by
  obtain ⟨A, c, e1, hl1, hC1⟩ := Kd.R_reads h1
  obtain ⟨A', c', e2, hl2, hC2⟩ := Kd.R_reads h2
  cases e1
  cases e2
  exact ⟨rfl, rfl, hl1, hl2, hC1, hC2⟩
theorem EntV.nil (w : World) : EntV w ⟨0, [], []⟩ none 0 0 none 0 0 := ⟨rfl, rfl, Nat.le_refl _, Nat.le_refl _, Kd.C_nil _ _, Kd.C_nil _ _⟩
/-- Lengths that memory bears. -/
structure Sm (en : Ent) : Prop where
  n1 : en.rs.length ≤ 140737488355328
  n2 : en.ts.length ≤ 140737488355328
  n3 : ∀ t, t ∈ en.ts → t.length ≤ 140737488355328
theorem c10 {w : World} {en : Ent} {A1 A2 : Option Addr} {n1 c1 n2 c2 : Nat} (h : EntV w en A1 n1 c1 A2 n2 c2) (s : Sm en) : Calls Try.prog 10 #[.agg #[.int .i64 en.g, .slice A1 n1 c1, .slice A2 n2 c2]] w fun e w' => e = .returned (.bool (rightE en)) ∧ Below w.heap.size w w' := by
  obtain ⟨rfl, rfl, l1, l2, C1, C2⟩ := h
  exact right_any w en A1 A2 c1 c2 C1 C2 l1 l2 s.n1 s.n3
theorem c8 {w : World} {en : Ent} {A1 A2 : Option Addr} {n1 c1 n2 c2 : Nat} (h : EntV w en A1 n1 c1 A2 n2 c2) (s : Sm en) : Calls Try.prog 8 #[.agg #[.int .i64 en.g, .slice A1 n1 c1, .slice A2 n2 c2]] w fun e w' => e = .returned (.bool (rightE en)) ∧ Below w.heap.size w w' := by
  obtain ⟨rfl, rfl, l1, l2, C1, C2⟩ := h
  exact refRight_any w en A1 A2 c1 c2 C1 C2 l1 l2 s.n1 s.n3
/-- Bytes that a call has made. -/
def Bytes (w w' : World) (xs : List Int) (A : Option Addr) (n c : Nat) : Prop := n = xs.length ∧ n ≤ c ∧ Kd.C (Kd.int .u8) w' A n xs
theorem Bytes.below {w w1 w2 : World} {xs : List Int} {A : Option Addr} {n c : Nat} (h : Bytes w w1 xs A n c) (hb : Below w1.heap.size w1 w2) : Bytes w w2 xs A n c := ⟨h.1, h.2.1, Kd.C_below h.2.2 hb⟩
theorem Bytes.of_own {w w' : World} {B : Nat} {xs : List Int} {A : Option Addr} {n c : Nat} (h : Own w' B (.slice A n c) xs) : Bytes w w' xs A n c := by
  obtain ⟨A', c', e1, hl1, hC1⟩ := Kd.R_reads h
  cases e1
  exact ⟨rfl, hl1, hC1⟩
def P9 (w : World) (xs : List Int) (code : Int) (e : Ending) (w' : World) : Prop := ∃ (A : Option Addr) (n c : Nat), e = .returned (.tuple #[.slice A n c, .int .i64 code]) ∧ Bytes w w' xs A n c ∧ Below w.heap.size w w'
theorem c9 {w : World} {en : Ent} {A1 A2 : Option Addr} {n1 c1 n2 c2 : Nat} (h : EntV w en A1 n1 c1 A2 n2 c2) (s : Sm en) (hr : rightE en = true) (ho : (pack en).length ≤ 8796093022208) : Calls Try.prog 9 #[.agg #[.int .i64 en.g, .slice A1 n1 c1, .slice A2 n2 c2]] w (P9 w (pack en) 0) := by
  obtain ⟨rfl, rfl, l1, l2, C1, C2⟩ := h
  refine (pack_ok w en A1 A2 c1 c2 C1 C2 l1 l2 s.n1 s.n3 hr (by omega)).mono fun e w' hh => ?_
  obtain ⟨A, n, c, he, hn, hO, hb⟩ := hh
  exact ⟨A, n, c, he, Bytes.of_own hO, hb⟩
theorem c9bad {w : World} {en : Ent} {A1 A2 : Option Addr} {n1 c1 n2 c2 : Nat} (h : EntV w en A1 n1 c1 A2 n2 c2) (s : Sm en) (hr : rightE en = false) : Calls Try.prog 9 #[.agg #[.int .i64 en.g, .slice A1 n1 c1, .slice A2 n2 c2]] w fun e w' => e = .returned (.tuple #[.slice none 0 0, .int .i64 1]) ∧ Below w.heap.size w w' := by
  obtain ⟨rfl, rfl, l1, l2, C1, C2⟩ := h
  exact pack_bad w en A1 A2 c1 c2 C1 C2 l1 l2 s.n1 s.n3 hr
def P13 (w : World) (xs : List Int) (e : Ending) (w' : World) : Prop := ∃ (A : Option Addr) (n c : Nat), e = .returned (.slice A n c) ∧ Bytes w w' xs A n c ∧ Below w.heap.size w w'
theorem c13 {w : World} {en : Ent} {A1 A2 : Option Addr} {n1 c1 n2 c2 : Nat} (h : EntV w en A1 n1 c1 A2 n2 c2) (s : Sm en) (hr : rightE en = true) (ho : (pack en).length ≤ 8796093022208) : Calls Try.prog 13 #[.agg #[.int .i64 en.g, .slice A1 n1 c1, .slice A2 n2 c2]] w (P13 w (pack en)) := by
  obtain ⟨rfl, rfl, l1, l2, C1, C2⟩ := h
  refine (refPack_ok w en A1 A2 c1 c2 C1 C2 l1 l2 s.n1 s.n3 hr ho).mono fun e w' hh => ?_
  obtain ⟨A, n, c, he, hn, hO, hb⟩ := hh
  exact ⟨A, n, c, he, Bytes.of_own hO, hb⟩
theorem c12 {w w0 w1 : World} {xs ys : List Int} {A1 A2 : Option Addr} {n1 c1 n2 c2 : Nat} (h1 : Bytes w0 w xs A1 n1 c1) (h2 : Bytes w1 w ys A2 n2 c2) (hn : xs.length ≤ 140737488355328) : Calls Try.prog 12 #[.slice A1 n1 c1, .slice A2 n2 c2] w fun e w' => e = .returned (.bool (decide (xs = ys))) ∧ Below w.heap.size w w' :=
  sameB_any w A1 n1 c1 xs A2 n2 c2 ys h1.1 h2.1 h1.2.2 h1.2.1 h2.2.2 h2.2.1 hn
/-- What an unpacking comes to: the entry, or the empty one, and a word of it. -/
def PU (w : World) (u : Option Ent) (yes no : Value) (e : Ending) (w' : World) : Prop := ∃ (A1 : Option Addr) (n1 c1 : Nat) (A2 : Option Addr) (n2 c2 : Nat), e = .returned (.tuple #[.agg #[.int .i64 (u.getD ⟨0, [], []⟩).g, .slice A1 n1 c1, .slice A2 n2 c2], if u.isSome then yes else no]) ∧ EntV w' (u.getD ⟨0, [], []⟩) A1 n1 c1 A2 n2 c2 ∧ Below w.heap.size w w'
theorem c11 {w w0 : World} {xs : List Int} {A : Option Addr} {n c : Nat} (h : Bytes w0 w xs A n c) (hy : By xs) (hx : xs.length ≤ 1099511627776) : Calls Try.prog 11 #[.slice A n c] w (PU w (unpack xs) (.int .i64 0) (.int .i64 80)) := by
  obtain ⟨rfl, hl, hC⟩ := h
  cases hu : unpack xs with
  | none =>
    refine (unpack_none' (body_any right_any) hl hC hy hx hu).mono fun e w' hh => ?_
    exact ⟨none, 0, 0, none, 0, 0, hh.1, EntV.nil _, hh.2⟩
  | some en =>
    refine (unpack_some (body_any right_any) hl hC hy hx hu).mono fun e w' hh => ?_
    obtain ⟨v1, v2, he, hb, h1, h2⟩ := hh
    obtain ⟨A1, c1, rfl⟩ := Kd.R_slice h1
    obtain ⟨A2, c2, rfl⟩ := Kd.R_slice h2
    exact ⟨A1, _, c1, A2, _, c2, he, EntV.of_R h1 h2, hb⟩
theorem c15 {w w0 : World} {xs : List Int} {A : Option Addr} {n c : Nat} (h : Bytes w0 w xs A n c) (hy : By xs) (hx : xs.length ≤ 1099511627776) : Calls Try.prog 15 #[.slice A n c] w (PU w (unpack xs) (.bool true) (.bool false)) := by
  obtain ⟨hn, hl, hC⟩ := h
  refine (refUnpack_any w A c n xs hn hl hC hy (by omega)).mono fun e w' hh => ?_
  obtain ⟨hb, hh⟩ := hh
  cases hu : unpack xs with
  | none =>
    rw [hu] at hh
    exact ⟨none, 0, 0, none, 0, 0, hh, EntV.nil _, hb⟩
  | some en =>
    rw [hu] at hh
    obtain ⟨v1, v2, he, h1, h2⟩ := hh
    obtain ⟨A1, c1, rfl⟩ := Kd.R_slice h1
    obtain ⟨A2, c2, rfl⟩ := Kd.R_slice h2
    exact ⟨A1, _, c1, A2, _, c2, he, EntV.of_R h1 h2, hb⟩
theorem c14 {w : World} {a b : Ent} {A1 A2 A3 A4 : Option Addr} {n1 c1 n2 c2 n3 c3 n4 c4 : Nat} (h : EntV w a A1 n1 c1 A2 n2 c2) (h' : EntV w b A3 n3 c3 A4 n4 c4) (s : Sm a) : Calls Try.prog 14 #[.agg #[.int .i64 a.g, .slice A1 n1 c1, .slice A2 n2 c2], .agg #[.int .i64 b.g, .slice A3 n3 c3, .slice A4 n4 c4]] w fun e w' => e = .returned (.bool (decide (a = b))) ∧ Below w.heap.size w w' := by
  obtain ⟨rfl, rfl, l1, l2, C1, C2⟩ := h
  obtain ⟨rfl, rfl, l3, l4, C3, C4⟩ := h'
  exact same_any w a b A1 A2 A3 A4 c1 c2 c3 c4 C1 l1 C2 l2 C3 l3 C4 l4 s.n1 s.n2 s.n3
theorem c7 {w : World} {en : Ent} {A1 A2 : Option Addr} {n1 c1 n2 c2 : Nat} (h : EntV w en A1 n1 c1 A2 n2 c2) (s : Sm en) : ∃ b : Bool, (b = true → en.rs.length + en.ts.length + total en.ts ≤ 500) ∧ ∀ w', Below w.heap.size w w' → Calls Try.prog 7 #[.agg #[.int .i64 en.g, .slice A1 n1 c1, .slice A2 n2 c2]] w' fun e w2 => e = .returned (.bool b) ∧ Below w'.heap.size w' w2 := by
  obtain ⟨rfl, rfl, l1, l2, C1, C2⟩ := h
  exact few_any w en A1 A2 c1 c2 C1 l1 C2 l2 s.n1 s.n2 s.n3

/-! ### the entry that stands in the law -/
def rs0 : List S42 := [⟨⟨#[116]⟩, 1⟩]
def es0 : List S44 := [⟨3, 1, ⟨#[97]⟩, 7⟩, ⟨12, 0, ⟨#[]⟩, 8⟩]
def en0 : Ent := ⟨2, rs0, [es0]⟩
theorem en0_right : rightE en0 = true := by decide
theorem en0_len : (pack en0).length ≤ 8796093022208 := by decide
theorem en0_sm : Sm en0 := ⟨by decide, by decide, fun t ht => by rw [List.mem_singleton.mp ht]; decide⟩
theorem evs_by : ∀ (es : List S44), By (evsB es)
  | [] => By.nil
  | e :: es => By.append (By.append (num_by _) (By.append (num_by _) (By.append (num_by _) (By.append (num_by _) (by_bytesOf _))))) (evs_by es)
theorem reses_by : ∀ (l : List (S42 × List S44)), By (resesB l)
  | [] => By.nil
  | x :: l => By.append (By.append (By.append (num_by _) (by_bytesOf _)) (By.append (num_by _) (By.append (num_by _) (evs_by x.2)))) (reses_by l)
theorem pack_by (e : Ent) : By (pack e) := By.append (num_by _) (By.append (num_by _) (reses_by _))
theorem sm_ok {e : Ent} (h : rightE e = true) (s : Sm e) : EntOk e := entOk_of h (by have := s.n1; omega) (fun t ht => by have := s.n3 t ht; omega)
theorem unpack_pack {e : Ent} (h : rightE e = true) (s : Sm e) : unpack (pack e) = some e := by
  have := getAll_pack e [] (sm_ok h s)
  rw [List.append_nil] at this
  unfold unpack
  rw [this]
  simp [h]
theorem en0_unpack : unpack (pack en0) = some en0 := unpack_pack en0_right en0_sm
end Go.Proofs.Ytnognmbapciegaa.Bk
namespace Go.Proofs.Ytnognmbapciegaa.Bk
open Go.RowKit Go.Proofs.YtnognmbapciegaaW.PrintWords Go.Proofs.YtnognmbapciegaaW.PrintLast Go.Proofs.YtnognmbapciegaaW.PrintMore Go.Proofs.Ytnognmbapciegaa.PBk
set_option linter.unusedVariables false
set_option linter.unusedSimpArgs false

theorem q9 {w : World} {A1 A2 : Option Addr} {n1 c1 n2 c2 : Nat} (h : EntV w en0 A1 n1 c1 A2 n2 c2) : Calls Try.prog 9 #[.agg #[.int .i64 2, .slice A1 n1 c1, .slice A2 n2 c2]] w (P9 w (pack en0) 0) := c9 h en0_sm en0_right en0_len
theorem q10 {w : World} {A1 A2 : Option Addr} {n1 c1 n2 c2 : Nat} (h : EntV w en0 A1 n1 c1 A2 n2 c2) : Calls Try.prog 10 #[.agg #[.int .i64 2, .slice A1 n1 c1, .slice A2 n2 c2]] w fun e w' => e = .returned (.bool true) ∧ Below w.heap.size w w' := by
  have := c10 h en0_sm
  rw [en0_right] at this
  exact this
def P11 (w : World) (e : Ending) (w' : World) : Prop := ∃ (A1 : Option Addr) (n1 c1 : Nat) (A2 : Option Addr) (n2 c2 : Nat), e = .returned (.tuple #[.agg #[.int .i64 2, .slice A1 n1 c1, .slice A2 n2 c2], .int .i64 0]) ∧ EntV w' en0 A1 n1 c1 A2 n2 c2 ∧ Below w.heap.size w w'
theorem q11 {w w0 : World} {A : Option Addr} {n c : Nat} (h : Bytes w0 w (pack en0) A n c) : Calls Try.prog 11 #[.slice A n c] w (P11 w) := by
  refine (c11 h (pack_by _) (by have := en0_len; revert this; decide)).mono fun e w' hh => ?_
  rw [en0_unpack] at hh
  exact hh
theorem q14 {w : World} {A1 A2 A3 A4 : Option Addr} {n1 c1 n2 c2 n3 c3 n4 c4 : Nat} (h : EntV w en0 A1 n1 c1 A2 n2 c2) (h' : EntV w en0 A3 n3 c3 A4 n4 c4) : Calls Try.prog 14 #[.agg #[.int .i64 2, .slice A1 n1 c1, .slice A2 n2 c2], .agg #[.int .i64 2, .slice A3 n3 c3, .slice A4 n4 c4]] w fun e w' => e = .returned (.bool true) ∧ Below w.heap.size w w' := by
  have := c14 h h' en0_sm
  rw [decide_eq_true rfl] at this
  exact this
theorem q16 (w : World) : Calls Try.prog 16 #[] w fun e w' => e = .returned (.agg #[.int .i64 3, .int .i64 1, .string ⟨#[97]⟩, .int .i64 7]) ∧ Below w.heap.size w w' := colloquylaw21_first.calls 3 1 ⟨#[97]⟩ 7 w rfl
theorem row_C {α : Type} {d : Kd α} {e : Nat} {w : World} {B : Nat} {A : Option Addr} {n c : Nat} {xs : List α} (h : d.R e w B (fun _ => True) (.slice A n c) xs) : n = xs.length ∧ n ≤ c ∧ d.C w A n xs := by
  obtain ⟨A', c', e1, hl1, hC1⟩ := Kd.R_reads h
  cases e1
  exact ⟨rfl, hl1, hC1⟩
theorem ent0 {w : World} {A1 A2 : Option Addr} {n1 c1 n2 c2 : Nat} (h1 : n1 = rs0.length) (l1 : n1 ≤ c1) (h2 : Kd.C k42 w A1 n1 rs0) (h3 : n2 = [es0].length ∧ n2 ≤ c2 ∧ Kd.C (Kd.slice 44 k44) w A2 n2 [es0]) : EntV w en0 A1 n1 c1 A2 n2 c2 :=
  ⟨h1, h3.1, l1, h3.2.1, h2, h3.2.2⟩
set_option maxHeartbeats 400000 in
theorem packing_any (w : World) : Calls Try.prog 6 #[] w fun e w' => e = .returned (.bool true) ∧ Below w.heap.size w w' := by
  go_enter Try.func6, Try.ntmps6
  go_wp2_with (first
    | (go_at_call 10; go_loud (refine (q10 (HE.out.below HKC.out)).mono ?_; rintro e5 wD ⟨rfl, hb⟩; have HKD := Lib.hid (HKC.out.trans (hb.mono HKC.out.size)); clear hb))
    | (go_at_call 14; go_loud (refine (q14 (HEB.out.below (al_below wB _)) (HE.out.below (HKB.out.trans ((al_below wB _).mono HKB.out.size)))).mono ?_; rintro e5 wC ⟨rfl, hb⟩; have HKC := Lib.hid ((HKB.out.trans ((al_below wB _).mono HKB.out.size)).trans (hb.mono (HKB.out.trans ((al_below wB _).mono HKB.out.size)).size)); have hz := blk_below HXB.out hb; have y0 : wC.cell? ⟨w11.heap.size, 0, none⟩ = some (.int .i64 2) := blk_cell hz 0; have y1 : wC.cell? ⟨w11.heap.size, 1, none⟩ = some (.slice A7 n7 c7) := blk_cell hz 1; have y2 : wC.cell? ⟨w11.heap.size, 2, none⟩ = some (.slice A11 n11 c11) := blk_cell hz 2; clear hb hz))
    | (go_at_call 11; go_loud (refine (q11 HY9.out).mono ?_; rintro e5 wB ⟨A5, n5, c5, A6, n6, c6, rfl, hen, hb⟩; have HEB := Lib.hid hen; have HKB := Lib.hid (HK9.out.trans (hb.mono HK9.out.size)); have hz := blk_alloc (blk_below HX9.out hb) (.cells #[.int .i64 2, .slice A5 n5 c5, .slice A6 n6 c6] 25); have HXB := Lib.hid hz; have z0 : (wB.alloc (.cells #[.int .i64 2, .slice A5 n5 c5, .slice A6 n6 c6] 25)).cell? ⟨w11.heap.size, 0, none⟩ = some (.int .i64 2) := blk_cell hz 0; have z1 : (wB.alloc (.cells #[.int .i64 2, .slice A5 n5 c5, .slice A6 n6 c6] 25)).cell? ⟨w11.heap.size, 1, none⟩ = some (.slice A7 n7 c7) := blk_cell hz 1; have z2 : (wB.alloc (.cells #[.int .i64 2, .slice A5 n5 c5, .slice A6 n6 c6] 25)).cell? ⟨w11.heap.size, 2, none⟩ = some (.slice A11 n11 c11) := blk_cell hz 2; clear hen hb hz))
    | (go_at_call 9; go_loud (refine (q9 (HE.out.below (al_below w11 _))).mono ?_; rintro e5 w9 ⟨A9, n9, c9, rfl, hby, hb⟩; have HY9 := Lib.hid hby; have HK9 := Lib.hid ((al_below w11 _).trans (hb.mono (al_below w11 _).size)); have HX9 := Lib.hid (blk_below (blk_new w11 (.cells #[.int .i64 2, .slice A7 n7 c7, .slice A11 n11 c11] 25)) hb); clear hby hb))
    | ((with_reducible refine gate_dst (N := 11) rfl ?_); go_loud (refine Kd.R_lit (Kd.slice 44 k44) w8.heap.size 46 ?hg (N := 11) ?hd (xs := [es0]) (inner := [.slice A10 n10 c10]) (ok := fun _ => True) (okp := fun _ => True) ?hr ?hp (fun _ hk => hk) trivial (Below.refl w8.heap.size w10) (HB10.out.size) (by decide) ?_; (case hd => rfl); (case hg => rfl); (case hr => first | (go_simp; done) | (go_simp; rfl)); (case hp => exact Reps.one ⟨_, rfl, HR10.out⟩ (Reps.none _ _)); intro v11 w11 hr hb hgr _; (obtain ⟨A11, n11, c11, rfl⟩ : ∃ A n c, v11 = .slice A n c := by obtain ⟨A, c, e⟩ := Kd.R_slice hr; exact ⟨A, _, c, e⟩); have HR11 := Lib.hid (row_C hr); have HB11 := Lib.hid (HB10.out.trans hb); have HBW := Lib.hid (HB8.out.trans ((HB10.out.trans hb).mono HB8.out.size)); have HE := Lib.hid (ent0 (HR7.out.1) HR7.out.2.1 (Kd.C_below HR7.out.2.2 (HB8b.out.trans ((HB10.out.trans hb).mono HB8b.out.size))) (row_C hr)); clear hr hb hgr))
    | ((with_reducible refine gate_dst (N := 10) rfl ?_); go_loud (refine Kd.R_lit k44 w8.heap.size 44 ?hg (N := 10) ?hd (xs := es0) (inner := [.int .i64 3, .int .i64 1, .string ⟨#[97]⟩, .int .i64 7, .int .i64 12, .int .i64 0, .string ⟨#[]⟩, .int .i64 8]) (ok := fun _ => True) (okp := fun _ => True) ?hr ?hp (fun _ hk => hk) trivial (Below.refl w8.heap.size w8) (Nat.le_refl _) (by decide) ?_; (case hd => rfl); (case hg => rfl); (case hr => first | (go_simp; done) | (go_simp; rfl)); (case hp => exact Reps.c4 (k44_mkM _ _ _ ⟨3, 1, ⟨#[97]⟩, 7⟩) (Reps.c4 (k44_mkM _ _ _ ⟨12, 0, ⟨#[]⟩, 8⟩) (Reps.none _ _))); intro v10 w10 hr hb hgr _; (obtain ⟨A10, n10, c10, rfl⟩ : ∃ A n c, v10 = .slice A n c := by obtain ⟨A, c, e⟩ := Kd.R_slice hr; exact ⟨A, _, c, e⟩); have HR10 := Lib.hid hr; have HB10 := Lib.hid hb; clear hr hb hgr))
    | (go_at_call 16; go_loud (refine (q16 _).mono ?_; rintro e5 w8 ⟨rfl, hb⟩; have HB8b := Lib.hid hb; have HB8 := Lib.hid (HB7.out.trans (hb.mono HB7.out.size)); clear hb))
    | ((with_reducible refine gate_dst (N := 7) rfl ?_); go_loud (refine Kd.R_lit k42 w.heap.size 42 ?hg (N := 7) ?hd (xs := rs0) (inner := [.string ⟨#[116]⟩, .int .i64 1]) (ok := fun _ => True) (okp := fun _ => True) ?hr ?hp (fun _ hk => hk) trivial (Below.refl w.heap.size w) (Nat.le_refl _) (by decide) ?_; (case hd => rfl); (case hg => rfl); (case hr => first | (go_simp; done) | (go_simp; rfl)); (case hp => exact Reps.c2 (k42_mkM _ _ _ ⟨⟨#[116]⟩, 1⟩) (Reps.none _ _)); intro v7 w7 hr hb hgr _; (obtain ⟨A7, n7, c7, rfl⟩ : ∃ A n c, v7 = .slice A n c := by obtain ⟨A, c, e⟩ := Kd.R_slice hr; exact ⟨A, _, c, e⟩); have HR7 := Lib.hid (row_C hr); have HB7 := Lib.hid hb; clear hr hb hgr)))
  go_ret
  exact ⟨rfl, HBW.out.trans (HKD.out.mono HBW.out.size)⟩
end Go.Proofs.Ytnognmbapciegaa.Bk
namespace Go.Proofs.Ytnognmbapciegaa.Bk
set_option linter.unusedVariables false
set_option linter.unusedSimpArgs false
open Go.RowKit Go.Proofs.Ytnognmbapciegaa.PBk Go.Proofs.YtnognmbapciegaaW.PrintWords Go.Proofs.YtnognmbapciegaaW.PrintLast Go.Proofs.YtnognmbapciegaaW.PrintMore

theorem rows_of {α : Type} (d : Kd α) {w : World} {base : Nat} {a : Addr} {len : Nat} {Q : α → Prop} (hlen : len ≤ 9223372036854775807)
    (h : ∀ i, i < len → ∃ cs' x, w.cells? base (a.add (i * d.sz)) d.sz = some cs' ∧ d.K w x cs' ∧ Q x) : ∃ xs : List α, xs.length = len ∧ Kd.C d w (some a) len xs ∧ ∀ x, x ∈ xs → Q x := by
  classical
  by_cases h0 : len = 0
  · subst h0
    exact ⟨[], rfl, ⟨rfl, by omega, fun c => absurd c (Nat.lt_irrefl 0)⟩, fun x hx => by simp at hx⟩
  obtain ⟨_, z, _⟩ := h 0 (by omega)
  have hch : ∀ i, ∃ x, i < len → ∃ cs', w.cells? base (a.add (i * d.sz)) d.sz = some cs' ∧ d.K w x cs' ∧ Q x := by
    intro i
    by_cases hi : i < len
    · obtain ⟨cs', x, h1, h2, h3⟩ := h i hi
      exact ⟨x, fun _ => ⟨cs', h1, h2, h3⟩⟩
    · exact ⟨z, fun c => (hi c).elim⟩
  let f : Nat → α := fun i => Classical.choose (hch i)
  have hf : ∀ i, i < len → ∃ cs', w.cells? base (a.add (i * d.sz)) d.sz = some cs' ∧ d.K w (f i) cs' ∧ Q (f i) := fun i => Classical.choose_spec (hch i)
  refine ⟨(List.range len).map f, by simp, ⟨by simp, hlen, fun _ => ⟨a, rfl, fun j p hp => ?_⟩⟩, fun x hx => ?_⟩
  · rw [List.getElem?_map, Option.map_eq_some_iff] at hp
    obtain ⟨i, hi, rfl⟩ := hp
    have hj := (List.getElem?_eq_some_iff.1 hi)
    obtain ⟨hjl, hji⟩ := hj
    simp at hjl hji
    subst hji
    obtain ⟨cs', h1, h2, _⟩ := hf j hjl
    obtain ⟨_, hl, hc⟩ := World.cells?_some h1
    refine ⟨cs', hl, h2, fun i u hu => ?_⟩
    have hi' := (List.getElem?_eq_some_iff.1 hu).1
    have := hc i (by omega)
    rw [Deep.add_add] at this
    rw [this, hu]
  · obtain ⟨i, hi, rfl⟩ := List.mem_map.1 hx
    simp at hi
    obtain ⟨_, _, _, h3⟩ := hf i hi
    exact h3

section
variable {H : Type} {enc : TypeId × Value → H} {w : World} {base : Nat} {spare : Nat → Bool} {held : Bool}

theorem wf8 {k : Int} (h : (Lit.int .u8 k).wf = true) : 0 ≤ k ∧ k ≤ 255 := by
  simp only [Lit.wf, Bool.and_eq_true, decide_eq_true_eq] at h
  simpa [IntKind.min, IntKind.max, IntKind.signed, IntKind.bits] using h

theorem q2 : Try.prog.cellsOf 2 = 1 := by kernel_rfl
theorem q3 : Try.prog.cellsOf 3 = 1 := by kernel_rfl
theorem q5 : Try.prog.cellsOf 5 = 1 := by kernel_rfl
theorem q9' : Try.prog.cellsOf 9 = 1 := by kernel_rfl
theorem q22 : Try.prog.cellsOf 22 = 1 := by kernel_rfl
theorem q23 : Try.prog.cellsOf 23 = 1 := by kernel_rfl
theorem q46 : Try.prog.cellsOf 46 = 1 := by kernel_rfl
theorem q42 : Try.prog.cellsOf 42 = 2 := by kernel_rfl
theorem q44 : Try.prog.cellsOf 44 = 4 := by kernel_rfl
theorem q25 : Try.prog.cellsOf 25 = 3 := by kernel_rfl
theorem y42 : Try.prog.bytesOf 42 = 24 := by kernel_rfl
theorem y44 : Try.prog.bytesOf 44 = 40 := by kernel_rfl
theorem y46 : Try.prog.bytesOf 46 = 24 := by kernel_rfl
theorem y5 : Try.prog.bytesOf 5 = 1 := by kernel_rfl
def LimB (n : Nat) : Prop := n ≤ reachBytes
theorem lim {n : Nat} (h : n ≤ reachBytes) : n ≤ 140737488351232 := by
  have : reachBytes = 140737488351232 := by decide
  omega

theorem byte_read {fuel : Nat} {cs : List Value} {x : DataW H × List MemPlace} (h : DataW.trod enc Try.prog w base spare held fuel 5 cs = some x) : ∃ r : Int, (Kd.int .u8).K w r cs ∧ 0 ≤ r ∧ r < 256 := by
  obtain ⟨n, e0, _, w0⟩ := DataW.trod_int Try.underlying5 h
  have := wf8 w0
  exact ⟨n, e0, by omega, by omega⟩
theorem res_read {fuel : Nat} {cs : List Value} {x : DataW H × List MemPlace} (h : DataW.trod enc Try.prog w base spare held fuel 42 cs = some x) : ∃ r : S42, k42.K w r cs ∧ True := by
  obtain ⟨xs, n, _, _, hl, hlen, hf⟩ := DataW.trod_struct Try.underlying42 h
  rw [q42] at hl
  match cs, hl with
  | [a, b], _ =>
    match xs, hlen with
    | [y0, y1], _ =>
      have h0 : DataW.trod enc Try.prog w base spare held n 9 (([a, b].drop 0).take (Try.prog.cellsOf 9)) = some y0 := hf 0 _ rfl
      have h1 : DataW.trod enc Try.prog w base spare held n 3 (([a, b].drop 1).take (Try.prog.cellsOf 3)) = some y1 := hf 1 _ rfl
      rw [q9'] at h0
      rw [q3] at h1
      obtain ⟨s, e0, _, _⟩ := DataW.trod_string Try.underlying9 h0
      obtain ⟨v, e1, _, _⟩ := DataW.trod_int Try.underlying3 h1
      simp at e0 e1
      subst e0 e1
      exact ⟨⟨s, v⟩, k42_mk w _, trivial⟩
theorem ev_read {fuel : Nat} {cs : List Value} {x : DataW H × List MemPlace} (h : DataW.trod enc Try.prog w base spare held fuel 44 cs = some x) : ∃ r : S44, k44.K w r cs ∧ True := by
  obtain ⟨xs, n, _, _, hl, hlen, hf⟩ := DataW.trod_struct Try.underlying44 h
  rw [q44] at hl
  match cs, hl with
  | [a, b, c, d], _ =>
    match xs, hlen with
    | [y0, y1, y2, y3], _ =>
      have h0 : DataW.trod enc Try.prog w base spare held n 3 (([a, b, c, d].drop 0).take (Try.prog.cellsOf 3)) = some y0 := hf 0 _ rfl
      have h1 : DataW.trod enc Try.prog w base spare held n 3 (([a, b, c, d].drop 1).take (Try.prog.cellsOf 3)) = some y1 := hf 1 _ rfl
      have h2 : DataW.trod enc Try.prog w base spare held n 9 (([a, b, c, d].drop 2).take (Try.prog.cellsOf 9)) = some y2 := hf 2 _ rfl
      have h3 : DataW.trod enc Try.prog w base spare held n 2 (([a, b, c, d].drop 3).take (Try.prog.cellsOf 2)) = some y3 := hf 3 _ rfl
      rw [q3] at h0 h1
      rw [q9'] at h2
      rw [q2] at h3
      obtain ⟨v0, e0, _, _⟩ := DataW.trod_int Try.underlying3 h0
      obtain ⟨v1, e1, _, _⟩ := DataW.trod_int Try.underlying3 h1
      obtain ⟨s, e2, _, _⟩ := DataW.trod_string Try.underlying9 h2
      obtain ⟨v3, e3, _, _⟩ := DataW.trod_int Try.underlying2 h3
      simp at e0 e1 e2 e3
      subst e0 e1 e2 e3
      exact ⟨⟨v0, v1, s, v3⟩, k44_mk w _, trivial⟩
/-- A slice that came in: its elements, and how many bytes it takes. -/
theorem slice_read {α : Type} {d : Kd α} {Q : α → Prop} {t e B : Nat} {fuel : Nat} {v : Value} {x : DataW H × List MemPlace} (ht : Try.prog.underlying t = some (.slice e)) (hq : Try.prog.cellsOf e = d.sz) (hB : Try.prog.bytesOf e = B)
    (h : DataW.trod enc Try.prog w base spare held fuel t [v] = some x) (hw : ∀ n, n ∈ x.1.weights Try.prog t → n ≤ reachBytes)
    (hel : ∀ (n : Nat) (cs : List Value) (y : DataW H × List MemPlace), DataW.trod enc Try.prog w base spare held n e cs = some y → (∀ k, k ∈ y.1.weights Try.prog e → k ≤ reachBytes) → ∃ r : α, d.K w r cs ∧ Q r) :
    ∃ (A : Option Addr) (n c : Nat) (xs : List α), v = .slice A n c ∧ n = xs.length ∧ n ≤ c ∧ Kd.C d w A n xs ∧ (∀ r, r ∈ xs → Q r) ∧ n * B ≤ 140737488351232 := by
  rcases DataW.trod_slice ht h with ⟨e1, _⟩ | ⟨ad, len, cap, elems, rest, n1, en1, e1, hx, hb, hlc, hcm, hlen, hcell, _⟩
  · simp at e1
    subst e1
    exact ⟨none, 0, 0, [], rfl, rfl, Nat.le_refl _, Kd.C_nil _ w, fun r hr => by simp at hr, by omega⟩
  · simp at e1
    subst e1
    have hwx : ∀ n, n ∈ (DataW.slice (elems.map (·.1)) (rest.map (·.1)) : DataW H).weights Try.prog t → n ≤ reachBytes := by rw [hx] at hw; exact hw
    have hall : ∀ (l : List (DataW H)) (y : DataW H), y ∈ l → ∀ k, k ∈ y.weights Try.prog e → k ∈ DataW.weightsAll Try.prog e l := by
      intro l
      induction l with
      | nil => intro y hy; simp at hy
      | cons z l ih =>
        intro y hy k hk
        simp only [DataW.weightsAll, List.mem_append]
        rcases List.mem_cons.mp hy with rfl | hy
        · exact .inl hk
        · exact .inr (ih y hy k hk)
    obtain ⟨rs, q1, q2, q3⟩ := rows_of (w := w) (base := base) (a := ad) (len := len) d (Q := Q) (by unfold maxLen at hcm; omega) (fun i hi => by
      have hx := hcell i hi
      rw [List.getElem?_eq_getElem (by omega), hq] at hx
      obtain ⟨cs', t1, t2⟩ := Option.bind_eq_some_iff.1 hx
      obtain ⟨r, g1, g2⟩ := hel n1 cs' _ t2 (fun k hk => hwx k (by
        simp only [DataW.weights, ht, List.mem_cons, List.mem_append]
        exact .inr (.inl (hall _ _ (List.mem_map_of_mem (List.getElem_mem _)) k hk))))
      exact ⟨cs', r, t1, g1, g2⟩)
    refine ⟨some ad, len, cap, rs, rfl, q1.symm, hlc, q2, q3, ?_⟩
    have h1 := hwx ((elems.length + rest.length) * Try.prog.bytesOf e) (by simp [DataW.weights, ht])
    have h2 := lim h1
    rw [hB] at h2
    have h3 : len * B ≤ (elems.length + rest.length) * B := Nat.mul_le_mul_right B (by omega)
    omega
theorem tr_read {fuel : Nat} {cs : List Value} {x : DataW H × List MemPlace} (h : DataW.trod enc Try.prog w base spare held fuel 46 cs = some x) (hw : ∀ n, n ∈ x.1.weights Try.prog 46 → n ≤ reachBytes) : ∃ t : List S44, (Kd.slice 44 k44).K w t cs ∧ t.length ≤ 140737488355328 := by
  have hcs : ∃ v, cs = [v] := by
    rcases DataW.trod_slice Try.underlying46 h with ⟨e1, _⟩ | ⟨ad, len, cap, elems, rest, n1, en1, e1, _⟩
    · exact ⟨_, e1⟩
    · exact ⟨_, e1⟩
  obtain ⟨v, rfl⟩ := hcs
  obtain ⟨A, n, c, xs, rfl, h1, h2, h3, _, h5⟩ := slice_read (d := k44) (Q := fun _ => True) (B := 40) Try.underlying46 q44 y44 h hw (fun n cs y hy _ => ev_read hy)
  subst h1
  exact ⟨xs, ⟨A, c, rfl, h2, h3⟩, by omega⟩
theorem entry_read {fuel : Nat} {cs : List Value} {x : DataW H × List MemPlace} (h : DataW.trod enc Try.prog w base spare held fuel 25 cs = some x) (hw : ∀ n, n ∈ x.1.weights Try.prog 25 → n ≤ reachBytes) : ∃ (en : Ent) (A1 : Option Addr) (n1 c1 : Nat) (A2 : Option Addr) (n2 c2 : Nat), cs = [.int .i64 en.g, .slice A1 n1 c1, .slice A2 n2 c2] ∧ EntV w en A1 n1 c1 A2 n2 c2 ∧ Sm en := by
  obtain ⟨xs, n, _, hx, hl, hlen, hf⟩ := DataW.trod_struct Try.underlying25 h
  rw [q25] at hl
  match cs, hl with
  | [a, b, c], _ =>
    match xs, hlen with
    | [y0, y1, y2], _ =>
      have h0 : DataW.trod enc Try.prog w base spare held n 3 (([a, b, c].drop 0).take (Try.prog.cellsOf 3)) = some y0 := hf 0 _ rfl
      have h1 : DataW.trod enc Try.prog w base spare held n 22 (([a, b, c].drop 1).take (Try.prog.cellsOf 22)) = some y1 := hf 1 _ rfl
      have h2 : DataW.trod enc Try.prog w base spare held n 23 (([a, b, c].drop 2).take (Try.prog.cellsOf 23)) = some y2 := hf 2 _ rfl
      rw [q3] at h0
      rw [q22] at h1
      rw [q23] at h2
      have hw' : ∀ n, n ∈ (DataW.agg [y0.1, y1.1, y2.1] : DataW H).weights Try.prog 25 → n ≤ reachBytes := by rw [hx] at hw; exact hw
      have hw1 : ∀ n, n ∈ y1.1.weights Try.prog 22 → n ≤ reachBytes := fun n hn => hw' n (by
        simp only [DataW.weights, Try.underlying25]
        exact DataW.weights_mem_each (j := 1) (t := 22) (d := y1.1) rfl rfl n hn)
      have hw2 : ∀ n, n ∈ y2.1.weights Try.prog 23 → n ≤ reachBytes := fun n hn => hw' n (by
        simp only [DataW.weights, Try.underlying25]
        exact DataW.weights_mem_each (j := 2) (t := 23) (d := y2.1) rfl rfl n hn)
      obtain ⟨g, e0, _, _⟩ := DataW.trod_int Try.underlying3 h0
      simp at e0
      subst e0
      obtain ⟨A1, n1, c1, rs, e1, p1, l1, C1, _, b1⟩ := slice_read (d := k42) (Q := fun _ => True) (B := 24) (v := b) Try.underlying22 q42 y42 h1 hw1 (fun n cs y hy _ => res_read hy)
      obtain ⟨A2, n2, c2, ts, e2, p2, l2, C2, s2, b2⟩ := slice_read (d := Kd.slice 44 k44) (Q := fun t => t.length ≤ 140737488355328) (B := 24) (v := c) Try.underlying23 q46 y46 h2 hw2 (fun n cs y hy hk => tr_read hy hk)
      subst e1 e2
      exact ⟨⟨g, rs, ts⟩, A1, n1, c1, A2, n2, c2, rfl, ⟨p1, p2, l1, l2, C1, C2⟩, ⟨by show rs.length ≤ _; omega, by show ts.length ≤ _; omega, s2⟩⟩
theorem bytes_read {fuel : Nat} {cs : List Value} {x : DataW H × List MemPlace} (h : DataW.trod enc Try.prog w base spare held fuel 28 cs = some x) (hw : ∀ n, n ∈ x.1.weights Try.prog 28 → n ≤ reachBytes) : ∃ (xs : List Int) (A : Option Addr) (n c : Nat), cs = [.slice A n c] ∧ Bytes w w xs A n c ∧ By xs ∧ n ≤ 140737488351232 := by
  have hcs : ∃ v, cs = [v] := by
    rcases DataW.trod_slice Try.underlying28 h with ⟨e1, _⟩ | ⟨ad, len, cap, elems, rest, n1, en1, e1, _⟩
    · exact ⟨_, e1⟩
    · exact ⟨_, e1⟩
  obtain ⟨v, rfl⟩ := hcs
  obtain ⟨A, n, c, xs, rfl, h1, h2, h3, h4, h5⟩ := slice_read (d := Kd.int .u8) (Q := fun r => 0 ≤ r ∧ r < 256) (B := 1) Try.underlying28 q5 y5 h hw (fun n cs y hy _ => byte_read hy)
  exact ⟨xs, A, n, c, rfl, ⟨h1, h2, h3⟩, h4, by omega⟩
end
end Go.Proofs.Ytnognmbapciegaa.Bk
