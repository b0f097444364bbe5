/- The document's rule of a right trace. -/
import Derived.Test.YtnognmbapciegaaKc
import Derived.BigQuiet
import Derived.Deep.CutRange
namespace Go.Proofs.Ytnognmbapciegaa.Bk
open Go.RowKit Go.BigFrame Go.Proofs.YtnognmbapciegaaW.PrintWords Go.Proofs.YtnognmbapciegaaW.PrintLast Go.Proofs.YtnognmbapciegaaW.PrintMore Go.Proofs.Ytnognmbapciegaa.PBk
set_option linter.unusedVariables false
set_option linter.unusedSimpArgs false

/-- A world in which nothing below w's size has changed: the class of worlds for regions that read, and call what makes memory of its own. -/
structure BW (w : World) where
  w1 : World
  hb : Below w.heap.size w w1
instance (w : World) : Nonempty (BW w) := ⟨⟨w, Below.refl _ _⟩⟩
theorem BW.next {w : World} {c : BW w} {w2 : World} (h : Below c.w1.heap.size c.w1 w2) : ∃ d : BW w, w2 = d.w1 := ⟨⟨w2, c.hb.trans (h.mono c.hb.size)⟩, rfl⟩
theorem wp_region_quiet_bw {P : Program} {id : Nat} {Q : Exit → Act → World → Prop} {a : Act} {w : World} {l : List Oper} (hm : P.follows .mixedOrders = true) (hB : Region.lexB .any l.toArray = true)
    (h : wpQuiet P l.toArray (fun w' => ∃ c : BW w, w' = c.w1) (fun a' => ∀ w', (∃ c : BW w, w' = c.w1) → Q .normal a' w') l a) : (Code.region id l.toArray true).wp P Q a w :=
  wp_region_quiet (C := fun w' => ∃ c : BW w, w' = c.w1) hm hB ⟨⟨w.drew, (Below.refl _ _).drew⟩, rfl⟩ (by simpa using h)

def stepR (K n : Int) (s : ByteArray) (a T : Int) (l D : Bool) : Bool := oneR ⟨K, n, s, a⟩ && (if K = 1 then decide (a = 0) else decide (T ≤ a)) && (!l || !D)
theorem sf {K n : Int} {s : ByteArray} {a T : Int} {l D : Bool} (h : K < 1 ∨ 14 < K ∨ a < 0 ∨ n < -1 ∨ (endsK K = false ∧ n < 0) ∨ (endsK K = false ∧ namedK K = false ∧ n ≠ 0) ∨ (textK K = false ∧ s.size ≠ 0) ∨ (K = 1 ∧ a ≠ 0) ∨ (K ≠ 1 ∧ a < T) ∨ (l = true ∧ D = true)) : stepR K n s a T l D = false := by
  unfold stepR oneR
  rcases h with h | h | h | h | h | h | h | h | h | h
  · have : decide (1 ≤ K) = false := by simp; omega
    simp [this]
  · have : decide (K ≤ 14) = false := by simp; omega
    simp [this]
  · have : decide (0 ≤ a) = false := by simp; omega
    simp [this]
  · have : decide (-1 ≤ n) = false := by simp; omega
    simp [this]
  · have : decide (0 ≤ n) = false := by simp; omega
    simp [this, h.1]
  · have : decide (n = 0) = false := by simpa using h.2.2
    simp [this, h.1, h.2.1]
  · have : decide (s.size = 0) = false := decide_eq_false h.2
    simp only [this, h.1, Bool.or_false, Bool.false_or, Bool.and_false, Bool.false_and]
  · simp [h.1, h.2]
  · have : decide (T ≤ a) = false := by simp; omega
    simp [this, h.1]
  · simp [h.1, h.2]
theorem st {K n : Int} {s : ByteArray} {a T : Int} {l D : Bool} (h1 : 1 ≤ K) (h2 : K ≤ 14) (h3 : 0 ≤ a) (h4 : -1 ≤ n) (h5 : endsK K = true ∨ 0 ≤ n) (h6 : endsK K = true ∨ namedK K = true ∨ n = 0) (h7 : textK K = true ∨ s.size = 0) (h8 : if K = 1 then a = 0 else T ≤ a) (h9 : l = false ∨ D = false) : stepR K n s a T l D = true := by
  unfold stepR oneR
  have e8 : (if K = 1 then decide (a = 0) else decide (T ≤ a)) = true := by
    by_cases hk : K = 1
    · rw [if_pos hk] at h8 ⊢
      simpa using h8
    · rw [if_neg hk] at h8 ⊢
      simpa using h8
  have e9 : (!l || !D) = true := by rcases h9 with h | h <;> simp [h]
  have e5 : (endsK K || decide (0 ≤ n)) = true := by rcases h5 with h | h <;> simp [h]
  have e6 : (endsK K || namedK K || decide (n = 0)) = true := by rcases h6 with h | h | h <;> simp [h]
  have e7 : (textK K || decide (s.size = 0)) = true := by rcases h7 with h | h <;> simp [h]
  rw [e5, e6, e7, e8, e9]
  simp
  omega

theorem vt {P : Prop} [Decidable P] (h : P) : Value.bool true = Value.bool (decide P) := by rw [decide_eq_true h]
theorem vf {P : Prop} [Decidable P] (h : ¬ P) : Value.bool false = Value.bool (decide P) := by rw [decide_eq_false h]
/-- The time ahead of a place. -/
def tpv (es : List S44) (k : Nat) : Int := if k = 0 then 0 else (rd_T44 es ((k : Int) - 1)).f3
theorem tpv_succ (es : List S44) (k : Nat) (a : Int) (h : k < es.length) (ha : (rd_T44 es (k : Int)).f3 = a) : trF (tpv es (k + 1)) (es.drop (k + 1)) = trF a (es.drop (k + 1)) := by
  unfold tpv
  rw [if_neg (by omega), ← ha]
  congr 3
  omega
theorem last_drop {es : List S44} {k : Nat} : (es.drop (k + 1)).isEmpty = !decide ((k : Int) + 1 < (es.length : Int)) := by
  rw [Bool.eq_iff_iff]
  simp
  omega
set_option maxHeartbeats 8000000 in
set_option maxRecDepth 100000 in
theorem refTrRight_any (w : World) (A : Option Addr) (c : Nat) (es : List S44) (hC : Kd.C k44 w A es.length es) (hl : es.length ≤ 140737488355328) : Calls Try.prog 18 #[.slice A es.length c] w fun e' w' => e' = .returned (.bool (trR es)) ∧ Below w.heap.size w w' := by
  go_enter Try.func18, Try.ntmps18
  go_wp2_with fail
  go_loopw [3] (fun i wr => ∃ (k : Nat), i = .int .i64 (k : Int) ∧ k ≤ es.length ∧ Hid (Below w.heap.size w wr) ∧ Hid (trR es = trF (tpv es k) (es.drop k))) (fun i _ => es.length - (iOf i).toNat)
  case atStart => exact ⟨0, rfl, by omega, Lib.hid (Below.refl _ _), Lib.hid rfl⟩
  case round =>
    obtain ⟨k, rfl, hk, HB, HE⟩ := hrel
    by_cases hlt : k < es.length
    · have hd := rd44_drop es k hlt
      obtain ⟨ad, rfl, f0, f1, f2, f3⟩ := at_T44 (Kd.C_below hC HB.out) (k : Int) (by omega) (by omega)
      have hp : 1 ≤ k → wr.cell? ⟨(ad.add ((k - 1) * 4)).block, (ad.add ((k - 1) * 4)).off + 3, none⟩ = some (.int .i64 (tpv es k)) := by
        intro h1
        obtain ⟨ad', h2, _, _, _, h3⟩ := at_T44 (Kd.C_below hC HB.out) ((k : Int) - 1) (by omega) (by omega)
        cases h2
        unfold tpv
        have e1 : ((k : Int) - 1).toNat = k - 1 := by omega
        rw [e1] at h3
        rw [if_neg (by omega)]
        exact h3
      have HT0 : Hid (k = 0 → tpv es k = 0) := Lib.hid (fun h => by unfold tpv; rw [if_pos h])
      obtain ⟨T, hT⟩ : ∃ T, tpv es k = T := ⟨_, rfl⟩
      rw [hT] at hp HT0 HE
      obtain ⟨e, he⟩ : ∃ e, rd_T44 es (k : Int) = e := ⟨_, rfl⟩
      rw [he] at f0 f1 f2 f3 hd
      have HA3 : Hid ((rd_T44 es (k : Int)).f3 = e.f3) := Lib.hid (by rw [he])
      obtain ⟨K, n, s, a⟩ := e
      simp only [Int.toNat_natCast] at f0 f1 f2 f3
      have HE2 := HE.out
      rw [hd, trF_step, last_drop] at HE2
      have HF : Hid (trR es = (stepR K n s a T (decide ((k : Int) + 1 < (es.length : Int))) (decR ⟨K, n, s, a⟩) && trF a (es.drop (k + 1)))) := Lib.hid (by rw [HE2]; rfl)
      have H2 := fun w => refDecides_any ⟨K, n, s, a⟩ w
      simp only [evV] at H2
      clear HE2 hd he HE hT
      go_upto_region 6 with fail
      go_cut [35] from 8 to 131 (fun s35 wc => s35 = .bool (decide (K < 1 ∨ 14 < K ∨ a < 0 ∨ n < -1)) ∧ wc = (wr.alloc (.cells #[.int .i64 K, .int .i64 n, .string s, .int .i64 a] 44)))
      case first =>
        as_aux_lemma =>
          cases u1 : decide (K < 1) with
          | true =>
            go_wp2
            go_meet
            case rel => exact ⟨vt (by have := of_decide_eq_true u1; omega), rfl⟩
          | false =>
            cases u2 : decide (K > 14) with
            | true =>
              go_wp2
              go_meet
              case rel => exact ⟨vt (by have := of_decide_eq_true u2; omega), rfl⟩
            | false =>
              cases o1 : decide (a < 0) with
              | true =>
                go_wp2
                go_meet
                case rel => exact ⟨vt (by have := of_decide_eq_true o1; omega), rfl⟩
              | false =>
                cases o2 : decide (n < -1) with
                | true =>
                  go_wp2
                  go_meet
                  case rel => exact ⟨vt (by have := of_decide_eq_true o2; omega), rfl⟩
                | false =>
                  go_wp2
                  go_meet
                  case rel => exact ⟨vf (by have := of_decide_eq_false u1; have := of_decide_eq_false u2; have := of_decide_eq_false o1; have := of_decide_eq_false o2; omega), rfl⟩
      case rest =>
        obtain ⟨rfl, rfl⟩ := hcut
        cases t1 : decide (K < 1 ∨ 14 < K ∨ a < 0 ∨ n < -1) with
        | true =>
          have hq := of_decide_eq_true t1
          have HQ := Lib.hid hq
          clear hq
          go_wp2
          go_ret
          exact ⟨by rw [HF.out, sf (by have := HQ.out; rcases this with h | h | h | h; exact .inl h; exact .inr (.inl h); exact .inr (.inr (.inl h)); exact .inr (.inr (.inr (.inl h))))]; rfl, HB.out.trans ((al_below wr _).mono HB.out.size)⟩
        | false =>
          have hq := of_decide_eq_false t1
          have T1q := Lib.hid hq
          clear hq
          go_upto_region 8 with fail
          go_cut [6] from 8 to 131 (fun s6 wc => s6 = .bool (endsK K) ∧ wc = (wr.alloc (.cells #[.int .i64 K, .int .i64 n, .string s, .int .i64 a] 44)))
          case first =>
            as_aux_lemma =>
              cases k5 : (K == 5) with
              | true =>
                go_wp2
                go_meet
                case rel => exact ⟨congrArg Value.bool (by have := eq_of_beq k5; subst this; rfl : true = endsK K), rfl⟩
              | false =>
                cases k6 : (K == 6) with
                | true =>
                  go_wp2
                  go_meet
                  case rel => exact ⟨congrArg Value.bool (by have := eq_of_beq k6; subst this; rfl : true = endsK K), rfl⟩
                | false =>
                  cases k7 : (K == 7) with
                  | true =>
                    go_wp2
                    go_meet
                    case rel => exact ⟨congrArg Value.bool (by have := eq_of_beq k7; subst this; rfl : true = endsK K), rfl⟩
                  | false =>
                    go_wp2
                    go_meet
                    case rel => exact ⟨congrArg Value.bool (by have h : ∀ j : Int, (K == j) = false → decide (K = j) = false := fun j hj => (by simpa using hj); simp only [endsK, h _ k5, h _ k6, h _ k7]; rfl : false = endsK K), rfl⟩
          case rest =>
            obtain ⟨rfl, rfl⟩ := hcut
            go_upto_region 9 with fail
            go_cut [7] from 8 to 131 (fun s7 wc => s7 = .bool (namedK K) ∧ wc = (wr.alloc (.cells #[.int .i64 K, .int .i64 n, .string s, .int .i64 a] 44)))
            case first =>
              as_aux_lemma =>
                cases k1 : (K == 1) with
                | true =>
                  go_wp2
                  go_meet
                  case rel => exact ⟨congrArg Value.bool (by have := eq_of_beq k1; subst this; rfl : true = namedK K), rfl⟩
                | false =>
                  cases k3 : (K == 3) with
                  | true =>
                    go_wp2
                    go_meet
                    case rel => exact ⟨congrArg Value.bool (by have := eq_of_beq k3; subst this; rfl : true = namedK K), rfl⟩
                  | false =>
                    cases k4 : (K == 4) with
                    | true =>
                      go_wp2
                      go_meet
                      case rel => exact ⟨congrArg Value.bool (by have := eq_of_beq k4; subst this; rfl : true = namedK K), rfl⟩
                    | false =>
                      cases k14 : (K == 14) with
                      | true =>
                        go_wp2
                        go_meet
                        case rel => exact ⟨congrArg Value.bool (by have := eq_of_beq k14; subst this; rfl : true = namedK K), rfl⟩
                      | false =>
                        go_wp2
                        go_meet
                        case rel => exact ⟨congrArg Value.bool (by have h : ∀ j : Int, (K == j) = false → decide (K = j) = false := fun j hj => (by simpa using hj); simp only [namedK, h _ k1, h _ k3, h _ k4, h _ k14]; rfl : false = namedK K), rfl⟩
            case rest =>
              obtain ⟨rfl, rfl⟩ := hcut
              obtain ⟨E, hE⟩ : ∃ E, endsK K = E := ⟨_, rfl⟩
              obtain ⟨M, hM⟩ : ∃ M, namedK K = M := ⟨_, rfl⟩
              rw [hE, hM]
              have HE1 := Lib.hid hE
              have HM1 := Lib.hid hM
              clear hE hM
              go_upto_region 10 with fail
              go_cut [79] from 8 to 131 (fun s79 wc => s79 = .bool (decide ((E = false ∧ n < 0) ∨ (E = false ∧ M = false ∧ n ≠ 0))) ∧ wc = (wr.alloc (.cells #[.int .i64 K, .int .i64 n, .string s, .int .i64 a] 44)))
              case first =>
                as_aux_lemma =>
                  cases E with
                  | true =>
                    go_wp2
                    go_meet
                    case rel => exact ⟨vf (by simp), rfl⟩
                  | false =>
                    cases o3 : decide (n < 0) with
                    | true =>
                      go_wp2
                      go_meet
                      case rel => exact ⟨vt (by have := of_decide_eq_true o3; simp [this]), rfl⟩
                    | false =>
                      have o3' := of_decide_eq_false o3
                      cases M with
                      | true =>
                        go_wp2
                        go_meet
                        case rel => exact ⟨vf (by simp; omega), rfl⟩
                      | false =>
                        cases o4 : (n == 0) with
                        | true =>
                          have o4' : (n != 0) = false := by simpa using o4
                          go_wp2
                          go_meet
                          case rel => exact ⟨vf (by have := eq_of_beq o4; simp [this]), rfl⟩
                        | false =>
                          have o4' : (n != 0) = true := by simpa using o4
                          go_wp2
                          go_meet
                          case rel => exact ⟨vt (by have h0 : n ≠ 0 := (by simpa using o4); simp [h0]), rfl⟩
              case rest =>
                obtain ⟨rfl, rfl⟩ := hcut
                cases t2 : decide ((E = false ∧ n < 0) ∨ (E = false ∧ M = false ∧ n ≠ 0)) with
                | true =>
                  have hq := of_decide_eq_true t2
                  have HQ := Lib.hid hq
                  clear hq
                  go_wp2
                  go_ret
                  exact ⟨by rw [HF.out, sf (by have := HQ.out; rw [← HE1.out, ← HM1.out] at this; rcases this with h | h; exact .inr (.inr (.inr (.inr (.inl h)))); exact .inr (.inr (.inr (.inr (.inr (.inl h))))))]; rfl, HB.out.trans ((al_below wr _).mono HB.out.size)⟩
                | false =>
                  have hq := of_decide_eq_false t2
                  have T2q := Lib.hid hq
                  clear hq
                  go_upto_region 12 with fail
                  go_cut [94] from 8 to 131 (fun s94 wc => s94 = .bool (decide (textK K = false ∧ s.size ≠ 0)) ∧ wc = (wr.alloc (.cells #[.int .i64 K, .int .i64 n, .string s, .int .i64 a] 44)))
                  case first =>
                    as_aux_lemma =>
                      cases k2 : (K == 2) with
                      | true =>
                        have k2' : (K != 2) = false := by simpa using k2
                        go_wp2
                        go_meet
                        case rel => exact ⟨vf (by have := eq_of_beq k2; subst this; intro h; exact absurd h.1 (by decide)), rfl⟩
                      | false =>
                        have k2' : (K != 2) = true := by simpa using k2
                        cases k3 : (K == 3) with
                        | true =>
                          have k3' : (K != 3) = false := by simpa using k3
                          go_wp2
                          go_meet
                          case rel => exact ⟨vf (by have := eq_of_beq k3; subst this; intro h; exact absurd h.1 (by decide)), rfl⟩
                        | false =>
                          have k3' : (K != 3) = true := by simpa using k3
                          cases k4 : (K == 4) with
                          | true =>
                            have k4' : (K != 4) = false := by simpa using k4
                            go_wp2
                            go_meet
                            case rel => exact ⟨vf (by have := eq_of_beq k4; subst this; intro h; exact absurd h.1 (by decide)), rfl⟩
                          | false =>
                            have k4' : (K != 4) = true := by simpa using k4
                            have htx : textK K = false := by have h : ∀ j : Int, (K == j) = false → decide (K = j) = false := fun j hj => (by simpa using hj); simp only [textK, h _ k2, h _ k3, h _ k4]; rfl
                            have HTX := Lib.hid htx
                            clear htx
                            cases o5 : s.toList.isEmpty with
                            | true =>
                              have o5' : s.toList = [] := by simpa using o5
                              go_wp2
                              go_meet
                              case rel => exact ⟨vf (fun h => h.2 ((tl_size s).mp o5')), rfl⟩
                            | false =>
                              have o5' : ¬ s.toList = [] := by simpa using o5
                              go_wp2
                              go_meet
                              case rel => exact ⟨vt (⟨HTX.out, fun h => o5' ((tl_size s).mpr h)⟩), rfl⟩
                  case rest =>
                    obtain ⟨rfl, rfl⟩ := hcut
                    cases t3 : decide (textK K = false ∧ s.size ≠ 0) with
                    | true =>
                      have hq := of_decide_eq_true t3
                      have HQ := Lib.hid hq
                      clear hq
                      go_wp2
                      go_ret
                      exact ⟨by rw [HF.out, sf (.inr (.inr (.inr (.inr (.inr (.inr (.inl HQ.out)))))))]; rfl, HB.out.trans ((al_below wr _).mono HB.out.size)⟩
                    | false =>
                      have hq := of_decide_eq_false t3
                      have T3q := Lib.hid hq
                      clear hq
                      obtain ⟨D, hD⟩ : ∃ D, decR ⟨K, n, s, a⟩ = D := ⟨_, rfl⟩
                      rw [hD] at HF
                      simp only [hD] at H2
                      clear hD
                      go_upto_region 14 with fail
                      go_cut [131] from 8 to 131 (fun s131 wc => ∃ c : BW (wr.alloc (.cells #[.int .i64 K, .int .i64 n, .string s, .int .i64 a] 44)), s131 = .bool (decide ((K = 1 ∧ a ≠ 0) ∨ (K ≠ 1 ∧ 1 ≤ k ∧ a < T) ∨ ((k : Int) + 1 < (es.length : Int) ∧ D = true))) ∧ wc = c.w1)
                      case first =>
                        as_aux_lemma =>
                          cases k1 : (K == 1) with
                          | true =>
                            have k1' : (K != 1) = false := by simpa using k1
                            have HK1 : Hid (K = 1) := Lib.hid (eq_of_beq k1)
                            clear hp
                            cases o6 : (a == 0) with
                            | false =>
                              have o6' : (a != 0) = true := by simpa using o6
                              have hbc : ∀ c : BW (wr.alloc (.cells #[.int .i64 K, .int .i64 n, .string s, .int .i64 a] 44)), c.w1.heap[wr.heap.size]? = some (.cells #[.int .i64 K, .int .i64 n, .string s, .int .i64 a] 44 (0, 0)) := fun c => blk_below (blk_new wr _) c.hb
                              have y0 : ∀ c : BW (wr.alloc (.cells #[.int .i64 K, .int .i64 n, .string s, .int .i64 a] 44)), c.w1.cell? ⟨wr.heap.size, 0, none⟩ = some (.int .i64 K) := fun c => blk_cell (hbc c) 0
                              have y1 : ∀ c : BW (wr.alloc (.cells #[.int .i64 K, .int .i64 n, .string s, .int .i64 a] 44)), c.w1.cell? ⟨wr.heap.size, 1, none⟩ = some (.int .i64 n) := fun c => blk_cell (hbc c) 1
                              have y2 : ∀ c : BW (wr.alloc (.cells #[.int .i64 K, .int .i64 n, .string s, .int .i64 a] 44)), c.w1.cell? ⟨wr.heap.size, 2, none⟩ = some (.string s) := fun c => blk_cell (hbc c) 2
                              have y3 : ∀ c : BW (wr.alloc (.cells #[.int .i64 K, .int .i64 n, .string s, .int .i64 a] 44)), c.w1.cell? ⟨wr.heap.size, 3, none⟩ = some (.int .i64 a) := fun c => blk_cell (hbc c) 3
                              clear hbc
                              refine wp_region_quiet_bw (by kernel_rfl) (by kernel_rfl) ?_
                              repeat (go_big_quiet_step ((go_at_call 41; exact (H2 _).mono (fun e' w3 h => ⟨h.1, BW.next h.2⟩))))
                              refine wpQuiet_nil ?_
                              rintro _ ⟨nq, rfl⟩
                              go_wp2
                              go_meet
                              case rel => exact ⟨nq, vt (.inl ⟨HK1.out, by simpa using o6⟩), rfl⟩
                            | true =>
                              have o6' : (a != 0) = false := by simpa using o6
                              have HA0 : Hid (a = 0) := Lib.hid (eq_of_beq o6)
                              cases o9 : decide ((k : Int) + 1 < (es.length : Int)) with
                              | true =>
                                have hbc : ∀ c : BW (wr.alloc (.cells #[.int .i64 K, .int .i64 n, .string s, .int .i64 a] 44)), c.w1.heap[wr.heap.size]? = some (.cells #[.int .i64 K, .int .i64 n, .string s, .int .i64 a] 44 (0, 0)) := fun c => blk_below (blk_new wr _) c.hb
                                have y0 : ∀ c : BW (wr.alloc (.cells #[.int .i64 K, .int .i64 n, .string s, .int .i64 a] 44)), c.w1.cell? ⟨wr.heap.size, 0, none⟩ = some (.int .i64 K) := fun c => blk_cell (hbc c) 0
                                have y1 : ∀ c : BW (wr.alloc (.cells #[.int .i64 K, .int .i64 n, .string s, .int .i64 a] 44)), c.w1.cell? ⟨wr.heap.size, 1, none⟩ = some (.int .i64 n) := fun c => blk_cell (hbc c) 1
                                have y2 : ∀ c : BW (wr.alloc (.cells #[.int .i64 K, .int .i64 n, .string s, .int .i64 a] 44)), c.w1.cell? ⟨wr.heap.size, 2, none⟩ = some (.string s) := fun c => blk_cell (hbc c) 2
                                have y3 : ∀ c : BW (wr.alloc (.cells #[.int .i64 K, .int .i64 n, .string s, .int .i64 a] 44)), c.w1.cell? ⟨wr.heap.size, 3, none⟩ = some (.int .i64 a) := fun c => blk_cell (hbc c) 3
                                clear hbc
                                refine wp_region_quiet_bw (by kernel_rfl) (by kernel_rfl) ?_
                                repeat (go_big_quiet_step ((go_at_call 41; exact (H2 _).mono (fun e' w3 h => ⟨h.1, BW.next h.2⟩))))
                                refine wpQuiet_nil ?_
                                rintro _ ⟨nq, rfl⟩
                                go_wp2
                                go_meet
                                case rel => exact ⟨nq, by have h9 := of_decide_eq_true o9; cases D with | true => exact vt (.inr (.inr ⟨h9, rfl⟩)) | false => exact vf (by rintro (h | h | h); exact h.2 HA0.out; exact h.1 HK1.out; cases h.2), rfl⟩
                              | false =>
                                have hbc : ∀ c : BW (wr.alloc (.cells #[.int .i64 K, .int .i64 n, .string s, .int .i64 a] 44)), c.w1.heap[wr.heap.size]? = some (.cells #[.int .i64 K, .int .i64 n, .string s, .int .i64 a] 44 (0, 0)) := fun c => blk_below (blk_new wr _) c.hb
                                have y0 : ∀ c : BW (wr.alloc (.cells #[.int .i64 K, .int .i64 n, .string s, .int .i64 a] 44)), c.w1.cell? ⟨wr.heap.size, 0, none⟩ = some (.int .i64 K) := fun c => blk_cell (hbc c) 0
                                have y1 : ∀ c : BW (wr.alloc (.cells #[.int .i64 K, .int .i64 n, .string s, .int .i64 a] 44)), c.w1.cell? ⟨wr.heap.size, 1, none⟩ = some (.int .i64 n) := fun c => blk_cell (hbc c) 1
                                have y2 : ∀ c : BW (wr.alloc (.cells #[.int .i64 K, .int .i64 n, .string s, .int .i64 a] 44)), c.w1.cell? ⟨wr.heap.size, 2, none⟩ = some (.string s) := fun c => blk_cell (hbc c) 2
                                have y3 : ∀ c : BW (wr.alloc (.cells #[.int .i64 K, .int .i64 n, .string s, .int .i64 a] 44)), c.w1.cell? ⟨wr.heap.size, 3, none⟩ = some (.int .i64 a) := fun c => blk_cell (hbc c) 3
                                clear hbc
                                refine wp_region_quiet_bw (by kernel_rfl) (by kernel_rfl) ?_
                                repeat (go_big_quiet_step ((go_at_call 41; exact (H2 _).mono (fun e' w3 h => ⟨h.1, BW.next h.2⟩))))
                                refine wpQuiet_nil ?_
                                rintro _ ⟨nq, rfl⟩
                                go_wp2
                                go_meet
                                case rel => exact ⟨nq, vf (by have h9 := of_decide_eq_false o9; rintro (h | h | h); exact h.2 HA0.out; exact h.1 HK1.out; exact h9 h.1), rfl⟩
                          | false =>
                            have k1' : (K != 1) = true := by simpa using k1
                            have HK1 : Hid (¬ K = 1) := Lib.hid (by simpa using k1)
                            cases o7 : decide ((k : Int) > 0) with
                            | true =>
                              have hpk : 1 ≤ k := by have := of_decide_eq_true o7; omega
                              have hpz := hp hpk
                              have hwk : wrap64 ((k : Int) - 1) = (k : Int) - 1 := by unfold wrap64; omega
                              have o7c : decide (0 < k) = true := by simp; omega
                              have o7b : decide (k = 0) = false := by simp; omega
                              clear hp
                              cases o8 : decide (a < T) with
                              | true =>
                                have hbc : ∀ c : BW (wr.alloc (.cells #[.int .i64 K, .int .i64 n, .string s, .int .i64 a] 44)), c.w1.heap[wr.heap.size]? = some (.cells #[.int .i64 K, .int .i64 n, .string s, .int .i64 a] 44 (0, 0)) := fun c => blk_below (blk_new wr _) c.hb
                                have y0 : ∀ c : BW (wr.alloc (.cells #[.int .i64 K, .int .i64 n, .string s, .int .i64 a] 44)), c.w1.cell? ⟨wr.heap.size, 0, none⟩ = some (.int .i64 K) := fun c => blk_cell (hbc c) 0
                                have y1 : ∀ c : BW (wr.alloc (.cells #[.int .i64 K, .int .i64 n, .string s, .int .i64 a] 44)), c.w1.cell? ⟨wr.heap.size, 1, none⟩ = some (.int .i64 n) := fun c => blk_cell (hbc c) 1
                                have y2 : ∀ c : BW (wr.alloc (.cells #[.int .i64 K, .int .i64 n, .string s, .int .i64 a] 44)), c.w1.cell? ⟨wr.heap.size, 2, none⟩ = some (.string s) := fun c => blk_cell (hbc c) 2
                                have y3 : ∀ c : BW (wr.alloc (.cells #[.int .i64 K, .int .i64 n, .string s, .int .i64 a] 44)), c.w1.cell? ⟨wr.heap.size, 3, none⟩ = some (.int .i64 a) := fun c => blk_cell (hbc c) 3
                                have yp : ∀ c : BW (wr.alloc (.cells #[.int .i64 K, .int .i64 n, .string s, .int .i64 a] 44)), c.w1.cell? ⟨(ad.add ((k - 1) * 4)).block, (ad.add ((k - 1) * 4)).off + 3, none⟩ = some (.int .i64 T) := fun c => pw_cell_below ((al_below wr _).trans (c.hb.mono (al_below wr _).size)) hpz
                                clear hbc
                                refine wp_region_quiet_bw (by kernel_rfl) (by kernel_rfl) ?_
                                repeat (go_big_quiet_step ((go_at_call 41; exact (H2 _).mono (fun e' w3 h => ⟨h.1, BW.next h.2⟩))))
                                refine wpQuiet_nil ?_
                                rintro _ ⟨nq, rfl⟩
                                go_wp2
                                go_meet
                                case rel => exact ⟨nq, vt (.inr (.inl ⟨HK1.out, hpk, of_decide_eq_true o8⟩)), rfl⟩
                              | false =>
                                cases o9 : decide ((k : Int) + 1 < (es.length : Int)) with
                                | true =>
                                  have hbc : ∀ c : BW (wr.alloc (.cells #[.int .i64 K, .int .i64 n, .string s, .int .i64 a] 44)), c.w1.heap[wr.heap.size]? = some (.cells #[.int .i64 K, .int .i64 n, .string s, .int .i64 a] 44 (0, 0)) := fun c => blk_below (blk_new wr _) c.hb
                                  have y0 : ∀ c : BW (wr.alloc (.cells #[.int .i64 K, .int .i64 n, .string s, .int .i64 a] 44)), c.w1.cell? ⟨wr.heap.size, 0, none⟩ = some (.int .i64 K) := fun c => blk_cell (hbc c) 0
                                  have y1 : ∀ c : BW (wr.alloc (.cells #[.int .i64 K, .int .i64 n, .string s, .int .i64 a] 44)), c.w1.cell? ⟨wr.heap.size, 1, none⟩ = some (.int .i64 n) := fun c => blk_cell (hbc c) 1
                                  have y2 : ∀ c : BW (wr.alloc (.cells #[.int .i64 K, .int .i64 n, .string s, .int .i64 a] 44)), c.w1.cell? ⟨wr.heap.size, 2, none⟩ = some (.string s) := fun c => blk_cell (hbc c) 2
                                  have y3 : ∀ c : BW (wr.alloc (.cells #[.int .i64 K, .int .i64 n, .string s, .int .i64 a] 44)), c.w1.cell? ⟨wr.heap.size, 3, none⟩ = some (.int .i64 a) := fun c => blk_cell (hbc c) 3
                                  have yp : ∀ c : BW (wr.alloc (.cells #[.int .i64 K, .int .i64 n, .string s, .int .i64 a] 44)), c.w1.cell? ⟨(ad.add ((k - 1) * 4)).block, (ad.add ((k - 1) * 4)).off + 3, none⟩ = some (.int .i64 T) := fun c => pw_cell_below ((al_below wr _).trans (c.hb.mono (al_below wr _).size)) hpz
                                  clear hbc
                                  refine wp_region_quiet_bw (by kernel_rfl) (by kernel_rfl) ?_
                                  repeat (go_big_quiet_step ((go_at_call 41; exact (H2 _).mono (fun e' w3 h => ⟨h.1, BW.next h.2⟩))))
                                  refine wpQuiet_nil ?_
                                  rintro _ ⟨nq, rfl⟩
                                  go_wp2
                                  go_meet
                                  case rel => exact ⟨nq, by have h9 := of_decide_eq_true o9; cases D with | true => exact vt (.inr (.inr ⟨h9, rfl⟩)) | false => exact vf (by rintro (h | h | h); exact HK1.out h.1; exact of_decide_eq_false o8 h.2.2; cases h.2), rfl⟩
                                | false =>
                                  have hbc : ∀ c : BW (wr.alloc (.cells #[.int .i64 K, .int .i64 n, .string s, .int .i64 a] 44)), c.w1.heap[wr.heap.size]? = some (.cells #[.int .i64 K, .int .i64 n, .string s, .int .i64 a] 44 (0, 0)) := fun c => blk_below (blk_new wr _) c.hb
                                  have y0 : ∀ c : BW (wr.alloc (.cells #[.int .i64 K, .int .i64 n, .string s, .int .i64 a] 44)), c.w1.cell? ⟨wr.heap.size, 0, none⟩ = some (.int .i64 K) := fun c => blk_cell (hbc c) 0
                                  have y1 : ∀ c : BW (wr.alloc (.cells #[.int .i64 K, .int .i64 n, .string s, .int .i64 a] 44)), c.w1.cell? ⟨wr.heap.size, 1, none⟩ = some (.int .i64 n) := fun c => blk_cell (hbc c) 1
                                  have y2 : ∀ c : BW (wr.alloc (.cells #[.int .i64 K, .int .i64 n, .string s, .int .i64 a] 44)), c.w1.cell? ⟨wr.heap.size, 2, none⟩ = some (.string s) := fun c => blk_cell (hbc c) 2
                                  have y3 : ∀ c : BW (wr.alloc (.cells #[.int .i64 K, .int .i64 n, .string s, .int .i64 a] 44)), c.w1.cell? ⟨wr.heap.size, 3, none⟩ = some (.int .i64 a) := fun c => blk_cell (hbc c) 3
                                  have yp : ∀ c : BW (wr.alloc (.cells #[.int .i64 K, .int .i64 n, .string s, .int .i64 a] 44)), c.w1.cell? ⟨(ad.add ((k - 1) * 4)).block, (ad.add ((k - 1) * 4)).off + 3, none⟩ = some (.int .i64 T) := fun c => pw_cell_below ((al_below wr _).trans (c.hb.mono (al_below wr _).size)) hpz
                                  clear hbc
                                  refine wp_region_quiet_bw (by kernel_rfl) (by kernel_rfl) ?_
                                  repeat (go_big_quiet_step ((go_at_call 41; exact (H2 _).mono (fun e' w3 h => ⟨h.1, BW.next h.2⟩))))
                                  refine wpQuiet_nil ?_
                                  rintro _ ⟨nq, rfl⟩
                                  go_wp2
                                  go_meet
                                  case rel => exact ⟨nq, vf (by have h9 := of_decide_eq_false o9; rintro (h | h | h); exact HK1.out h.1; exact of_decide_eq_false o8 h.2.2; exact h9 h.1), rfl⟩
                            | false =>
                              have o7c : decide (0 < k) = false := by have := of_decide_eq_false o7; simp; omega
                              have o7b : decide (k = 0) = true := by have := of_decide_eq_false o7; simp; omega
                              have HK0 : Hid (¬ 1 ≤ k) := Lib.hid (by have := of_decide_eq_false o7; omega)
                              clear hp
                              cases o9 : decide ((k : Int) + 1 < (es.length : Int)) with
                              | true =>
                                have hbc : ∀ c : BW (wr.alloc (.cells #[.int .i64 K, .int .i64 n, .string s, .int .i64 a] 44)), c.w1.heap[wr.heap.size]? = some (.cells #[.int .i64 K, .int .i64 n, .string s, .int .i64 a] 44 (0, 0)) := fun c => blk_below (blk_new wr _) c.hb
                                have y0 : ∀ c : BW (wr.alloc (.cells #[.int .i64 K, .int .i64 n, .string s, .int .i64 a] 44)), c.w1.cell? ⟨wr.heap.size, 0, none⟩ = some (.int .i64 K) := fun c => blk_cell (hbc c) 0
                                have y1 : ∀ c : BW (wr.alloc (.cells #[.int .i64 K, .int .i64 n, .string s, .int .i64 a] 44)), c.w1.cell? ⟨wr.heap.size, 1, none⟩ = some (.int .i64 n) := fun c => blk_cell (hbc c) 1
                                have y2 : ∀ c : BW (wr.alloc (.cells #[.int .i64 K, .int .i64 n, .string s, .int .i64 a] 44)), c.w1.cell? ⟨wr.heap.size, 2, none⟩ = some (.string s) := fun c => blk_cell (hbc c) 2
                                have y3 : ∀ c : BW (wr.alloc (.cells #[.int .i64 K, .int .i64 n, .string s, .int .i64 a] 44)), c.w1.cell? ⟨wr.heap.size, 3, none⟩ = some (.int .i64 a) := fun c => blk_cell (hbc c) 3
                                clear hbc
                                refine wp_region_quiet_bw (by kernel_rfl) (by kernel_rfl) ?_
                                repeat (go_big_quiet_step ((go_at_call 41; exact (H2 _).mono (fun e' w3 h => ⟨h.1, BW.next h.2⟩))))
                                refine wpQuiet_nil ?_
                                rintro _ ⟨nq, rfl⟩
                                go_wp2
                                go_meet
                                case rel => exact ⟨nq, by have h9 := of_decide_eq_true o9; cases D with | true => exact vt (.inr (.inr ⟨h9, rfl⟩)) | false => exact vf (by rintro (h | h | h); exact HK1.out h.1; exact HK0.out h.2.1; cases h.2), rfl⟩
                              | false =>
                                have hbc : ∀ c : BW (wr.alloc (.cells #[.int .i64 K, .int .i64 n, .string s, .int .i64 a] 44)), c.w1.heap[wr.heap.size]? = some (.cells #[.int .i64 K, .int .i64 n, .string s, .int .i64 a] 44 (0, 0)) := fun c => blk_below (blk_new wr _) c.hb
                                have y0 : ∀ c : BW (wr.alloc (.cells #[.int .i64 K, .int .i64 n, .string s, .int .i64 a] 44)), c.w1.cell? ⟨wr.heap.size, 0, none⟩ = some (.int .i64 K) := fun c => blk_cell (hbc c) 0
                                have y1 : ∀ c : BW (wr.alloc (.cells #[.int .i64 K, .int .i64 n, .string s, .int .i64 a] 44)), c.w1.cell? ⟨wr.heap.size, 1, none⟩ = some (.int .i64 n) := fun c => blk_cell (hbc c) 1
                                have y2 : ∀ c : BW (wr.alloc (.cells #[.int .i64 K, .int .i64 n, .string s, .int .i64 a] 44)), c.w1.cell? ⟨wr.heap.size, 2, none⟩ = some (.string s) := fun c => blk_cell (hbc c) 2
                                have y3 : ∀ c : BW (wr.alloc (.cells #[.int .i64 K, .int .i64 n, .string s, .int .i64 a] 44)), c.w1.cell? ⟨wr.heap.size, 3, none⟩ = some (.int .i64 a) := fun c => blk_cell (hbc c) 3
                                clear hbc
                                refine wp_region_quiet_bw (by kernel_rfl) (by kernel_rfl) ?_
                                repeat (go_big_quiet_step ((go_at_call 41; exact (H2 _).mono (fun e' w3 h => ⟨h.1, BW.next h.2⟩))))
                                refine wpQuiet_nil ?_
                                rintro _ ⟨nq, rfl⟩
                                go_wp2
                                go_meet
                                case rel => exact ⟨nq, vf (by have h9 := of_decide_eq_false o9; rintro (h | h | h); exact HK1.out h.1; exact HK0.out h.2.1; exact h9 h.1), rfl⟩
                      case rest =>
                        obtain ⟨nq, rfl, rfl⟩ := hcut
                        have HW3 := Lib.hid ((al_below wr _).trans (nq.hb.mono (al_below wr _).size))
                        cases t4 : decide ((K = 1 ∧ a ≠ 0) ∨ (K ≠ 1 ∧ 1 ≤ k ∧ a < T) ∨ ((k : Int) + 1 < (es.length : Int) ∧ D = true)) with
                        | true =>
                          have HQ := Lib.hid (of_decide_eq_true t4)
                          go_wp2
                          go_ret
                          exact ⟨by rw [HF.out, sf (by have := HQ.out; rcases this with h | h | h; exact .inr (.inr (.inr (.inr (.inr (.inr (.inr (.inl h))))))); exact .inr (.inr (.inr (.inr (.inr (.inr (.inr (.inr (.inl ⟨h.1, h.2.2⟩)))))))); exact .inr (.inr (.inr (.inr (.inr (.inr (.inr (.inr (.inr ⟨decide_eq_true h.1, h.2⟩)))))))))]; rfl, HB.out.trans (HW3.out.mono HB.out.size)⟩
                        | false =>
                          have HQ := Lib.hid (of_decide_eq_false t4)
                          have HST : Hid (trR es = trF a (es.drop (k + 1))) := by
                            have q1 := T1q.out
                            have q2 := T2q.out
                            have q3 := T3q.out
                            have q4 := HQ.out
                            rw [← HE1.out, ← HM1.out] at q2
                            have hT := HT0.out
                            refine Lib.hid ?_
                            rw [HF.out, st (by omega) (by omega) (by omega) (by omega) ?_ ?_ ?_ ?_ ?_, Bool.true_and]
                            · by_cases h : endsK K = true
                              · exact .inl h
                              · have h' : endsK K = false := by simpa using h
                                have h2 : ¬ n < 0 := fun c => q2 (.inl ⟨h', c⟩)
                                exact .inr (by omega)
                            · by_cases h : endsK K = true
                              · exact .inl h
                              · by_cases h2 : namedK K = true
                                · exact .inr (.inl h2)
                                · have h' : endsK K = false := by simpa using h
                                  have h2' : namedK K = false := by simpa using h2
                                  have h3 : ¬ n ≠ 0 := fun c => q2 (.inr ⟨h', h2', c⟩)
                                  exact .inr (.inr (by omega))
                            · by_cases h : textK K = true
                              · exact .inl h
                              · have h' : textK K = false := by simpa using h
                                have h2 : ¬ s.size ≠ 0 := fun c => q3 ⟨h', c⟩
                                exact .inr (by omega)
                            · by_cases h : K = 1
                              · rw [if_pos h]
                                have h2 : ¬ a ≠ 0 := fun c => q4 (.inl ⟨h, c⟩)
                                omega
                              · rw [if_neg h]
                                by_cases h2 : 1 ≤ k
                                · have h3 : ¬ a < T := fun c => q4 (.inr (.inl ⟨h, h2, c⟩))
                                  omega
                                · have := hT (by omega)
                                  omega
                            · by_cases h : (k : Int) + 1 < (es.length : Int)
                              · cases hd : D with
                                | false => exact .inr rfl
                                | true => exact absurd (.inr (.inr ⟨h, hd⟩)) q4
                              · exact .inl (decide_eq_false h)
                          go_wp2
                          go_roundw
                          case rel => exact ⟨k + 1, by first | rfl | go_num, by omega, Lib.hid (HB.out.trans (HW3.out.mono HB.out.size)), Lib.hid (by rw [HST.out]; exact (tpv_succ es k a (by omega) HA3.out).symm)⟩
                          case measure => simp [iOf]; omega
    · obtain rfl : k = es.length := by omega
      go_wp2_with fail
      go_ret
      exact ⟨by rw [HE.out, List.drop_length]; rfl, HB.out⟩
end Go.Proofs.Ytnognmbapciegaa.Bk
