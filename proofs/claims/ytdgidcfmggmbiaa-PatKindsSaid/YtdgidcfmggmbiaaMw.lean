/- PatGrows, plainly; buffers that are read, appended, cut. A byte slice argument that is read. PatGrows, walked. -/
import Derived.Test.YtdgidcfmggmbiaaMv
import Derived.ChangeSlices
import Derived.OpenShut
import Derived.ProofKit
import Derived.SizedLaws
namespace Go.Proofs.Ytdgidcfmggmbiaa.Qp
set_option linter.unusedVariables false
set_option linter.unusedSimpArgs false
open Go.RowKit Go.Proofs.Ytdgidcfmggmbiaa.Mem Go.Proofs.Ytdgidcfmggmbiaa.Re Go.Proofs.Ytdgidcfmggmbiaa.Nm Go.Proofs.Ytdgidcfmggmbiaa.Tree Go.Proofs.Ytdgidcfmggmbiaa.PRx Go.Proofs.Ytdgidcfmggmbiaa.Rx Go.Proofs.YtdgidcfmggmbiaaW.PrintWords

theorem bS_get (s : ByteArray) (k : Nat) (h : k < s.size) : bS s k = (bI s).getD k 0 := by
  have h' : k < (bI s).length := by rw [bI_len]; exact h
  rw [bS_eq s k h', List.getD_eq_getElem?_getD, List.getElem?_eq_getElem h']
  rfl
theorem grows_no {sb sm sa : ByteArray} {r : Re} {f t i k : Int} {is_ : Bool} (ha : bI sa = bI sb ++ bI sm) (h1 : FindP sb r f t false) (h2 : FindP sa r i k is_) : is_ = false ∨ (is_ = true ∧ (sb.size : Int) < k) := by
  rcases fq_of h1 with ⟨_, _, _, hno⟩ | ⟨hc, _⟩
  · rcases fq_of h2 with ⟨rfl, _⟩ | ⟨rfl, F, T, rfl, rfl, h3, h4, h5⟩
    · exact .inl rfl
    · refine .inr ⟨rfl, ?_⟩
      by_cases hT : T ≤ sb.size
      · have hl : sb.size + sm.size = sa.size := by
          have := congrArg List.length ha
          rw [List.length_append, bI_len, bI_len, bI_len] at this
          omega
        have H : Mv (bS sa) (bS sb) sb.size 0 sb.size 0 := ⟨fun q _ hq => by
          show bS sb (q - 0 + 0) = bS sa q
          rw [Nat.sub_zero, Nat.add_zero, bS_get sb q hq, bS_get sa q (by omega), ha, List.getD_eq_getElem?_getD, List.getD_eq_getElem?_getD, List.getElem?_append_left (by rw [bI_len]; exact hq)], by omega⟩
        have := mt_move (len := sa.size) H r F T (Nat.zero_le _) hT h4
        exact (hno _ _ hT (by simpa using this)).elim
      · omega
  · cases hc
theorem grows_yes {sb sm sa sp : ByteArray} {r : Re} {f t i k x y : Int} {is_ z : Bool} (ha : bI sa = bI sb ++ bI sm) (h1 : FindP sb r f t true) (h2 : FindP sa r i k is_) (hp : bI sp = ((bI sb).take t.toNat).drop f.toNat) (h3 : FindP sp r x y z) :
    0 ≤ i ∧ 0 ≤ k ∧ is_ = true ∧ i ≤ f ∧ (i < f ∨ t ≤ k) ∧ z = true ∧ x = 0 ∧ y = t - f := by
  have hl : sb.size + sm.size = sa.size := by
    have := congrArg List.length ha
    rw [List.length_append, bI_len, bI_len, bI_len] at this
    omega
  rcases fq_of h1 with ⟨hc, _⟩ | ⟨_, F, T, rfl, rfl, hT, hm, hb⟩
  · cases hc
  · have hFT := mt_ord _ _ _ _ _ hm
    have H : Mv (bS sb) (bS sa) sa.size 0 sb.size 0 := ⟨fun q _ hq => by
      show bS sa (q - 0 + 0) = bS sb q
      rw [Nat.sub_zero, Nat.add_zero, bS_get sb q hq, bS_get sa q (by omega), ha, List.getD_eq_getElem?_getD, List.getD_eq_getElem?_getD, List.getElem?_append_left (by rw [bI_len]; exact hq)], by omega⟩
    have hm2 := mt_move (len := sb.size) H r F T (Nat.zero_le _) hT hm
    simp only [Nat.sub_zero, Nat.add_zero] at hm2
    have hsp : sp.size = T - F := by
      have := congrArg List.length hp
      rw [bI_len, List.length_drop, List.length_take, bI_len] at this
      simp only [Int.toNat_natCast] at this
      omega
    have H3 : Mv (bS sb) (bS sp) sp.size F T 0 := ⟨fun q hq1 hq2 => by
      rw [Nat.add_zero, bS_get sp (q - F) (by omega), bS_get sb q (by omega), hp, List.getD_eq_getElem?_getD, List.getD_eq_getElem?_getD, List.getElem?_drop, List.getElem?_take]
      simp only [Int.toNat_natCast]
      rw [if_pos (by omega), show F + (q - F) = q by omega], by omega⟩
    have hm3 := mt_move (len := sb.size) H3 r F T (Nat.le_refl _) (Nat.le_refl _) hm
    rw [show F - F + 0 = 0 by omega, show T - F + 0 = sp.size by omega] at hm3
    rcases fq_of h2 with ⟨_, _, _, hno⟩ | ⟨rfl, F2, T2, rfl, rfl, g3, g4, g5⟩
    · exact (hno _ _ (by omega) hm2).elim
    · have a := g5 F T (by omega) hm2
      rcases fq_of h3 with ⟨_, _, _, hno⟩ | ⟨rfl, F3, T3, rfl, rfl, e3, e4, e5⟩
      · exact (hno _ _ (Nat.le_refl _) hm3).elim
      · have b := e5 0 sp.size (Nat.le_refl _) hm3
        exact ⟨by omega, by omega, rfl, by omega, by omega, rfl, by omega, by omega⟩
theorem find_rng {s : ByteArray} {r : Re} {f t : Int} (h : FindP s r f t true) : 0 ≤ f ∧ f ≤ t ∧ t ≤ (s.size : Int) := by
  rcases fq_of h with ⟨hc, _⟩ | ⟨_, F, T, rfl, rfl, hT, hm, hb⟩
  · cases hc
  · have := mt_ord _ _ _ _ _ hm
    omega
theorem find_nn {s : ByteArray} {r : Re} {f t : Int} {ok : Bool} (h : FindP s r f t ok) : 0 ≤ f ∧ 0 ≤ t ∧ t ≤ (s.size : Int) ∧ f ≤ t := by
  cases ok with
  | false => have := h.2 rfl; omega
  | true => have := find_rng h; omega
theorem BufAt.form {w : World} {v : Value} {s : ByteArray} (h : BufAt w v s) : ∃ A c, v = .slice A s.size c ∧ s.size ≤ c := by
  rcases h with ⟨rfl, h⟩ | ⟨a, c, rfl, h, _⟩
  · exact ⟨none, 0, by rw [h], by omega⟩
  · exact ⟨some a, c, rfl, h⟩
theorem BufAt.reads {w : World} {A : Option Addr} {c : Nat} {s : ByteArray} (h : BufAt w (.slice A s.size c) s) (hs : s.size ≤ 140737488355328) : ReadsInt w .u8 A s.size (bI s) := by
  refine ⟨bI_len s, by omega, fun hn => ?_⟩
  rcases h with ⟨h, h0⟩ | ⟨a, c', h1, h2, h3, h4⟩
  · omega
  · injection h1 with h1 _ _
    subst h1
    exact ⟨a, rfl, h4⟩
theorem buf_of_own {w : World} {base n : Nat} {v : Value} {s : ByteArray} (h : w.ownsRow base 5 1 v n (nums .u8 (bI s))) : BufAt w v s := by
  obtain ⟨hl, h⟩ := h
  have hn : s.size = n := by
    simp only [nums, List.length_map, bI_len] at hl
    omega
  subst hn
  rcases h with ⟨rfl, h0⟩ | ⟨g, cap, cur, rfl, hb, hh, hc, hm, hs, ht⟩
  · exact .inl ⟨rfl, h0⟩
  · refine .inr ⟨_, _, rfl, hc, fun _ => rfl, fun i hi => ?_⟩
    rw [add_plain, Nat.zero_add]
    have h1 : cur[i]? = some (.int .u8 ((bI s).getD i 0)) := by
      have : (cur.toList.take (s.size * 1))[i]? = (nums .u8 (bI s))[i]? := by rw [ht]
      rw [List.getElem?_take, if_pos (by omega), Array.getElem?_toList] at this
      rw [this]
      have hl : i < (bI s).length := by rw [bI_len]; exact hi
      simp [nums, List.getD_eq_getElem?_getD, List.getElem?_eq_getElem hl]
    show World.cell? w ⟨g, i, none⟩ = _
    unfold World.cell?
    rw [hh]
    exact h1
theorem bI_str {xs : List Int} (h : ∀ x ∈ xs, 0 ≤ x ∧ x < 256) : bI (strOfNums xs) = xs := by
  unfold bI
  rw [strOfNums_data, List.map_map]
  conv => rhs; rw [← List.map_id xs]
  refine List.map_congr_left fun x hx => ?_
  have := h x hx
  simp only [Function.comp, id]
  have e : (UInt8.ofNat x.toNat).toNat = x.toNat := by
    rw [UInt8.toNat_ofNat']
    omega
  rw [e]
  omega
theorem info5 : (Try.prog.info? 5).map (fun i => (i.zero, i.size, i.bytes)) = some (some (.int .u8 0), 1, 1) := by kernel_rfl
theorem info5s : ∃ i, Try.prog.info? 5 = some i ∧ i.size = 1 := by
  obtain ⟨i, h1, h2⟩ := Option.map_eq_some_iff.1 info5
  simp only [Prod.mk.injEq] at h2
  exact ⟨i, h1, h2.2.1⟩
theorem PnAt.lower {B B' : Nat} {w : World} {p : Pn} (h : PnAt B w p) (hb : B' ≤ B) : PnAt B' w p := by
  obtain ⟨h1, h2, h3⟩ := h
  refine ⟨by omega, h2, ?_⟩
  split at h3
  · exact h3
  · exact ⟨h3.1, by have := h3.2.1; omega, h3.2.2⟩
end Go.Proofs.Ytdgidcfmggmbiaa.Qp
namespace Go.Proofs.Ytdgidcfmggmbiaa.Qp
set_option linter.unusedVariables false
set_option linter.unusedSimpArgs false
open Go.RowKit Go.Proofs.Ytdgidcfmggmbiaa.Rx Go.Proofs.YtdgidcfmggmbiaaW.PrintWords Go.ChangeShapes Go.WideShapes Go.ChangeAt

theorem cells5 : Try.prog.cellsOf 5 = 1 := by kernel_rfl
theorem bytes5 : Try.prog.bytesOf 5 = 1 := by kernel_rfl
theorem byte_of_wf {x : Int} (h : (Lit.int .u8 x).wf = true) : 0 ≤ x ∧ x < 256 := by
  have h1 : IntKind.u8.min = 0 := rfl
  have h2 : IntKind.u8.max = 255 := rfl
  simp only [Lit.wf, Bool.and_eq_true, decide_eq_true_eq] at h
  omega
theorem buf_open {H : Type} {enc : TypeId × Value → H} {W : World} {pa : Option Addr} {len cap : Nat} {d : DataW H} {p : List MemPlace}
    (h : DataW.Trod enc Try.prog W 0 (fun _ => true) true 38 (.slice pa len cap) d p) (hs : ∀ n, n ∈ d.weights Try.prog 38 → n ≤ reachBytes) :
    ∃ s : ByteArray, BufAt W (.slice pa len cap) s ∧ s.size ≤ 140737488355328 := by
  obtain ⟨fuel, hf⟩ := h
  rcases open_ints Try.underlying38 Try.underlying5 cells5 hf with ⟨hcs, hx⟩ | ⟨a, len', cap', zs, hcs, _, hl, hmx, hz, hx, hcell, hwz⟩
  · simp [Value.cells] at hcs
    obtain ⟨rfl, rfl, rfl⟩ := hcs
    exact ⟨⟨#[]⟩, .inl ⟨rfl, rfl⟩, by decide⟩
  · simp [Value.cells] at hcs
    obtain ⟨rfl, rfl, rfl⟩ := hcs
    simp only [Prod.mk.injEq] at hx
    obtain ⟨rfl, rfl⟩ := hx
    simp only [if_true] at hz
    have hlen : (zs.take len).length = len := by simp; omega
    have hr : ∀ x ∈ zs.take len, 0 ≤ x ∧ x < 256 := fun x hx' => byte_of_wf (hwz x (List.mem_of_mem_take hx'))
    have hss : (strOfNums (zs.take len)).size = len := by rw [strOfNums_size, hlen]
    have hcl : ∀ i, i < len → W.cell? (a.add i) = some (.int .u8 ((zs.take len).getD i 0)) := fun i hi => by rw [hcell i (by omega)]; simp [List.getD, hi]
    refine ⟨strOfNums (zs.take len), .inr ⟨a, cap, by rw [hss], by omega, fun h0 => ?_, fun i hi => ?_⟩, ?_⟩
    · have h1 := hcl 0 (by omega)
      obtain ⟨b, o, sp⟩ := a
      cases sp with
      | none => rfl
      | some x => simp [World.cell?, Addr.add] at h1; split at h1 <;> simp_all
    · rw [bI_str hr]; exact hcl i (by omega)
    · rw [hss]
      have hu := Try.underlying38
      have := hs ((lits (H := H) .u8 (zs.take len)).length + (lits (H := H) .u8 (zs.drop len)).length) (by simp [DataW.weights, hu, bytes5])
      have := reachBytes_lt
      simp [lits] at *
      omega
end Go.Proofs.Ytdgidcfmggmbiaa.Qp
namespace Go.Proofs.Ytdgidcfmggmbiaa.Qp
set_option linter.unusedVariables false
set_option linter.unusedSimpArgs false
open Go.RowKit Go.Proofs.Ytdgidcfmggmbiaa.Mem Go.Proofs.Ytdgidcfmggmbiaa.Re Go.Proofs.Ytdgidcfmggmbiaa.Nm Go.Proofs.Ytdgidcfmggmbiaa.Tree Go.Proofs.Ytdgidcfmggmbiaa.PRx Go.Proofs.Ytdgidcfmggmbiaa.Rx Go.Proofs.YtdgidcfmggmbiaaW.PrintWords

/-- Find, where the machine's blocks are new. -/
theorem find_new {B : Nat} {w0 w : World} {p : Pn} {s : ByteArray} {v : Value} {m : Int} (hw : Below B w0 w) (hB : B ≤ w.heap.size) (h : PnAt B w p) (hv : BufAt w v s) (hs : s.size ≤ 1000000000) (hm : w.cell? ⟨0, 0, none⟩ = some (.int .i64 m)) :
    Calls Try.prog 12 #[.pointer (some ⟨p.b, 0, none⟩), v] w fun e w' => ∃ f t ok, e = .returned (.tuple #[.int .i64 f, .int .i64 t, .bool ok]) ∧ FindP s p.r f t ok ∧ PnAt B w' p ∧ Below B w0 w' ∧ B ≤ w'.heap.size := by
  refine (ps_find (Ps.one h) (List.mem_singleton.mpr rfl) hv hs hm).mono ?_
  rintro e w' ⟨f, t, ok, he, hf, hps, hk, hge⟩
  exact ⟨f, t, ok, he, hf, hps.at_ p (List.mem_singleton.mpr rfl), kp_below hw hk hge hB, Nat.le_trans hB hk.size⟩
theorem comp_no {kind : Int} {s : ByteArray} {w : World} {e : Ending} {w' : World} (h : (compP kind s).1 ≠ 0) (hq : CompQ kind s w e w') : Below w.heap.size w w' ∧ e = .returned (.tuple #[.pointer none, .int .i64 (compP kind s).1, .int .i64 (compP kind s).2]) := by
  obtain ⟨hb, ⟨hc, _⟩ | ⟨_, he⟩⟩ := hq
  · exact (h hc).elim
  · exact ⟨hb, he⟩
theorem own_empty (W : World) {base : Nat} (hb : base ≤ W.heap.size) : (W.alloc (.cells #[] 5)).ownsRow base 5 1 (.slice (some ⟨W.heap.size, 0, none⟩) 0 0) ([] : List Int).length (nums .u8 []) := by
  have := World.ownsRow_lit (base := base) (e := 5) (size := 1) W #[] 0 hb (Nat.zero_le _) rfl
  simpa [nums] using this
theorem buf_own_bI {w : World} {base : Nat} {v : Value} {xs : List Int} (hr : ∀ x ∈ xs, 0 ≤ x ∧ x < 256) (h : w.ownsRow base 5 1 v xs.length (nums .u8 xs)) : BufAt w v (strOfNums xs) := by
  refine buf_of_own (base := base) (n := xs.length) ?_
  rw [bI_str hr]
  exact h
set_option maxHeartbeats 4000000 in
set_option maxRecDepth 100000 in
theorem grows_walk (kind : Int) (text sb sm : ByteArray) (vb vm : Value) (w : World) (m : Int) (hm : w.cell? ⟨0, 0, none⟩ = some (.int .i64 m)) (ht : text.size ≤ maxLen) (hb : BufAt w vb sb) (hv : BufAt w vm sm) (hsb : sb.size ≤ 140737488355328) (hsm : sm.size ≤ 140737488355328) :
    Calls Try.prog 4 #[.int .i64 kind, .string text, vb, vm] w fun e w' => e = .returned (.bool true) ∧ Below w.heap.size w w' := by
  obtain ⟨A, c, rfl, hc⟩ := hb.form
  obtain ⟨A2, c2, rfl, hc2⟩ := hv.form
  have h0 := World.block_lt_of_cell? w _ hm
  have HM : Hid (∀ W, Below w.heap.size w W → W.cell? ⟨0, 0, none⟩ = some (.int .i64 m)) := Lib.hid fun W hW => (hW.cell (p := ⟨0, 0, none⟩) h0).trans hm
  have HAL := Lib.hid (alive_any w m hm)
  have HVB := Lib.hid hb
  have HVM := Lib.hid hv
  have HT := Lib.hid ht
  have HC := Lib.hid hc
  have hsb' : (sb.size : Int) ≤ 140737488355328 := by omega
  have hsm' : (sm.size : Int) ≤ 140737488355328 := by omega
  unfold maxLen at ht
  have ht' : (text.size : Int) ≤ 9223372036854775807 := by omega
  have gs : IntKind.i64.wrap ((sb.size : Int) + (sm.size : Int)) = (sb.size : Int) + (sm.size : Int) := IntWalk.i64_in _ (by omega)
  clear hm h0 hb hv ht hc hc2
  by_cases hl : 60 < text.size ∨ 200 < sb.size + sm.size
  · by_cases hl1 : 60 < text.size
    · have g0 : decide ((60 : Int) < (text.size : Int)) = true := by simp; omega
      clear hl hl1
      go_enter Try.func4, Try.ntmps4
      go_wp2_with (first | (go_at_call 7; refine HAL.out.mono ?_; rintro e w1 ⟨rfl, hb⟩; have HB1 := Lib.hid hb; clear hb))
      go_ret
      exact ⟨rfl, HB1.out⟩
    · have g0 : decide ((60 : Int) < (text.size : Int)) = false := by simp; omega
      have g1 : decide ((200 : Int) < (sb.size : Int) + (sm.size : Int)) = true := by simp; omega
      clear hl hl1
      go_enter Try.func4, Try.ntmps4
      go_wp2_with (first | (go_at_call 7; refine HAL.out.mono ?_; rintro e w1 ⟨rfl, hb⟩; have HB1 := Lib.hid hb; clear hb))
      go_ret
      exact ⟨rfl, HB1.out⟩
  · have g0 : decide ((60 : Int) < (text.size : Int)) = false := by simp; omega
    have g1 : decide ((200 : Int) < (sb.size : Int) + (sm.size : Int)) = false := by simp; omega
    have HL : Hid (sb.size + sm.size ≤ 200) := Lib.hid (by omega)
    clear hl
    by_cases hce : (compP kind text).1 = 0
    · have HCE := Lib.hid hce
      clear hce
      have HSA : Hid (bI (strOfNums (bI sb ++ bI sm)) = bI sb ++ bI sm) := Lib.hid (bI_str (fun x hx => by rcases List.mem_append.mp hx with h | h <;> exact bI_rng _ x h))
      have HSS : Hid ((strOfNums (bI sb ++ bI sm)).size ≤ 1000000000) := Lib.hid (by rw [strOfNums_size, List.length_append, bI_len, bI_len]; have := HL.out; omega)
      have HRS : Hid (∀ x ∈ bI sb ++ bI sm, 0 ≤ x ∧ x < 256) := Lib.hid (fun x hx => by rcases List.mem_append.mp hx with h | h <;> exact bI_rng _ x h)
      obtain ⟨sa, hsa⟩ : ∃ sa, sa = strOfNums (bI sb ++ bI sm) := ⟨_, rfl⟩
      rw [← hsa] at HSA HSS
      have HSAE := Lib.hid hsa
      clear hsa
      go_enter Try.func4, Try.ntmps4
      go_upto_region 9 with (first
        | (go_at_call 7; refine HAL.out.mono ?_; rintro e w1 ⟨rfl, hb⟩; have HB1 := Lib.hid hb; clear hb)
        | (go_at_call 8; refine (comp_any _ _ _ HT.out).mono ?_; intro e w2 hq; (obtain ⟨hb, p, rfl, _, _, _, hpa⟩ := comp_yes HCE.out hq); (have HB2 := Lib.hid (HB1.out.trans (hb.mono HB1.out.size)); have HPA2 := Lib.hid (PnAt.lower hpa HB1.out.size); have HS2 := Lib.hid (Nat.le_trans HB1.out.size hb.size); clear hq hb hpa); dsimp only)
        | (go_at_call 12; refine (find_new (m := m) HB2.out HS2.out HPA2.out (HVB.out.below HB2.out) (by have := HL.out; omega) (HM.out _ HB2.out)).mono ?_; rintro e w3 ⟨f, t, ok, rfl, hf, hpa, hb, hs⟩; (have HF := Lib.hid hf; have HPA3 := Lib.hid hpa; have HB3 := Lib.hid hb; have HS3 := Lib.hid hs; clear hf hpa hb hs); dsimp only))
      go_upto_region 10 with (first
        | ((with_reducible refine gate_builtin (b := .append) (xs := #[.tmp 61, .tmp 62]) rfl ?_); at_builtin; go_loud (refine print_append_row (w0 := w3) (W := w3.alloc (.cells #[] 5)) w3.heap.size rfl (.tmp 61) (.tmp 62) 38 5 .u8 1 rfl Try.underlying38 info5 (by decide) (.slice (some ⟨w3.heap.size, 0, none⟩) 0 0) [] (bI sb) A sb.size c rfl rfl (own_empty w3 (Nat.le_refl _)) ((HVB.out.below (HB3.out.alloc HB3.out.size _)).reads hsb) ((Below.refl _ _).alloc (Nat.le_refl _) _) (by rw [al_size]; omega) (by have := HL.out; simp; omega) ?_; intro v4 w4 ho4 hb4 _ _; (have HO4 := Lib.hid ho4; have HB4 := Lib.hid hb4; clear ho4 hb4)))
        | ((with_reducible refine gate_builtin (b := .append) (xs := #[.tmp 63, .tmp 64]) rfl ?_); at_builtin; go_loud (refine print_append_row (w0 := w3) (W := w4) w3.heap.size rfl (.tmp 63) (.tmp 64) 38 5 .u8 1 rfl Try.underlying38 info5 (by decide) v4 ([] ++ bI sb) (bI sm) A2 sm.size c2 rfl rfl HO4.out ((HVM.out.below (HB3.out.trans (HB4.out.mono HB3.out.size))).reads hsm) HB4.out HB4.out.size (by have := HL.out; rw [List.nil_append, bI_len]; omega) ?_; intro v5 w5 ho5 hb5 _ _; (have HO5 := Lib.hid ho5; have HB5 := Lib.hid hb5; clear ho5 hb5))))
      have HB5w : Hid (Below w.heap.size w w5) := Lib.hid (HB3.out.trans (HB5.out.mono HB3.out.size))
      have HPA5 := Lib.hid (HPA3.out.below HB5.out)
      have HBUF : Hid (BufAt w5 v5 sa) := Lib.hid (by rw [HSAE.out]; exact buf_own_bI HRS.out (by simpa using HO5.out))
      clear HPA3 HO4 HB4 HO5
      go_upto_region 11 with (first
        | (go_at_call 12; refine (find_new (m := m) HB5w.out HB5w.out.size HPA5.out HBUF.out HSS.out (HM.out _ HB5w.out)).mono ?_; rintro e w6 ⟨i, k, is_, rfl, hf, hpa, hb, hs⟩; (have HF2 := Lib.hid hf; have HPA6 := Lib.hid hpa; have HB6 := Lib.hid hb; have HS6 := Lib.hid hs; clear hf hpa hb hs); dsimp only))
      cases ok with
      | false =>
        rcases grows_no HSA.out HF.out HF2.out with rfl | ⟨rfl, hk⟩
        · go_wp2_with fail
          go_ret
          exact ⟨rfl, HB6.out⟩
        · have g2 : decide ((sb.size : Int) < k) = true := by simpa using hk
          clear hk
          go_wp2_with fail
          go_ret
          exact ⟨rfl, HB6.out⟩
      | true =>
        obtain ⟨hf0, hft, hts⟩ := find_rng HF.out
        obtain ⟨i5, hi5, hsz5⟩ := info5s
        have hcut := cut_mid (P := Try.prog) 38 5 .i64 .i64 Try.underlying38 hi5 1 hsz5 A sb.size c f t hf0 hft hts HC.out
        have HRD : Hid (∀ W, Below w.heap.size w W → ReadsInt W .u8 (if c = f.toNat then A else A.map (·.add (f.toNat * 1))) (t.toNat - f.toNat) (((bI sb).take t.toNat).drop f.toNat)) := Lib.hid fun W hW => by
          have h1 := ((HVB.out.below hW).reads hsb).take_ t.toNat (by omega)
          have h2 := h1.drop_ f.toNat (c := if c = f.toNat then t.toNat else max t.toNat (f.toNat + 1)) (by omega) (by split <;> omega)
          by_cases e : c = f.toNat
          · rw [if_pos e] at h2 ⊢
            rw [if_pos (by have := HC.out; omega)] at h2
            exact h2
          · rw [if_neg e] at h2 ⊢
            rw [if_neg (by omega)] at h2
            simpa using h2
        obtain ⟨A7, hA7⟩ : ∃ x, x = (if c = f.toNat then A else A.map (·.add (f.toNat * 1))) := ⟨_, rfl⟩
        obtain ⟨n7, hn7⟩ : ∃ x, x = t.toNat - f.toNat := ⟨_, rfl⟩
        obtain ⟨c7, hc7⟩ : ∃ x, x = c - f.toNat := ⟨_, rfl⟩
        rw [← hA7, ← hn7] at HRD
        rw [← hA7, ← hn7, ← hc7] at hcut
        have HN7 := Lib.hid hn7
        have HPL : Hid ((((bI sb).take t.toNat).drop f.toNat).length = n7 ∧ n7 ≤ 200) := Lib.hid ⟨by rw [List.length_drop, List.length_take, bI_len]; omega, by have := HL.out; omega⟩
        have HRP : Hid (∀ x ∈ ((bI sb).take t.toNat).drop f.toNat, 0 ≤ x ∧ x < 256) := Lib.hid fun x hx => bI_rng sb x (List.mem_of_mem_take (List.mem_of_mem_drop hx))
        obtain ⟨pc, hpc⟩ : ∃ x, x = ((bI sb).take t.toNat).drop f.toNat := ⟨_, rfl⟩
        rw [← hpc] at HRD HPL HRP
        have HPC := Lib.hid hpc
        have gw : IntKind.i64.wrap (t - f) = t - f := IntWalk.i64_in _ (by omega)
        clear hA7 hn7 hc7 hpc hi5 hsz5
        go_upto_region 14 with (first
          | ((with_reducible refine gate_builtin (b := .append) (xs := #[.tmp 85, .tmp 89]) rfl ?_); at_builtin; go_loud (refine print_append_row (w0 := w6) (W := w6.alloc (.cells #[] 5)) w6.heap.size rfl (.tmp 85) (.tmp 89) 38 5 .u8 1 rfl Try.underlying38 info5 (by decide) (.slice (some ⟨w6.heap.size, 0, none⟩) 0 0) [] pc A7 n7 c7 rfl rfl (own_empty w6 (Nat.le_refl _)) (HRD.out _ (HB6.out.alloc HB6.out.size _)) ((Below.refl _ _).alloc (Nat.le_refl _) _) (by rw [al_size]; omega) (by have := HPL.out.2; simp; omega) ?_; intro v7 w7 ho7 hb7 _ _; (have HO7 := Lib.hid ho7; have HB7 := Lib.hid hb7; have HB7w : Hid (Below w.heap.size w w7) := Lib.hid (HB6.out.trans (hb7.mono HB6.out.size)); clear ho7 hb7)))
          | (go_at_call 12; refine (find_new (m := m) (s := strOfNums pc) HB7w.out HB7w.out.size (HPA6.out.below HB7.out) (buf_own_bI HRP.out (by simpa using HO7.out)) (by rw [strOfNums_size]; have := HPL.out; omega) (HM.out _ HB7w.out)).mono ?_; rintro e w8 ⟨x, y, z, rfl, hf, _, hb, _⟩; (have HF3 := Lib.hid hf; have HB8 := Lib.hid hb; clear hf hb); dsimp only))
        have hg := grows_yes HSA.out HF.out HF2.out (by rw [bI_str HRP.out]; exact HPC.out) HF3.out
        obtain ⟨q1, q2, rfl, q3, q4, rfl, rfl, rfl⟩ := hg
        have g2 : decide (f ≤ t) = true := by simpa using hft
        have g3 : decide (t ≤ (sb.size : Int)) = true := by simpa using hts
        have g4 : decide (i ≤ f) = true := by simpa using q3
        by_cases q5 : i < f
        · have g5 : decide (i < f) = true := by simpa using q5
          clear q4 q5 q3
          go_wp2_with fail
          go_ret
          exact ⟨rfl, HB8.out⟩
        · have g5 : decide (i < f) = false := by simpa using q5
          have g6 : decide (t ≤ k) = true := by simp; omega
          clear q4 q5 q3
          go_wp2_with fail
          go_ret
          exact ⟨rfl, HB8.out⟩
    · have HCE := Lib.hid hce
      have g2 : ((compP kind text).1 != 0) = true := bne_iff_ne.mpr hce
      clear hce
      go_enter Try.func4, Try.ntmps4
      go_wp2_with (first
        | (go_at_call 7; refine HAL.out.mono ?_; rintro e w1 ⟨rfl, hb⟩; have HB1 := Lib.hid hb; clear hb)
        | (go_at_call 8; refine (comp_any _ _ _ HT.out).mono ?_; intro e w2 hq; (obtain ⟨hb, rfl⟩ := comp_no HCE.out hq); (have HB2 := Lib.hid (HB1.out.trans (hb.mono HB1.out.size)); clear hq hb); dsimp only))
      go_ret
      exact ⟨rfl, HB2.out⟩
end Go.Proofs.Ytdgidcfmggmbiaa.Qp
