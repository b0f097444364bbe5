/- PatExact, walked. -/
import Derived.Test.YtdgidcfmggmbiaaMw
namespace Go.Proofs.Ytdgidcfmggmbiaa.Qp
set_option linter.unusedVariables false
set_option linter.unusedSimpArgs false
open Go.RowKit Go.Proofs.Ytdgidcfmggmbiaa.Mem Go.Proofs.Ytdgidcfmggmbiaa.Re Go.Proofs.Ytdgidcfmggmbiaa.Nm Go.Proofs.Ytdgidcfmggmbiaa.Tree Go.Proofs.Ytdgidcfmggmbiaa.PRx Go.Proofs.Ytdgidcfmggmbiaa.Rx Go.Proofs.YtdgidcfmggmbiaaW.PrintWords

theorem bI_app (a b : ByteArray) : bI (a ++ b) = bI a ++ bI b := by
  simp [bI, ByteArray.data_append]
theorem conv_one (W : World) (c : Int) (hc : 0 ≤ c ∧ c < 256) : (convert 38 9 (.slice (some ⟨W.heap.size, 0, none⟩) 1 1)).run Try.prog (W.alloc (.cells #[.int .u8 c] 5)) = .ok (.string (strOfNums [c])) (W.alloc (.cells #[.int .u8 c] 5)) := by
  have hh : (W.alloc (.cells #[.int .u8 c] 5)).heap[W.heap.size]? = some (.cells #[.int .u8 c] 5 (0, 0)) := blk_new W _
  refine run_convert_bytes_arg (W.alloc (.cells #[.int .u8 c] 5)) 38 5 Try.underlying38 Try.underlying5 W.heap.size 0 1 1 [c] rfl (fun i hi => ?_) 9 Try.underlying9
  obtain rfl : i = 0 := by omega
  simp
theorem bI_one {c : Int} (h : 0 ≤ c ∧ c < 256) : bI (strOfNums [c]) = [c] := bI_str (by intro x hx; obtain rfl := List.mem_singleton.mp hx; exact h)
theorem size_one (c : Int) : (strOfNums [c]).size = 1 := by rw [strOfNums_size]; rfl
theorem text_at (s : ByteArray) (k : Nat) (h : k < s.size) : ∃ c, 0 ≤ c ∧ c < 256 ∧ (bI s).drop k = c :: (bI s).drop (k + 1) ∧ (bI s).take (k + 1) = (bI s).take k ++ [c] ∧ ∀ W : World, (Instr.index 9 (.string s) (.int .i64 (k : Int))).run Try.prog W = .ok (.int .u8 c) W := by
  have hl : k < (bI s).length := by rw [bI_len]; exact h
  refine ⟨(bI s)[k], (bI_rng s _ (List.getElem_mem hl)).1, (bI_rng s _ (List.getElem_mem hl)).2, List.drop_eq_getElem_cons hl, List.take_succ_eq_append_getElem hl, fun W => ?_⟩
  rw [run_index_string W 9 s .i64 k Try.underlying9, dif_pos ⟨by omega, by omega⟩]
  simp [bI]
  rfl
/-- A pattern more. -/
theorem ps_add {B : Nat} {w w' : World} {l : List Pn} {p : Pn} (h : Ps B w l) (hb : Below w.heap.size w w') (hp : PnAt w.heap.size w' p) (hB : B ≤ w.heap.size) : Ps B w' (p :: l) := by
  refine h.cons hb (hp.lower hB) (fun m hm => ?_)
  obtain ⟨_, _, h3⟩ := hp
  rw [hm] at h3
  exact h3.2.1
/-- Find, of one of some patterns, all of whose blocks are new. -/
theorem find_of {B : Nat} {w0 w : World} {l : List Pn} {p : Pn} {s : ByteArray} {v : Value} {m : Int} (hw : Below B w0 w) (hB : B ≤ w.heap.size) (h : Ps B w l) (hp : p ∈ l) (hv : BufAt w v s) (hs : s.size ≤ 1000000000) (hm : w.cell? ⟨0, 0, none⟩ = some (.int .i64 m)) :
    Calls Try.prog 12 #[.pointer (some ⟨p.b, 0, none⟩), v] w fun e w' => ∃ f t ok, e = .returned (.tuple #[.int .i64 f, .int .i64 t, .bool ok]) ∧ FindP s p.r f t ok ∧ Ps B w' l ∧ Below B w0 w' ∧ B ≤ w'.heap.size := by
  refine (ps_find h hp hv hs hm).mono ?_
  rintro e w' ⟨f, t, ok, he, hf, hps, hk, hge⟩
  exact ⟨f, t, ok, he, hf, hps, kp_below hw hk hge hB, Nat.le_trans hB hk.size⟩
theorem sgn_len (cs : List Int) : (cs.flatMap sgn).length ≤ 2 * cs.length := by
  induction cs with
  | nil => simp
  | cons c cs ih =>
    rw [List.flatMap_cons, List.length_append, List.length_cons]
    have : (sgn c).length ≤ 2 := by unfold sgn; split <;> simp
    omega
theorem comp_quoted {q : ByteArray} {cs : List Int} (hq : bI q = cs.flatMap fun c => [92, c]) (hl : cs.length ≤ 50) : compP 2 q = (0, 0) ∧ reP 2 q = re (catN (cs.map oneN)) := by
  have := globP_quoted cs (by omega)
  rw [compP, reP, if_neg (by decide), if_pos rfl, if_neg (by decide), if_pos rfl, hq, this]
  exact ⟨rfl, rfl⟩
theorem parse_of {xs : List Int} {t : S30} (h : altR xs = .ok t []) (hl : xs.length ≤ 256) : parseP xs = (t, 0, 0) := by
  unfold parseP
  rw [if_neg (by omega), h]
theorem comp_signs {g : ByteArray} {cs : List Int} (hg : bI g = cs.flatMap sgn) (hl : cs.length ≤ 50) (hc : ∀ c, c ∈ cs → 0 ≤ c ∧ c ≤ 255) : compP 3 g = (0, 0) ∧ reP 3 g = re (catN (cs.map oneN)) := by
  have h1 := sgn_len cs
  have := parse_of (alt_sgn cs hc) (by omega)
  rw [compP, reP, if_neg (by decide), if_neg (by decide), if_pos rfl, if_neg (by decide), if_neg (by decide), hg, this]
  exact ⟨rfl, rfl⟩
theorem comp_text {s : ByteArray} (h : s.size ≤ 256) : compP 1 s = (0, 0) ∧ reP 1 s = exRe s := by
  rw [compP, reP, if_pos rfl, if_pos rfl, if_neg (by omega)]
  exact ⟨rfl, rfl⟩
/-- A text and its bytes' sets find the same. -/
theorem same_find {s x : ByteArray} {cs : List Int} (hx : cs = bI x) {f t i k : Int} {ok is_ : Bool} (h1 : FindP s (exRe x) f t ok) (h2 : FindP s (re (catN (cs.map oneN))) i k is_) : f = i ∧ t = k ∧ ok = is_ := by
  refine fq_uniq (fun a j hj => ?_) (fq_of h1) (fq_of h2)
  rw [ex_mt s x hj, ones_nd s cs hj, hx]
theorem found_text {s x : ByteArray} {f t : Int} (h : FindP s (exRe x) f t true) : ((bI s).take t.toNat).drop f.toNat = bI x := by
  rcases fq_of h with ⟨hc, _⟩ | ⟨_, F, T, rfl, rfl, hT, hm, _⟩
  · cases hc
  · obtain ⟨e, h1, h2⟩ := (ex_mt s x hT).1 hm
    simp only [Int.toNat_natCast]
    apply List.ext_getElem
    · rw [List.length_drop, List.length_take, bI_len]; omega
    · intro k hk1 hk2
      rw [List.getElem_drop, List.getElem_take]
      have := h2 k hk2
      rw [bS_eq s (F + k) (by rw [bI_len]; omega)] at this
      exact this
theorem none_text {s x : ByteArray} {f t : Int} (h : FindP s (exRe x) f t false) : 0 < x.size := by
  rcases fq_of h with ⟨_, _, _, hno⟩ | ⟨hc, _⟩
  · refine Nat.pos_of_ne_zero fun h0 => ?_
    have hl : (bI x).length = 0 := by rw [bI_len]; exact h0
    exact hno 0 0 (Nat.zero_le _) ((ex_mt s x (Nat.zero_le _)).2 ⟨by omega, by omega, fun k hk => by omega⟩)
  · cases hc
end Go.Proofs.Ytdgidcfmggmbiaa.Qp
