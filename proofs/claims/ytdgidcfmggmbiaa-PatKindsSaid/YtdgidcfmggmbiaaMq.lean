/- Plain: what a pattern finds. No program in sight. Patterns in memory, and what Find answers. -/
import Derived.Test.YtdgidcfmggmbiaaMo
import Derived.Test.YtdgidcfmggmbiaaMm
import Derived.Test.YtdgidcfmggmbiaaMp
import Derived.Lib.IndexMore
import Derived.Test.YtdgidcfmggmbiaaShelf
import Derived.Lib.ConvBytes
import Derived.Laws.BytesArg
import Derived.BigQuiet
namespace Go.Proofs.Ytdgidcfmggmbiaa.Qp
set_option linter.unusedVariables false
set_option linter.unusedSimpArgs false
open Go.RowKit Go.Proofs.Ytdgidcfmggmbiaa.Re Go.Proofs.Ytdgidcfmggmbiaa.Nm Go.Proofs.Ytdgidcfmggmbiaa.Tree Go.Proofs.Ytdgidcfmggmbiaa.PRx Go.Proofs.Ytdgidcfmggmbiaa.Rx Go.Proofs.YtdgidcfmggmbiaaW.PrintWords

/-- The expression of a text itself. -/
def exRe (s : ByteArray) : Re := .cat ((bI s).map fun c => .set ((fun c x => decide (x = c)) c))
/-- What is found, by the matches alone. -/
def FQ (M : Nat → Nat → Prop) (len : Nat) (f t : Int) (ok : Bool) : Prop :=
  (ok = false ∧ f = 0 ∧ t = 0 ∧ ∀ a j, j ≤ len → ¬ M a j) ∨
  (ok = true ∧ ∃ F T : Nat, f = F ∧ t = T ∧ T ≤ len ∧ M F T ∧ ∀ a j, j ≤ len → M a j → F < a ∨ (F = a ∧ j ≤ T))
theorem fq_of {s : ByteArray} {r : Re} {f t : Int} {ok : Bool} (h : FindP s r f t ok) : FQ (mt (bS s) s.size r) s.size f t ok := by
  cases ok with
  | false => exact .inl ⟨rfl, (h.2 rfl).1, (h.2 rfl).2, fun a j hj => h.1.1 rfl a j ⟨Nat.zero_le _, fun h => by cases h⟩ (by omega)⟩
  | true =>
    obtain ⟨F, T, h1, h2, _, h4, h5, h6⟩ := h.1.2 rfl
    exact .inr ⟨rfl, F, T, h1, h2, by omega, h5, fun a j hj hm => h6 a j ⟨Nat.zero_le _, fun h => by cases h⟩ (by omega) hm⟩
theorem fq_to {s : ByteArray} {r : Re} {f t : Int} {ok : Bool} (h : FQ (mt (bS s) s.size r) s.size f t ok) : FindP s r f t ok := by
  rcases h with ⟨rfl, rfl, rfl, h⟩ | ⟨rfl, F, T, h1, h2, h3, h4, h5⟩
  · exact ⟨⟨fun _ a j _ hj => h a j (by omega), fun h => by cases h⟩, fun _ => ⟨rfl, rfl⟩⟩
  · exact ⟨⟨fun h => (by cases h), fun _ => ⟨F, T, h1, h2, ⟨Nat.zero_le _, fun h => (by cases h)⟩, by omega, h4, fun a j _ hj hm => h5 a j (by omega) hm⟩⟩, fun h => (by cases h)⟩
theorem fq_uniq {M M' : Nat → Nat → Prop} {len : Nat} {f t f' t' : Int} {ok ok' : Bool} (hM : ∀ a j, j ≤ len → (M a j ↔ M' a j)) (h : FQ M len f t ok) (h' : FQ M' len f' t' ok') : f = f' ∧ t = t' ∧ ok = ok' := by
  rcases h with ⟨rfl, rfl, rfl, h⟩ | ⟨rfl, F, T, rfl, rfl, h3, h4, h5⟩
  · rcases h' with ⟨rfl, rfl, rfl, _⟩ | ⟨rfl, F', T', rfl, rfl, g3, g4, g5⟩
    · exact ⟨rfl, rfl, rfl⟩
    · exact (h _ _ g3 ((hM _ _ g3).2 g4)).elim
  · rcases h' with ⟨rfl, rfl, rfl, g⟩ | ⟨rfl, F', T', rfl, rfl, g3, g4, g5⟩
    · exact (g _ _ h3 ((hM _ _ h3).1 h4)).elim
    · have a := h5 _ _ g3 ((hM _ _ g3).2 g4)
      have b := g5 _ _ h3 ((hM _ _ h3).1 h4)
      exact ⟨by omega, by omega, rfl⟩
theorem bS_eq (s : ByteArray) (k : Nat) (h : k < (bI s).length) : bS s k = (bI s)[k] := by
  have h' : k < s.size := by rw [bI_len] at h; exact h
  unfold bS bt
  rw [dif_pos (by simpa using h')]
  simp [bI]
  rfl
theorem ones_mt (s : ByteArray) (cs : List Int) (g : Int → Int → Bool) (hg : ∀ c x, g c x = true ↔ x = c) {i j : Nat} (hj : j ≤ s.size) : mt (bS s) s.size (.cat (cs.map fun c => .set (g c))) i j ↔ j = i + cs.length ∧ Stands (bS s) s.size cs i := by
  rw [Re.mt]
  constructor
  · intro h
    have := seq_ord _ _ _ _ _ h
    exact (seq_ones (bS s) s.size g hg cs i j (by omega)).1 h
  · rintro ⟨rfl, h⟩
    exact (seq_ones (bS s) s.size g hg cs i _ (by omega)).2 ⟨rfl, h⟩
theorem ex_mt (s x : ByteArray) {i j : Nat} (hj : j ≤ s.size) : mt (bS s) s.size (exRe x) i j ↔ j = i + (bI x).length ∧ Stands (bS s) s.size (bI x) i :=
  ones_mt s (bI x) (fun c x => decide (x = c)) (fun c x => by simp) hj
theorem occ_stands (s x : ByteArray) (i : Nat) (hi : i ≤ s.size) : Lib.occAt s.data.toList x.data.toList i = true ↔ Stands (bS s) s.size (bI x) i := by
  unfold Lib.occAt
  rw [List.isPrefixOf_iff_prefix]
  have hs : s.data.toList.length = s.size := by simp
  have hx : x.data.toList.length = (bI x).length := by simp [bI]
  have hx2 : x.data.toList.length = x.size := by simp
  have get : ∀ (y : ByteArray) (k : Nat) (h : k < y.data.toList.length), ((y.data.toList[k]).toNat : Int) = bS y k := by
    intro y k h
    rw [bS_eq y k (by rw [bI_len]; simpa using h)]
    simp [bI]
  constructor
  · intro h
    obtain ⟨t, ht⟩ := h
    have hl : x.data.toList.length + t.length = s.data.toList.length - i := by
      have := congrArg List.length ht
      simpa using this
    refine ⟨by omega, fun k hk => ?_⟩
    have hk' : k < x.data.toList.length := by omega
    rw [← get s (i + k) (by omega), ← bS_eq x k hk, ← get x k hk']
    have e : (s.data.toList.drop i)[k]'(by rw [← ht]; simp; omega) = x.data.toList[k] := by
      simp only [← ht]
      rw [List.getElem_append_left hk']
    rw [← e, List.getElem_drop]
  · rintro ⟨h1, h2⟩
    rw [List.prefix_iff_eq_take]
    apply List.ext_getElem
    · simp only [List.length_take, List.length_drop]; omega
    · intro k hk1 hk2
      rw [List.getElem_take, List.getElem_drop]
      have a := h2 k (by omega)
      rw [← bS_eq x k (by omega), ← get s (i + k) (by omega), ← get x k hk1] at a
      exact (UInt8.toNat_inj.mp (Int.ofNat.inj a)).symm
/-- What bytes.Index tells. -/
theorem exact_fq (s x : ByteArray) (i : Int) (h : i = Lib.index s.data.toList x.data.toList) : FindP s (exRe x) (if i < 0 then 0 else i) (if i < 0 then 0 else i + (x.size : Int)) (decide (0 ≤ i)) := by
  have hs : s.data.toList.length = s.size := by simp
  refine fq_to ?_
  rcases Lib.index_spec s.data.toList x.data.toList with ⟨h1, h2⟩ | ⟨k, h1, h2, h3, h4⟩
  · rw [h1] at h
    subst h
    refine .inl ⟨by decide, rfl, rfl, fun a j hj hm => ?_⟩
    obtain ⟨e, hst⟩ := (ex_mt s x hj).1 hm
    have := (occ_stands s x a (by omega)).2 hst
    rw [h2 a (by omega)] at this
    cases this
  · rw [h1] at h
    subst h
    rw [if_neg (by omega), if_neg (by omega)]
    have hst := (occ_stands s x k (by omega)).1 h3
    have hl := hst.1
    refine .inr ⟨by simp, k, k + (bI x).length, rfl, by rw [bI_len]; omega, by omega, (ex_mt s x (by omega)).2 ⟨rfl, hst⟩, fun a j hj hm => ?_⟩
    obtain ⟨e, hst2⟩ := (ex_mt s x hj).1 hm
    by_cases hak : a < k
    · have := (occ_stands s x a (by omega)).2 hst2
      rw [h4 a hak] at this
      cases this
    · omega
end Go.Proofs.Ytdgidcfmggmbiaa.Qp
namespace Go.Proofs.Ytdgidcfmggmbiaa.Qp
set_option linter.unusedVariables false
set_option linter.unusedSimpArgs false
open Go.RowKit Go.Proofs.Ytdgidcfmggmbiaa.Mem Go.Proofs.Ytdgidcfmggmbiaa.Re Go.Proofs.Ytdgidcfmggmbiaa.Nm Go.Proofs.Ytdgidcfmggmbiaa.Tree Go.Proofs.Ytdgidcfmggmbiaa.PRx Go.Proofs.Ytdgidcfmggmbiaa.Rx Go.Proofs.YtdgidcfmggmbiaaW.PrintWords

/-- A slice of the bytes s. -/
def BufAt (w : World) (v : Value) (s : ByteArray) : Prop :=
  (v = .slice none 0 0 ∧ s.size = 0) ∨ ∃ (a : Addr) (c : Nat), v = .slice (some a) s.size c ∧ s.size ≤ c ∧ (0 < s.size → a.spot = none) ∧ ∀ i, i < s.size → w.cell? (a.add i) = some (.int .u8 ((bI s).getD i 0))
theorem BufAt.old {w w' : World} {v : Value} {s : ByteArray} (h : BufAt w v s) (hk : ∀ a c, v = .slice (some a) s.size c → 0 < s.size → w'.heap[a.block]? = w.heap[a.block]?) : BufAt w' v s := by
  rcases h with h | ⟨a, c, h1, h2, h3, h4⟩
  · exact .inl h
  · refine .inr ⟨a, c, h1, h2, h3, fun i hi => ?_⟩
    rw [← h4 i hi]
    have e : (a.add i).block = a.block := by unfold Addr.add; split <;> rfl
    unfold World.cell?
    rw [e, hk a c h1 (by omega)]
theorem BufAt.lt {w : World} {s : ByteArray} {a : Addr} {c : Nat} (h : BufAt w (.slice (some a) s.size c) s) (hs : 0 < s.size) : a.block < w.heap.size := by
  rcases h with ⟨h, _⟩ | ⟨a', c', h1, h2, h3, h4⟩
  · cases h
  · injection h1 with h1 _ _
    injection h1 with h1
    subst h1
    have h5 := h4 0 hs
    have e : (a.add 0).block = a.block := by unfold Addr.add; split <;> rfl
    have := World.block_lt_of_cell? w _ h5
    rw [e] at this; exact this
theorem BufAt.below {w w' : World} {v : Value} {s : ByteArray} (h : BufAt w v s) (hb : Below w.heap.size w w') : BufAt w' v s :=
  h.old fun a c e hs => by subst e; exact hb.block _ (h.lt hs)
theorem BufAt.drewN {w : World} {v : Value} {s : ByteArray} (h : BufAt w v s) (n : Nat) : BufAt (w.drewN n) v s := h.old fun _ _ _ _ => rfl
theorem BufAt.drew {w : World} {v : Value} {s : ByteArray} (h : BufAt w v s) : BufAt w.drew v s := h.old fun _ _ _ _ => rfl
theorem bytesOf_bI (s : ByteArray) : Lib.bytesOf (bI s) = s.data.toList := by
  unfold Lib.bytesOf bI
  rw [List.map_map]
  conv => rhs; rw [← List.map_id s.data.toList]
  refine List.map_congr_left fun b _ => ?_
  simp
theorem str_bI (s : ByteArray) : strOfNums (bI s) = s := by
  have := bytesOf_bI s
  unfold Lib.bytesOf at this
  unfold strOfNums
  rw [this]
theorem add_plain (b o i : Nat) : (⟨b, o, none⟩ : Addr).add i = ⟨b, o + i, none⟩ := by unfold Addr.add; split <;> simp_all
theorem BufAt.convert {w : World} {v : Value} {s : ByteArray} (h : BufAt w v s) : (convert 38 9 v).run Try.prog w = .ok (.string s) w := by
  rcases h with ⟨rfl, h0⟩ | ⟨a, c, rfl, h2, h3, h4⟩
  · rw [run_convert_bytes_nil w 38 5 Try.underlying38 Try.underlying5 0 0 9 Try.underlying9]
    have : s = ⟨#[]⟩ := by
      cases s with | mk d => congr 1; exact Array.eq_empty_of_size_eq_zero h0
    rw [this]
    rfl
  · by_cases hs : 0 < s.size
    · obtain ⟨b, o, sp⟩ := a
      have hsp : sp = none := h3 hs
      subst hsp
      have := run_convert_bytes_arg w 38 5 Try.underlying38 Try.underlying5 b o s.size c (bI s) (bI_len s) (fun i hi => by rw [← add_plain]; exact h4 i hi) 9 Try.underlying9
      rw [this, str_bI]
    · have h0 : s.size = 0 := by omega
      have e : s = ⟨#[]⟩ := by
        cases s with | mk d => congr 1; exact Array.eq_empty_of_size_eq_zero h0
      subst e
      have hl : (loadCells a (ByteArray.size ⟨#[]⟩)).run Try.prog w = .ok ((([] : List Int).map (Value.int .u8)).toArray) w := rfl
      rw [run_convert_bytes_string w 38 9 5 (some a) _ c Try.underlying38 Try.underlying5 Try.underlying9, run_bytesToString w a _ c [] hl]
      rfl
/-- A pattern in memory: its block, its machine's block. -/
structure Pn where
  b : Nat
  mb : Option Nat
  kind : Int
  text : ByteArray
  r : Re
def PnAt (B : Nat) (w : World) (p : Pn) : Prop :=
  B ≤ p.b ∧ p.text.size ≤ 256 ∧ match p.mb with
  | none => Blk w p.b 48 #[.int .i64 p.kind, .string p.text, .pointer none] ∧ p.r = exRe p.text
  | some m => Blk w p.b 48 #[.int .i64 p.kind, .string p.text, .pointer (some ⟨m, 0, none⟩)] ∧ B ≤ m ∧ ∃ base stp, Mach w base m p.r stp
/-- Patterns in memory, each with a machine of its own. -/
structure Ps (B : Nat) (w : World) (l : List Pn) : Prop where
  nd : (l.filterMap (·.mb)).Nodup
  at_ : ∀ p, p ∈ l → PnAt B w p
theorem PnAt.blk {B : Nat} {w : World} {p : Pn} (h : PnAt B w p) : ∃ pv, Blk w p.b 48 #[.int .i64 p.kind, .string p.text, pv] := by
  obtain ⟨h1, h2, h3⟩ := h
  split at h3
  · exact ⟨_, h3.1⟩
  · exact ⟨_, h3.1⟩
theorem PnAt.below {B : Nat} {w w' : World} {p : Pn} (h : PnAt B w p) (hb : Below w.heap.size w w') : PnAt B w' p := by
  obtain ⟨h1, h2, h3⟩ := h
  refine ⟨h1, h2, ?_⟩
  split at h3
  · exact ⟨h3.1.below hb h3.1.lt, h3.2⟩
  · obtain ⟨h4, h5, base, stp, h6⟩ := h3
    exact ⟨h4.below hb h4.lt, h5, base, stp, h6.below hb⟩
theorem Ps.below {B : Nat} {w w' : World} {l : List Pn} (h : Ps B w l) (hb : Below w.heap.size w w') : Ps B w' l := ⟨h.nd, fun p hp => (h.at_ p hp).below hb⟩
theorem Ps.nil (B : Nat) (w : World) : Ps B w [] := ⟨List.nodup_nil, fun p hp => by simp at hp⟩
theorem Ps.cons {B : Nat} {w w' : World} {l : List Pn} {p : Pn} (h : Ps B w l) (hb : Below w.heap.size w w') (hp : PnAt B w' p) (hn : ∀ m, p.mb = some m → w.heap.size ≤ m) : Ps B w' (p :: l) := by
  refine ⟨?_, ?_⟩
  · cases hm : p.mb with
    | none => rw [List.filterMap_cons_none hm]; exact h.nd
    | some m =>
      rw [List.filterMap_cons_some hm]
      refine List.nodup_cons.2 ⟨fun c => ?_, h.nd⟩
      obtain ⟨q, hq, e⟩ := List.mem_filterMap.1 c
      have := h.at_ q hq
      obtain ⟨_, _, h3⟩ := this
      rw [e] at h3
      obtain ⟨_, _, base, stp, h6⟩ := h3
      have := h6.lt
      have := hn m hm
      omega
  · intro q hq
    rcases List.mem_cons.1 hq with rfl | hq
    · exact hp
    · exact (h.at_ q hq).below hb
theorem nodup_mb {l : List Pn} (h : (l.filterMap (·.mb)).Nodup) {p q : Pn} {m : Nat} (hp : p ∈ l) (hq : q ∈ l) (e1 : p.mb = some m) (e2 : q.mb = some m) : p = q := by
  induction l with
  | nil => simp at hp
  | cons x l ih =>
    cases hx : x.mb with
    | none =>
      rw [List.filterMap_cons_none hx] at h
      rcases List.mem_cons.1 hp with rfl | hp
      · rw [hx] at e1; cases e1
      · rcases List.mem_cons.1 hq with rfl | hq
        · rw [hx] at e2; cases e2
        · exact ih h hp hq
    | some y =>
      rw [List.filterMap_cons_some hx, List.nodup_cons] at h
      rcases List.mem_cons.1 hp with e3 | hp1
      · rcases List.mem_cons.1 hq with e4 | hq1
        · rw [e3, e4]
        · rw [e3, hx] at e1; injection e1 with e1; subst e1
          exact (h.1 (List.mem_filterMap.2 ⟨q, hq1, e2⟩)).elim
      · rcases List.mem_cons.1 hq with e4 | hq1
        · rw [e4, hx] at e2; injection e2 with e2; subst e2
          exact (h.1 (List.mem_filterMap.2 ⟨p, hp1, e1⟩)).elim
        · exact ih h.2 hp1 hq1
/-- One machine has run. -/
theorem Ps.ran {B : Nat} {w w' : World} {l : List Pn} (h : Ps B w l) {p : Pn} (hp : p ∈ l) {m base base' : Nat} {stp stp' : Int} (hm : p.mb = some m) (hk : Kp w w' (fun k => k = m)) (h0 : Mach w base m p.r stp) (h1 : Mach w' base' m p.r stp') : Ps B w' l := by
  refine ⟨h.nd, fun q hq => ?_⟩
  have hat := h.at_ q hq
  obtain ⟨cs, hb0⟩ := h0.blk
  obtain ⟨h1', h2', h3'⟩ := hat
  refine ⟨h1', h2', ?_⟩
  cases hqm : q.mb with
  | none =>
    rw [hqm] at h3'
    exact ⟨h3'.1.kp hk (fun e => (Blk.ne_ h3'.1 hb0 (by decide)) e), h3'.2⟩
  | some mq =>
    rw [hqm] at h3'
    obtain ⟨h4, h5, base2, stp2, h6⟩ := h3'
    refine ⟨h4.kp hk (fun e => (Blk.ne_ h4 hb0 (by decide)) e), h5, ?_⟩
    by_cases e : mq = m
    · subst e
      obtain rfl := nodup_mb h.nd hq hp hqm hm
      exact ⟨base', stp', h1⟩
    · exact ⟨base2, stp2, h6.kpb hk h0 e⟩
theorem BufAt.range (s : ByteArray) : ∀ x ∈ bI s, 0 ≤ x ∧ x < 256 := bI_rng s
/-- bytes.Index, of a buffer and a text's own bytes. -/
theorem index_any {w : World} {v : Value} {s x : ByteArray} {g c2 : Nat} {m : Int} (h : BufAt w v s) (hs : s.size ≤ 1000000000) (hx : x.size ≤ 1000000000) (hc2 : ∀ i, i < x.size → w.cell? ⟨g, i, none⟩ = some (.int .u8 ((bI x).getD i 0))) (hm : w.cell? ⟨0, 0, none⟩ = some (.int .i64 m)) :
    Calls Try.prog 20 #[v, .slice (some ⟨g, 0, none⟩) x.size c2] w fun e w' => e = .returned (.int .i64 (Lib.index s.data.toList x.data.toList)) ∧ ∃ q, w' = w.drewN q := by
  rcases h with ⟨rfl, h0⟩ | ⟨a, c, rfl, h2, h3, h4⟩
  · refine (Try.bytes_Index_nil (some ⟨g, 0, none⟩) x.size c2 w (by omega) (fun h1 => ⟨g, 0, _, rfl, hc2 0 (by omega)⟩)).mono ?_
    rintro e w' ⟨he, hw⟩
    refine ⟨?_, 0, by rw [hw]; rfl⟩
    rw [he]
    have e : s.data.toList = [] := List.eq_nil_of_length_eq_zero (by simpa using h0)
    rw [e]
    congr 2
    cases hq : x.data.toList with
    | nil => rw [if_pos (by have := congrArg List.length hq; simpa using this)]; rfl
    | cons d l => rw [if_neg (by have := congrArg List.length hq; simp at this; omega)]; rfl
  · refine (Try.bytes_Index_at a ⟨g, 0, none⟩ s.size c x.size c2 (bI s) (bI x) m w (bI_len s) (bI_len x) (bI_rng s) (bI_rng x) h4 (fun i hi => by rw [add_plain, Nat.zero_add]; exact hc2 i hi) h2 (by omega) (by omega) hm).mono ?_
    rintro e w' ⟨he, hw⟩
    rw [bytesOf_bI, bytesOf_bI] at he
    exact ⟨he, hw⟩
set_option maxHeartbeats 2000000 in
set_option maxRecDepth 100000 in
theorem find_text {w : World} {b : Nat} {kind : Int} {x s : ByteArray} {v : Value} {m : Int} (hb : Blk w b 48 #[.int .i64 kind, .string x, .pointer none]) (hx : x.size ≤ 256) (h : BufAt w v s) (hs : s.size ≤ 1000000000) (hm : w.cell? ⟨0, 0, none⟩ = some (.int .i64 m)) :
    Calls Try.prog 12 #[.pointer (some ⟨b, 0, none⟩), v] w fun e w' => ∃ f t ok, e = .returned (.tuple #[.int .i64 f, .int .i64 t, .bool ok]) ∧ FindP s (exRe x) f t ok ∧ Below w.heap.size w w' := by
  have k1 := hb.cell 1
  have k2 := hb.cell 2
  simp only [List.getElem?_toArray, List.getElem?_cons_zero, List.getElem?_cons_succ] at k1 k2
  have hcv := Lib.run_convert_string_bytes (P := Try.prog) w 9 38 5 x Try.underlying9 Try.underlying38 Try.underlying5
  have hbw : Below w.heap.size w (Lib.bytesWorld w 5 x) := ⟨rfl, rfl, rfl, by rw [Lib.bytesWorld_size]; omega, fun j hj => Lib.bytesWorld_at_old w 5 x j hj⟩
  have hI := index_any (x := x) (w := Lib.bytesWorld w 5 x) (g := w.heap.size) (c2 := grownCap w x.size 0 5) (h.below hbw) hs (by omega) (fun i hi => by
    rw [Lib.bytesWorld_cell w 5 x i hi]
    simp [bI, List.getD, hi]) (by rw [Lib.bytesWorld_old w 5 x _ (World.block_lt_of_cell? w _ hm)]; exact hm)
  have p1 := (hb.below hbw hb.lt).cell 1
  simp only [List.getElem?_toArray, List.getElem?_cons_zero, List.getElem?_cons_succ] at p1
  obtain ⟨i, hi⟩ : ∃ i, i = Lib.index s.data.toList x.data.toList := ⟨_, rfl⟩
  have hf := exact_fq s x i hi
  have hle : i + (x.size : Int) ≤ 1000000256 ∧ -1 ≤ i := by
    have := Lib.index_ge s.data.toList x.data.toList
    have := Lib.index_le s.data.toList x.data.toList
    have e : s.data.toList.length = s.size := by simp
    omega
  rw [← hi] at hI
  have HI := Lib.hid hI
  have HF := Lib.hid hf
  have HB := Lib.hid hbw
  obtain ⟨W, hW⟩ : ∃ W, W = Lib.bytesWorld w 5 x := ⟨_, rfl⟩
  rw [← hW] at HI HB hcv p1
  clear hb hx h hs hm hI hf hbw hi hW
  by_cases hn : i < 0
  · have g0 : decide (i < 0) = true := by simpa using hn
    have g1 : decide (0 ≤ i) = false := by simp; omega
    rw [if_pos hn, if_pos hn, g1] at HF
    clear g1 hn
    go_enter Try.func12, Try.ntmps12
    go_wp2_with (first | (go_at_call 20; refine HI.out.mono ?_; rintro e w2 ⟨rfl, q, rfl⟩))
    go_ret3
    exact ⟨_, _, _, rfl, HF.out, below_drewN HB.out _⟩
  · have g0 : decide (i < 0) = false := by simpa using hn
    have g1 : decide (0 ≤ i) = true := by simp; omega
    have g2 : 0 ≤ i := by omega
    have g3 : IntKind.i64.wrap (i + (x.size : Int)) = i + (x.size : Int) := IntWalk.i64_in _ (by omega)
    rw [if_neg hn, if_neg hn, g1] at HF
    clear g1 hn
    go_enter Try.func12, Try.ntmps12
    go_wp2_with (first | (go_at_call 20; refine HI.out.mono ?_; rintro e w2 ⟨rfl, q, rfl⟩))
    go_region
    all_goals
      go_wp2
      go_ret3
      exact ⟨_, _, _, rfl, HF.out, below_drewN HB.out _⟩
end Go.Proofs.Ytdgidcfmggmbiaa.Qp
