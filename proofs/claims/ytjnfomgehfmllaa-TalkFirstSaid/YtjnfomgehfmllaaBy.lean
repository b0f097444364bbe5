/- Byte slices: what is read, appended, cut; bytes.Index; the bytes of a text. -/
import Derived.Test.YtjnfomgehfmllaaShelf
import Derived.Test.YtjnfomgehfmllaaWWords
import Derived.Test.YtjnfomgehfmllaaWLast
import Derived.Test.YtjnfomgehfmllaaWMore
import Derived.Test.YtjnfomgehfmllaaMem
import Derived.Lib.ConvBytes
import Derived.Lib.IndexMore
import Derived.Laws.BytesArg
import Derived.Lib.Hide
import Derived.Outline
import Derived.WalkLawsBesides
import Derived.BigQuiet
import Derived.Deep.DeepCutAuto
import Derived.Deep.CutRange
import Derived.Deep.CutBlock
namespace Go.Proofs.Ytjnfomgehfmllaa.By
set_option linter.unusedVariables false
set_option linter.unusedSimpArgs false
open Go.RowKit Go.Proofs.Ytjnfomgehfmllaa.Mem Go.Proofs.YtjnfomgehfmllaaW.PrintWords Go.Proofs.YtjnfomgehfmllaaW.PrintLast Go.Proofs.YtjnfomgehfmllaaW.PrintMore

/-- A text's bytes. -/
def bI (s : ByteArray) : List Int := s.data.toList.map fun b => (b.toNat : Int)
theorem bI_len (s : ByteArray) : (bI s).length = s.size := by simp [bI]
theorem bI_rng (s : ByteArray) : ∀ x, x ∈ bI s → 0 ≤ x ∧ x < 256 := by
  intro x hx
  simp only [bI, List.mem_map] at hx
  obtain ⟨b, _, rfl⟩ := hx
  have := b.toNat_lt
  omega
/-- A slice of the bytes s. -/
def BufAt (w : World) (v : Value) (s : ByteArray) : Prop :=
  (v = .slice none 0 0 ∧ s.size = 0) ∨ ∃ (a : Addr) (c : Nat), v = .slice (some a) s.size c ∧ s.size ≤ c ∧ (0 < s.size → a.spot = none) ∧ ∀ i, i < s.size → w.cell? (a.add i) = some (.int .u8 ((bI s).getD i 0))
theorem BufAt.old {w w' : World} {v : Value} {s : ByteArray} (h : BufAt w v s) (hk : ∀ a c, v = .slice (some a) s.size c → 0 < s.size → w'.heap[a.block]? = w.heap[a.block]?) : BufAt w' v s := by
  rcases h with h | ⟨a, c, h1, h2, h3, h4⟩
  · exact .inl h
  · refine .inr ⟨a, c, h1, h2, h3, fun i hi => ?_⟩
    rw [← h4 i hi]
    have e : (a.add i).block = a.block := by unfold Addr.add; split <;> rfl
    unfold World.cell?
    rw [e, hk a c h1 (by omega)]
theorem BufAt.lt {w : World} {s : ByteArray} {a : Addr} {c : Nat} (h : BufAt w (.slice (some a) s.size c) s) (hs : 0 < s.size) : a.block < w.heap.size := by
  rcases h with ⟨h, _⟩ | ⟨a', c', h1, h2, h3, h4⟩
  · cases h
  · injection h1 with h1 _ _
    injection h1 with h1
    subst h1
    have h5 := h4 0 hs
    have e : (a.add 0).block = a.block := by unfold Addr.add; split <;> rfl
    have := World.block_lt_of_cell? w _ h5
    rw [e] at this; exact this
theorem BufAt.below {w w' : World} {v : Value} {s : ByteArray} (h : BufAt w v s) (hb : Below w.heap.size w w') : BufAt w' v s :=
  h.old fun a c e hs => by subst e; exact hb.block _ (h.lt hs)
theorem BufAt.drewN {w : World} {v : Value} {s : ByteArray} (h : BufAt w v s) (n : Nat) : BufAt (w.drewN n) v s := h.old fun _ _ _ _ => rfl
theorem BufAt.drew {w : World} {v : Value} {s : ByteArray} (h : BufAt w v s) : BufAt w.drew v s := h.old fun _ _ _ _ => rfl
theorem bytesOf_bI (s : ByteArray) : Lib.bytesOf (bI s) = s.data.toList := by
  unfold Lib.bytesOf bI
  rw [List.map_map]
  conv => rhs; rw [← List.map_id s.data.toList]
  refine List.map_congr_left fun b _ => ?_
  simp
theorem str_bI (s : ByteArray) : strOfNums (bI s) = s := by
  have := bytesOf_bI s
  unfold Lib.bytesOf at this
  unfold strOfNums
  rw [this]
theorem add_plain (b o i : Nat) : (⟨b, o, none⟩ : Addr).add i = ⟨b, o + i, none⟩ := by unfold Addr.add; split <;> simp_all
theorem BufAt.convert {w : World} {v : Value} {s : ByteArray} (h : BufAt w v s) : (convert 39 9 v).run Try.prog w = .ok (.string s) w := by
  rcases h with ⟨rfl, h0⟩ | ⟨a, c, rfl, h2, h3, h4⟩
  · rw [run_convert_bytes_nil w 39 5 Try.underlying39 Try.underlying5 0 0 9 Try.underlying9]
    have : s = ⟨#[]⟩ := by
      cases s with | mk d => congr 1; exact Array.eq_empty_of_size_eq_zero h0
    rw [this]
    rfl
  · by_cases hs : 0 < s.size
    · obtain ⟨b, o, sp⟩ := a
      have hsp : sp = none := h3 hs
      subst hsp
      have := run_convert_bytes_arg w 39 5 Try.underlying39 Try.underlying5 b o s.size c (bI s) (bI_len s) (fun i hi => by rw [← add_plain]; exact h4 i hi) 9 Try.underlying9
      rw [this, str_bI]
    · have h0 : s.size = 0 := by omega
      have e : s = ⟨#[]⟩ := by
        cases s with | mk d => congr 1; exact Array.eq_empty_of_size_eq_zero h0
      subst e
      have hl : (loadCells a (ByteArray.size ⟨#[]⟩)).run Try.prog w = .ok ((([] : List Int).map (Value.int .u8)).toArray) w := rfl
      rw [run_convert_bytes_string w 39 9 5 (some a) _ c Try.underlying39 Try.underlying5 Try.underlying9, run_bytesToString w a _ c [] hl]
      rfl
/-- bytes.Index, of a buffer and a text's own bytes. -/
theorem index_any {w : World} {v : Value} {s x : ByteArray} {g c2 : Nat} {m : Int} (h : BufAt w v s) (hs : s.size ≤ 1000000000) (hx : x.size ≤ 1000000000) (hc2 : ∀ i, i < x.size → w.cell? ⟨g, i, none⟩ = some (.int .u8 ((bI x).getD i 0))) (hm : w.cell? ⟨0, 0, none⟩ = some (.int .i64 m)) :
    Calls Try.prog 45 #[v, .slice (some ⟨g, 0, none⟩) x.size c2] w fun e w' => e = .returned (.int .i64 (Lib.index s.data.toList x.data.toList)) ∧ ∃ q, w' = w.drewN q := by
  rcases h with ⟨rfl, h0⟩ | ⟨a, c, rfl, h2, h3, h4⟩
  · refine (Try.bytes_Index_nil (some ⟨g, 0, none⟩) x.size c2 w (by omega) (fun h1 => ⟨g, 0, _, rfl, hc2 0 (by omega)⟩)).mono ?_
    rintro e w' ⟨he, hw⟩
    refine ⟨?_, 0, by rw [hw]; rfl⟩
    rw [he]
    have e : s.data.toList = [] := List.eq_nil_of_length_eq_zero (by simpa using h0)
    rw [e]
    congr 2
    cases hq : x.data.toList with
    | nil => rw [if_pos (by have := congrArg List.length hq; simpa using this)]; rfl
    | cons d l => rw [if_neg (by have := congrArg List.length hq; simp at this; omega)]; rfl
  · refine (Try.bytes_Index_at a ⟨g, 0, none⟩ s.size c x.size c2 (bI s) (bI x) m w (bI_len s) (bI_len x) (bI_rng s) (bI_rng x) h4 (fun i hi => by rw [add_plain, Nat.zero_add]; exact hc2 i hi) h2 (by omega) (by omega) hm).mono ?_
    rintro e w' ⟨he, hw⟩
    rw [bytesOf_bI, bytesOf_bI] at he
    exact ⟨he, hw⟩
theorem BufAt.form {w : World} {v : Value} {s : ByteArray} (h : BufAt w v s) : ∃ A c, v = .slice A s.size c ∧ s.size ≤ c := by
  rcases h with ⟨rfl, h⟩ | ⟨a, c, rfl, h, _⟩
  · exact ⟨none, 0, by rw [h], by omega⟩
  · exact ⟨some a, c, rfl, h⟩
theorem BufAt.reads {w : World} {A : Option Addr} {c : Nat} {s : ByteArray} (h : BufAt w (.slice A s.size c) s) (hs : s.size ≤ 140737488355328) : ReadsInt w .u8 A s.size (bI s) := by
  refine ⟨bI_len s, by omega, fun hn => ?_⟩
  rcases h with ⟨h, h0⟩ | ⟨a, c', h1, h2, h3, h4⟩
  · omega
  · injection h1 with h1 _ _
    subst h1
    exact ⟨a, rfl, h4⟩
theorem buf_of_own {w : World} {base n : Nat} {v : Value} {s : ByteArray} (h : w.ownsRow base 5 1 v n (nums .u8 (bI s))) : BufAt w v s := by
  obtain ⟨hl, h⟩ := h
  have hn : s.size = n := by
    simp only [nums, List.length_map, bI_len] at hl
    omega
  subst hn
  rcases h with ⟨rfl, h0⟩ | ⟨g, cap, cur, rfl, hb, hh, hc, hm, hs, ht⟩
  · exact .inl ⟨rfl, h0⟩
  · refine .inr ⟨_, _, rfl, hc, fun _ => rfl, fun i hi => ?_⟩
    rw [add_plain, Nat.zero_add]
    have h1 : cur[i]? = some (.int .u8 ((bI s).getD i 0)) := by
      have : (cur.toList.take (s.size * 1))[i]? = (nums .u8 (bI s))[i]? := by rw [ht]
      rw [List.getElem?_take, if_pos (by omega), Array.getElem?_toList] at this
      rw [this]
      have hl : i < (bI s).length := by rw [bI_len]; exact hi
      simp [nums, List.getD_eq_getElem?_getD, List.getElem?_eq_getElem hl]
    show World.cell? w ⟨g, i, none⟩ = _
    unfold World.cell?
    rw [hh]
    exact h1
theorem bI_str {xs : List Int} (h : ∀ x ∈ xs, 0 ≤ x ∧ x < 256) : bI (strOfNums xs) = xs := by
  unfold bI
  rw [strOfNums_data, List.map_map]
  conv => rhs; rw [← List.map_id xs]
  refine List.map_congr_left fun x hx => ?_
  have := h x hx
  simp only [Function.comp, id]
  have e : (UInt8.ofNat x.toNat).toNat = x.toNat := by
    rw [UInt8.toNat_ofNat']
    omega
  rw [e]
  omega
theorem info5 : (Try.prog.info? 5).map (fun i => (i.zero, i.size, i.bytes)) = some (some (.int .u8 0), 1, 1) := by kernel_rfl
theorem info5s : ∃ i, Try.prog.info? 5 = some i ∧ i.size = 1 := by
  obtain ⟨i, h1, h2⟩ := Option.map_eq_some_iff.1 info5
  simp only [Prod.mk.injEq] at h2
  exact ⟨i, h1, h2.2.1⟩
theorem own_empty (W : World) {base : Nat} (hb : base ≤ W.heap.size) : (W.alloc (.cells #[] 5)).ownsRow base 5 1 (.slice (some ⟨W.heap.size, 0, none⟩) 0 0) ([] : List Int).length (nums .u8 []) := by
  have := World.ownsRow_lit (base := base) (e := 5) (size := 1) W #[] 0 hb (Nat.zero_le _) rfl
  simpa [nums] using this
theorem buf_own_bI {w : World} {base : Nat} {v : Value} {xs : List Int} (hr : ∀ x ∈ xs, 0 ≤ x ∧ x < 256) (h : w.ownsRow base 5 1 v xs.length (nums .u8 xs)) : BufAt w v (strOfNums xs) := by
  refine buf_of_own (base := base) (n := xs.length) ?_
  rw [bI_str hr]
  exact h
theorem bI_app (a b : ByteArray) : bI (a ++ b) = bI a ++ bI b := by
  simp [bI, ByteArray.data_append]
theorem conv_one (W : World) (c : Int) (hc : 0 ≤ c ∧ c < 256) : (convert 39 9 (.slice (some ⟨W.heap.size, 0, none⟩) 1 1)).run Try.prog (W.alloc (.cells #[.int .u8 c] 5)) = .ok (.string (strOfNums [c])) (W.alloc (.cells #[.int .u8 c] 5)) := by
  have hh : (W.alloc (.cells #[.int .u8 c] 5)).heap[W.heap.size]? = some (.cells #[.int .u8 c] 5 (0, 0)) := blk_new W _
  refine run_convert_bytes_arg (W.alloc (.cells #[.int .u8 c] 5)) 39 5 Try.underlying39 Try.underlying5 W.heap.size 0 1 1 [c] rfl (fun i hi => ?_) 9 Try.underlying9
  obtain rfl : i = 0 := by omega
  simp
theorem bI_one {c : Int} (h : 0 ≤ c ∧ c < 256) : bI (strOfNums [c]) = [c] := bI_str (by intro x hx; obtain rfl := List.mem_singleton.mp hx; exact h)
theorem size_one (c : Int) : (strOfNums [c]).size = 1 := by rw [strOfNums_size]; rfl
theorem conv_reads {w : World} {A : Option Addr} {n : Nat} {x : ByteArray} (c : Nat) (h : ReadsInt w .u8 A n (bI x)) : (convert 39 9 (.slice A n c)).run Try.prog w = .ok (.string x) w := by
  have hn : x.size = n := by rw [← bI_len]; exact h.1
  subst hn
  by_cases h0 : x.size = 0
  · have e : x = ⟨#[]⟩ := by cases x with | mk d => congr 1; exact Array.eq_empty_of_size_eq_zero h0
    subst e
    cases A with
    | none => exact run_convert_bytes_nil w 39 5 Try.underlying39 Try.underlying5 _ c 9 Try.underlying9
    | some a =>
      have hl : (loadCells a (ByteArray.size ⟨#[]⟩)).run Try.prog w = .ok ((([] : List Int).map (Value.int .u8)).toArray) w := rfl
      rw [run_convert_bytes_string w 39 9 5 (some a) _ c Try.underlying39 Try.underlying5 Try.underlying9, run_bytesToString w a _ c [] hl]
      rfl
  · obtain ⟨a, rfl, hc⟩ := h.2.2 (by omega)
    have hsp : a.spot = none := by
      have h1 := hc 0 (by omega)
      obtain ⟨b, o, sp⟩ := a
      cases sp with
      | none => rfl
      | some y => simp [World.cell?, Addr.add] at h1; split at h1 <;> simp_all
    obtain ⟨b, o, sp⟩ := a
    obtain rfl : sp = none := hsp
    rw [run_convert_bytes_arg w 39 5 Try.underlying39 Try.underlying5 b o x.size c (bI x) (bI_len x) (fun i hi => by rw [← add_plain]; exact hc i hi) 9 Try.underlying9, str_bI]
theorem text_at (s : ByteArray) (k : Nat) (h : k < s.size) : ∃ c, 0 ≤ c ∧ c < 256 ∧ (bI s).drop k = c :: (bI s).drop (k + 1) ∧ (bI s).take (k + 1) = (bI s).take k ++ [c] ∧ ∀ W : World, (Instr.index 9 (.string s) (.int .i64 (k : Int))).run Try.prog W = .ok (.int .u8 c) W := by
  have hl : k < (bI s).length := by rw [bI_len]; exact h
  refine ⟨(bI s)[k], (bI_rng s _ (List.getElem_mem hl)).1, (bI_rng s _ (List.getElem_mem hl)).2, List.drop_eq_getElem_cons hl, List.take_succ_eq_append_getElem hl, fun W => ?_⟩
  rw [run_index_string W 9 s .i64 k Try.underlying9, dif_pos ⟨by omega, by omega⟩]
  simp [bI]
  rfl
end Go.Proofs.Ytjnfomgehfmllaa.By
