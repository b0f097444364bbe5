/- rex.quoted. strings.Builder.WriteString at a builder that has been written to: what else it leaves alone. rex.setText. -/
import Derived.Test.YtcdkooebhpfknaaMg
import Derived.Test.YtcdkooebhpfknaaMf
import Derived.Test.YtcdkooebhpfknaaBld
import Derived.Test.YtcdkooebhpfknaaShelf
import Derived.Laws.BytesArg
import Derived.Deep.DeepCutAuto
import Derived.Deep.CutRange
namespace Go.Proofs.Ytcdkooebhpfknaa.Rx
open Go.RowKit Go.Proofs.YtcdkooebhpfknaaW.PrintWords Go.Proofs.YtcdkooebhpfknaaW.PrintLast Go.Proofs.YtcdkooebhpfknaaW.PrintMore Go.Proofs.Ytcdkooebhpfknaa.PRx
set_option linter.unusedVariables false
set_option linter.unusedSimpArgs false

theorem strs_app (a b : List Int) : strOfNums (a ++ b) = strOfNums a ++ strOfNums b := by
  have : (strOfNums (a ++ b)).data.toList = (strOfNums a ++ strOfNums b).data.toList := by
    simp [strOfNums, ByteArray.data_append]
  exact ByteArray.ext (Array.ext' this)
theorem bI_strs {xs : List Int} (h : ∀ x, x ∈ xs → 0 ≤ x ∧ x < 256) : bI (strOfNums xs) = xs := by
  unfold bI
  rw [strOfNums_data, List.map_map]
  have : ∀ x, x ∈ xs → ((fun b : UInt8 => (b.toNat : Int)) ∘ fun n : Int => UInt8.ofNat n.toNat) x = x := fun x hx => by
    have := h x hx
    show ((UInt8.ofNat x.toNat).toNat : Int) = x
    rw [UInt8.toNat_ofNat']
    omega
  rw [List.map_congr_left this]
  simp
theorem strs_bI (s : ByteArray) : strOfNums (bI s) = s := by
  apply ByteArray.ext
  apply Array.ext'
  rw [strOfNums_data]
  unfold bI
  rw [List.map_map]
  have : ∀ x, x ∈ s.data.toList → ((fun n : Int => UInt8.ofNat n.toNat) ∘ fun b : UInt8 => (b.toNat : Int)) x = x := fun x hx => by
    show UInt8.ofNat ((x.toNat : Int)).toNat = x
    rw [Int.toNat_natCast]
    exact UInt8.ofNat_toNat
  rw [List.map_congr_left this]
  simp
theorem idx_ge (l : List UInt8) (c : UInt8) : decide (Lib.indexByte l c ≥ 0) = l.contains c := by
  induction l with
  | nil => rfl
  | cons b l ih =>
    rw [Lib.indexByte]
    by_cases h : b = c
    · subst h; simp
    · have h1 : (b == c) = false := by simpa using h
      have h2 : (c == b) = false := by simpa using fun e : c = b => h e.symm
      rw [h1, List.contains_cons, h2, Bool.false_or, ← ih]
      have hg := Lib.indexByte_ge l c
      simp only [Bool.false_eq_true, if_false]
      by_cases h3 : Lib.indexByte l c = -1
      · rw [h3]; rfl
      · have h4 : (Lib.indexByte l c == -1) = false := by simpa using h3
        rw [h4]
        simp only [Bool.false_eq_true, if_false]
        congr 1
        simp only [eq_iff_iff]
        omega
theorem bytes_contain (s : ByteArray) (c : Int) (h : 0 ≤ c ∧ c < 256) : s.data.toList.contains c.toNat.toUInt8 = (bI s).contains c := by
  rw [Bool.eq_iff_iff, List.contains_iff_mem, List.contains_iff_mem]
  unfold bI
  rw [List.mem_map]
  constructor
  · intro hm
    refine ⟨_, hm, ?_⟩
    show ((UInt8.ofNat c.toNat).toNat : Int) = c
    rw [UInt8.toNat_ofNat']
    omega
  · rintro ⟨b, hb, rfl⟩
    have : (b.toNat : Int).toNat.toUInt8 = b := by
      rw [Int.toNat_natCast]
      exact UInt8.ofNat_toNat
    rw [this]
    exact hb
theorem one_str (w : World) (c : Int) : (convert 56 9 (.slice (some ⟨w.heap.size, 0, none⟩) 1 1)).run Try.prog (w.alloc (.cells #[.int .u8 c] 5)) = .ok (.string (strOfNums [c])) (w.alloc (.cells #[.int .u8 c] 5)) := by
  refine run_convert_bytes_arg _ 56 5 Try.underlying56 Try.underlying5 w.heap.size 0 1 1 [c] rfl (fun i hi => ?_) 9 Try.underlying9
  obtain rfl : i = 0 := by omega
  exact blk_cell (blk_new w (.cells #[.int .u8 c] 5)) 0
/-- It returned this text; what was there is as it was. -/
def Says (w : World) (xs : List Int) (e : Ending) (w' : World) : Prop := e = .returned (.string (strOfNums xs)) ∧ Kpt w w'
theorem ret_str {a b : ByteArray} (h : a = b) : Ending.returned (.string a) = .returned (.string b) := by rw [h]
set_option maxRecDepth 100000 in
theorem quoted_any (c : Int) (hc : 0 ≤ c ∧ c < 256) (s : ByteArray) (w : World) : Calls Try.prog 23 #[.int .u8 c, .string s] w (Says w (quoteR c (bI s))) := by
  have hI := Try.strings_IndexByte s c
  have hcv := one_str w c
  have hg := idx_ge s.data.toList c.toNat.toUInt8
  rw [bytes_contain s c hc] at hg
  generalize Lib.indexByte s.data.toList c.toNat.toUInt8 = ix at hI hg
  have HI := Lib.hid hI
  clear hI
  by_cases h1 : c = 10
  · subst h1
    clear hg
    go_enter Try.func23, Try.ntmps23
    go_wp2
    go_ret
    exact ⟨rfl, Kpt.refl w⟩
  · have g1 : (c == 10) = false := by simpa using h1
    by_cases h2 : c = 9
    · subst h2
      clear hg
      go_enter Try.func23, Try.ntmps23
      go_wp2
      go_ret
      exact ⟨rfl, Kpt.refl w⟩
    · have g2 : (c == 9) = false := by simpa using h2
      by_cases h3 : (bI s).contains c = true
      · have HQ : Hid (quoteR c (bI s) = [92] ++ [c]) := Lib.hid (by unfold quoteR; rw [if_neg h1, if_neg h2, if_pos h3]; rfl)
        have hi : 0 ≤ ix := by rw [h3] at hg; exact of_decide_eq_true hg
        clear hg h1 h2 h3 hc
        go_enter Try.func23, Try.ntmps23
        go_wp2_with (go_at_call 32; refine (HI.out _).mono ?_; rintro e w1 ⟨rfl, rfl⟩)
        go_ret
        exact ⟨ret_str (by rw [HQ.out, strs_app]; rfl), (Kpt.refl _).alloc _⟩
      · have HQ : Hid (quoteR c (bI s) = [c]) := Lib.hid (by unfold quoteR; rw [if_neg h1, if_neg h2, if_neg h3])
        have hi : ¬ 0 ≤ ix := by
          have h3' : (bI s).contains c = false := by simpa using h3
          rw [h3'] at hg; exact of_decide_eq_false hg
        have hi2 : ix < 0 := by omega
        clear hg h1 h2 h3 hc
        go_enter Try.func23, Try.ntmps23
        go_wp2_with (go_at_call 32; refine (HI.out _).mono ?_; rintro e w1 ⟨rfl, rfl⟩)
        go_ret
        exact ⟨ret_str (by rw [HQ.out]), (Kpt.refl _).alloc _⟩
end Go.Proofs.Ytcdkooebhpfknaa.Rx
namespace Go.Proofs.Ytcdkooebhpfknaa.Rx
open Go.RowKit Go.Proofs.YtcdkooebhpfknaaW.PrintWords Go.Proofs.YtcdkooebhpfknaaW.PrintLast Go.Proofs.YtcdkooebhpfknaaW.PrintMore Go.Proofs.Ytcdkooebhpfknaa.PRx
set_option linter.unusedVariables false
set_option linter.unusedSimpArgs false

/-- A builder in use at block b; its row and itself lie below N. -/
def Bu (w : World) (B b N : Nat) (bs : List Value) : Prop :=
  B ≤ b ∧ b < N ∧ N ≤ w.heap.size ∧ ∃ v, w.heap[b]? = some (.cells #[.pointer (some ⟨b, 0, none⟩), v] 58 (0, 0)) ∧ w.ownsRow B 5 1 v bs.length bs ∧ v.ownBlock ≠ some b ∧ ∀ k, v.ownBlock = some k → k < N
theorem Bu.of {w : World} {B b : Nat} {bs : List Value} (h : Lib.BuilderAt 58 5 B b (.pointer (some ⟨b, 0, none⟩)) bs w) : Bu w B b w.heap.size bs := by
  have hlt := h.lt
  obtain ⟨hB, v, hb, hown, hne⟩ := h
  exact ⟨hB, hlt, Nat.le_refl _, v, hb, hown, hne, fun k hk => (hown.lt k hk).2⟩
theorem Bu.at_ {w : World} {B b N : Nat} {bs : List Value} (h : Bu w B b N bs) : Lib.BuilderAt 58 5 B b (.pointer (some ⟨b, 0, none⟩)) bs w := by
  obtain ⟨hB, _, _, v, hb, hown, hne, _⟩ := h
  exact ⟨hB, v, hb, hown, hne⟩
theorem Bu.below {w w' : World} {B b N : Nat} {bs : List Value} (h : Bu w B b N bs) (hb : Below w.heap.size w w') : Bu w' B b N bs := by
  obtain ⟨hB, h1, h2, v, h3, h4, h5, h6⟩ := h
  exact ⟨hB, h1, Nat.le_trans h2 hb.size, v, (hb.block b (by omega)).trans h3, pw_own_below h4 hb, h5, h6⟩
/-- A text is written. -/
def Wrote (w : World) (B b N : Nat) (bs : List Value) (n : Int) (e : Ending) (w' : World) : Prop :=
  e = .returned (.tuple #[.int .i64 n, .nilIface]) ∧ Lib.BuilderAt 58 5 B b (.pointer (some ⟨b, 0, none⟩)) bs w' ∧ Below B w w' ∧ ∀ k, N ≤ k → k < w.heap.size → w'.heap[k]? = w.heap[k]?
set_option maxHeartbeats 2000000 in
set_option maxRecDepth 100000 in
theorem writeS (B b N : Nat) (bs : List Value) (s : ByteArray) (w : World) (h : Bu w B b N bs) (hlen : bs.length + s.size ≤ 140737488355328) :
    Calls Try.prog 25 #[.pointer (some ⟨b, 0, none⟩), .string s] w (Wrote w B b N (bs ++ Lib.strCells s) s.size) := by
  obtain ⟨i0, hi, hz0, hz1, hz2⟩ := info_parts Bld.infoByte
  obtain ⟨hB, hbN, hNw, v, hbk, hown, hne, hlt⟩ := h
  have c0 : w.cell? ⟨b, 0, none⟩ = some (.pointer (some ⟨b, 0, none⟩)) := by rw [Lib.cell_of_heap hbk]; rfl
  have c1 : w.cell? ⟨b, 1, none⟩ = some v := by rw [Lib.cell_of_heap hbk]; rfl
  have hcc : Hid (Calls Try.prog 33 #[.pointer (some ⟨b, 0, none⟩)] w fun e w' => e = .returned (.tuple #[]) ∧ w = w') := Lib.hid ((Bld.copyCheck_used b w c0).mono fun e w' h => ⟨h.1, h.2.symm⟩)
  have HLT := Lib.hid hlt
  clear hlt
  go_enter Try.func25, Try.ntmps25
  go_wp2_with (first
    | (go_at_call 33; refine hcc.out.mono ?_; rintro e w1 ⟨rfl, rfl⟩)
    | (at_builtin; refine Lib.wpList_append_own_string _ rfl _ _ 56 9 rfl B 5 i0 Try.underlying56 Try.underlying9 hi hz0 hz1 hz2 _ _ _ rfl hown s rfl ?c3 ?c4 ?c5 ?_))
  case c3 => unfold maxLen; omega
  case c4 => omega
  case c5 => omega
  intro v' w2 hown' hgrow _
  have hb2 : w2.heap[b]? = some (.cells #[.pointer (some ⟨b, 0, none⟩), v] 58 (0, 0)) := by
    rw [hgrow.block b (by omega) (fun e => hne e.symm)]
    exact hbk
  have d0 : w2.cell? ⟨b, 0, none⟩ = some (.pointer (some ⟨b, 0, none⟩)) := by rw [Lib.cell_of_heap hb2]; rfl
  have d1 : w2.cell? ⟨b, 1, none⟩ = some v := by rw [Lib.cell_of_heap hb2]; rfl
  have f1 : w2.frozen? ⟨b, 1, none⟩ = false := Lib.frozen_of_heap hb2 1
  obtain ⟨ao, n', cap, rfl⟩ : ∃ ao n' cap, v' = .slice ao n' cap := by
    rcases hown'.2 with ⟨hv, _⟩ | ⟨g, cap, cur, hv, _⟩
    · exact ⟨_, _, _, hv⟩
    · exact ⟨_, _, _, hv⟩
  have HF : Hid (Lib.BuilderAt 58 5 B b (.pointer (some ⟨b, 0, none⟩)) (bs ++ Lib.strCells s) (w2.setCell ⟨b, 1, none⟩ (.slice ao n' cap))) := Lib.hid (Lib.BuilderAt.put (T := 58) (e := 5) hB hb2 (bs' := bs ++ Lib.strCells s) (by simpa [Lib.strCells_length] using hown') (by decide))
  have HBL : Hid (Below B w (w2.setCell ⟨b, 1, none⟩ (.slice ao n' cap))) := Lib.hid (((Below.refl B w).grown hgrow (by omega) (fun k hk => (hown.lt k hk).1)).setCell (p := ⟨b, 1, none⟩) hB _)
  have HK : Hid (∀ k, N ≤ k → k < w.heap.size → (w2.setCell ⟨b, 1, none⟩ (.slice ao n' cap)).heap[k]? = w.heap[k]?) := Lib.hid fun k h1 h2 => by
    rw [Below.heap_setCell _ ⟨b, 1, none⟩ _ k (by show k ≠ b; omega)]
    exact hgrow.block k h2 (fun e => by have := HLT.out k e.symm; omega)
  clear hown' hgrow hb2 hown hbk
  go_wp2
  go_ret2
  exact ⟨rfl, HF.out, HBL.out, HK.out⟩
end Go.Proofs.Ytcdkooebhpfknaa.Rx
namespace Go.Proofs.Ytcdkooebhpfknaa.Rx
open Go.RowKit Go.Proofs.YtcdkooebhpfknaaW.PrintWords Go.Proofs.YtcdkooebhpfknaaW.PrintLast Go.Proofs.YtcdkooebhpfknaaW.PrintMore Go.Proofs.Ytcdkooebhpfknaa.PRx
set_option linter.unusedVariables false
set_option linter.unusedSimpArgs false

theorem canon_len : ∀ (rs : List S37) (m : Int), 0 ≤ m → Canon rs → (∀ r ∈ rs, m ≤ r.f0) → (rs.length : Int) ≤ max 0 (256 - m)
  | [], m, h0, hc, hm => by simp; omega
  | r :: rs, m, h0, hc, hm => by
    have b := hc.1 r (by simp)
    have hmr := hm r (by simp)
    have := canon_len rs (r.f1 + 2) (by omega) (canon_tail hc) (fun x hx => (List.pairwise_cons.mp hc.2).1 x hx)
    simp only [List.length_cons]
    omega
theorem canon_fit {rs : List S37} (h : Canon rs) : Fit rs := by
  have := canon_len rs 0 (Int.le_refl _) h (fun r hr => (h.1 r hr).1)
  exact ⟨canon_bytes h, by omega⟩
attribute [local go_sem high] eqA37
def nU (xs : List Int) : List Value := xs.map (Value.int .u8)
theorem nU_len (xs : List Int) : (nU xs).length = xs.length := by simp [nU]
theorem nU_app (xs ys : List Int) : nU (xs ++ ys) = nU xs ++ nU ys := by simp [nU]
theorem cells_of {xs : List Int} (h : ∀ x, x ∈ xs → 0 ≤ x ∧ x < 256) : Lib.strCells (strOfNums xs) = nU xs := by
  show (strOfNums xs).data.toList.map _ = _
  rw [strOfNums_data, List.map_map]
  refine List.map_congr_left fun x hx => ?_
  have := h x hx
  show Value.int .u8 ((UInt8.ofNat x.toNat).toNat : Int) = _
  rw [UInt8.toNat_ofNat']
  congr 1
  omega
theorem cells_back {xs : List Int} (h : ∀ x, x ∈ xs → 0 ≤ x ∧ x < 256) : Lib.byteCells (xs.map fun n => UInt8.ofNat n.toNat) = nU xs := cells_of h
theorem quote_rng {c : Int} (hc : 0 ≤ c ∧ c < 256) (l : List Int) : ∀ x, x ∈ quoteR c l → 0 ≤ x ∧ x < 256 := by
  intro x hx
  unfold quoteR at hx
  repeat' split at hx
  all_goals simp at hx
  all_goals omega
theorem quote_len (c : Int) (l : List Int) : (quoteR c l).length ≤ 2 := by
  unfold quoteR
  repeat' split
  all_goals simp
theorem rangeT_len (r : S37) : (rangeT r).length ≤ 5 := by
  unfold rangeT
  have h1 := quote_len r.f0 inners
  have h2 := quote_len r.f1 inners
  rw [List.length_append]
  split
  · rw [List.length_cons]; omega
  · simp; omega
theorem rangeT_rng {r : S37} (h : 0 ≤ r.f0 ∧ r.f0 < 256 ∧ 0 ≤ r.f1 ∧ r.f1 < 256) : ∀ x, x ∈ rangeT r → 0 ≤ x ∧ x < 256 := by
  intro x hx
  unfold rangeT at hx
  rcases List.mem_append.mp hx with hx | hx
  · exact quote_rng ⟨h.1, h.2.1⟩ _ x hx
  · split at hx
    · rcases List.mem_cons.mp hx with rfl | hx
      · decide
      · exact quote_rng ⟨h.2.2.1, h.2.2.2⟩ _ x hx
    · cases hx
theorem flat_rng : ∀ {L : List S37}, ByteR L → ∀ x, x ∈ L.flatMap rangeT → 0 ≤ x ∧ x < 256 := by
  intro L h x hx
  obtain ⟨r, hr, hx⟩ := List.mem_flatMap.mp hx
  exact rangeT_rng (h r hr) x hx
theorem flat_le : ∀ (L : List S37), (L.flatMap rangeT).length ≤ 5 * L.length
  | [] => Nat.le_refl _
  | r :: L => by
    have := flat_le L
    have := rangeT_len r
    simp only [List.flatMap_cons, List.length_append, List.length_cons]
    omega
theorem inn_eq : bI ⟨#[93, 94, 45, 92]⟩ = inners := rfl
theorem spec_eq : bI ⟨#[124, 40, 41, 42, 43, 63, 46, 91, 92]⟩ = specials := rfl
theorem head_of {w : World} {B n c : Nat} {A : Option Addr} {xs : List S37} (h : Kd.R k37 37 w B (fun _ => True) (.slice A n c) xs) : 0 < xs.length → ∃ g, A = some ⟨g, 0, none⟩ := fun hp => by
  obtain ⟨ad, c6, e⟩ := Kd.R_slice1 h hp
  injection e with e1 e2 e3
  subst e1
  obtain ⟨g, rfl⟩ := Kd.R_head h
  exact ⟨g, rfl⟩
/-- The first range's cells. -/
theorem first_cells {w : World} {g : Nat} {x : S37} {xs : List S37} (h : Kd.C k37 w (some ⟨g, 0, none⟩) (x :: xs).length (x :: xs)) : w.cell? ⟨g, 0, none⟩ = some (.int .u8 x.f0) ∧ w.cell? ⟨g, 1, none⟩ = some (.int .u8 x.f1) := by
  obtain ⟨ad, e, f0, f1⟩ := at_T37 h 0 (by simp) (by simp)
  injection e with e
  subst e
  have e0 : rd_T37 (x :: xs) 0 = x := rfl
  rw [e0] at f0 f1
  exact ⟨by simpa [Addr.add] using f0, by simpa [Addr.add] using f1⟩
theorem write_one {W : World} {b : Nat} {pre : List Int} {L : List S37} {k : Nat} {x : S37} (h : Lib.BuilderAt 58 5 b b (.pointer (some ⟨b, 0, none⟩)) (nU (pre ++ (L.take k).flatMap rangeT) ++ Lib.strCells (strOfNums (quoteR x.f0 inners))) W) (ht : L.take (k + 1) = L.take k ++ [x]) (hr : rangeT x = quoteR x.f0 inners) (hx : 0 ≤ x.f0 ∧ x.f0 < 256 ∧ 0 ≤ x.f1 ∧ x.f1 < 256) :
    Lib.BuilderAt 58 5 b b (.pointer (some ⟨b, 0, none⟩)) (nU (pre ++ (L.take (k + 1)).flatMap rangeT)) W := by
  rw [cells_of (quote_rng ⟨hx.1, hx.2.1⟩ _)] at h
  rw [ht, List.flatMap_append, ← List.append_assoc, nU_app, List.flatMap_cons, List.flatMap_nil, List.append_nil, hr]
  exact h
theorem write_two {W : World} {b : Nat} {pre : List Int} {L : List S37} {k : Nat} {x : S37} (h : Lib.BuilderAt 58 5 b b (.pointer (some ⟨b, 0, none⟩)) (nU (pre ++ (L.take k).flatMap rangeT) ++ Lib.strCells (strOfNums (quoteR x.f0 inners)) ++ Lib.strCells (⟨#[45]⟩ ++ strOfNums (quoteR x.f1 inners))) W) (ht : L.take (k + 1) = L.take k ++ [x]) (hr : rangeT x = quoteR x.f0 inners ++ 45 :: quoteR x.f1 inners) (hx : 0 ≤ x.f0 ∧ x.f0 < 256 ∧ 0 ≤ x.f1 ∧ x.f1 < 256) :
    Lib.BuilderAt 58 5 b b (.pointer (some ⟨b, 0, none⟩)) (nU (pre ++ (L.take (k + 1)).flatMap rangeT)) W := by
  have e : (⟨#[45]⟩ : ByteArray) ++ strOfNums (quoteR x.f1 inners) = strOfNums (45 :: quoteR x.f1 inners) := by rw [show (45 :: quoteR x.f1 inners : List Int) = [45] ++ quoteR x.f1 inners from rfl, strs_app]; rfl
  rw [e, cells_of (quote_rng ⟨hx.1, hx.2.1⟩ _), cells_of (fun y hy => by
    rcases List.mem_cons.mp hy with rfl | hy
    · decide
    · exact quote_rng ⟨hx.2.2.1, hx.2.2.2⟩ _ y hy), ← nU_app, ← nU_app] at h
  rw [ht, List.flatMap_append, List.flatMap_cons, List.flatMap_nil, List.append_nil, hr]
  simpa using h
theorem cond1 {a : List S37} {x : S37} (h : a = [x]) (b : Bool) (hb : decide (x.f0 = x.f1) = b) : decide (a.length = 1 ∧ (a.headD z37).f0 = (a.headD z37).f1) = b := by
  subst h; simpa using hb

set_option maxHeartbeats 600000 in
set_option maxRecDepth 100000 in
theorem setText_any {w : World} {A : Option Addr} {c : Nat} {rs : List S37} (hl : rs.length ≤ c) (hC : Kd.C k37 w A rs.length rs) (hf : Fit rs) : Calls Try.prog 18 #[.slice A rs.length c] w (Says w (setT rs)) := by
  have hca := (rg_canon false hf.1).1
  have hR := ranges_any false hl hC hf
  have hT : setT rs = setTxt (rg false rs) (rg true (rg false rs)) := rfl
  obtain ⟨a, ha⟩ : ∃ a, a = rg false rs := ⟨_, rfl⟩
  rw [← ha] at hca hR hT
  have hco := (rg_canon true (canon_bytes hca)).1
  have hR2 : ∀ (w1 : World) (A1 : Option Addr) (n1 c1 : Nat), n1 = a.length → a.length ≤ c1 → Kd.C k37 w1 A1 a.length a → Calls Try.prog 22 #[.slice A1 n1 c1, .bool true] w1 fun e w' => ∃ v, e = .returned v ∧ Kd.R k37 37 w' w1.heap.size (fun _ => True) v (rg true a) ∧ Below w1.heap.size w1 w' := fun w1 A1 n1 c1 h0 h1 h2 => by rw [h0]; exact ranges_any true h1 h2 (canon_fit hca)
  obtain ⟨o, ho⟩ : ∃ o, o = rg true a := ⟨_, rfl⟩
  rw [← ho] at hco hR2 hT
  have HR := Lib.hid hR
  have HR2 := Lib.hid hR2
  have HT := Lib.hid hT
  have HFA := Lib.hid (canon_fit hca)
  have HFO := Lib.hid (canon_fit hco)
  have HCA := Lib.hid hca
  clear hca hR hT ha hco hR2 ho hC hf hl
  go_enter Try.func18, Try.ntmps18
  go_upto_region 3 with (first
    | (go_at_call 22; (with_reducible refine HR.out.mono ?_); rintro e w1 ⟨v, rfl, hr, hb⟩; (obtain ⟨A1, n1, c1, rfl⟩ : ∃ A n c, v = .slice A n c := by obtain ⟨A, c, e⟩ := Kd.R_slice hr; exact ⟨A, _, c, e⟩); (obtain ⟨hn1, l1, g1⟩ := Kd.R_reads' hr); (rw [hn1] at l1); have HN1 := Lib.hid hn1; have HB1 := Lib.hid hb; have HG1 := Lib.hid (head_of hr); have HL1 := Lib.hid l1; have HC1 := Lib.hid g1; clear hr hb l1 g1 hn1)
    | (go_at_call 22; (with_reducible refine (HR2.out _ _ _ _ HN1.out HL1.out HC1.out).mono ?_); rintro e w2 ⟨v, rfl, hr, hb⟩; (obtain ⟨A2, n2, c2, rfl⟩ : ∃ A n c, v = .slice A n c := by obtain ⟨A, c, e⟩ := Kd.R_slice hr; exact ⟨A, _, c, e⟩); (obtain ⟨hn2, l2, g2⟩ := Kd.R_reads' hr); (rw [hn2] at l2); have HN2 := Lib.hid hn2; have HC12 := Lib.hid (Kd.C_below HC1.out hb); have HB2 := Lib.hid (HB1.out.trans (hb.mono HB1.out.size)); have HG2 := Lib.hid (head_of hr); have HL2 := Lib.hid l2; have HC2 := Lib.hid g2; clear hr hb l2 g2 hn2))
  go_cut [11] (fun s11 wc => ∃ tb : Bool, s11 = .bool tb ∧ Hid (tb = decide (a.length = 1 ∧ (a.headD z37).f0 = (a.headD z37).f1)) ∧ ∃ n, wc = w2.drewN n)
  case first =>
    cases hq : a with
    | nil =>
      subst hq
      have g0 : ((n1 : Int) == 1) = false := by have := HN1.out; simp at this; simp; omega
      go_quiet (fail)
      go_wp2
      go_meet
      exact ⟨_, rfl, Lib.hid (by simp), _, rfl⟩
    | cons x a' =>
      subst hq
      obtain ⟨g1, rfl⟩ := HG1.out (by simp)
      obtain ⟨f0, f1⟩ := first_cells HC12.out
      cases a' with
      | nil =>
        have g0 : ((n1 : Int) == 1) = true := by have := HN1.out; simp at this; simp; omega
        have g3 : (0 : Int) < (n1 : Int) := by have := HN1.out; simp at this; omega
        by_cases hx : x.f0 = x.f1
        · have g2 : (x.f0 == x.f1) = true := by simpa using hx
          have HX : Hid (decide ([x].length = 1 ∧ ([x].headD z37).f0 = ([x].headD z37).f1) = true) := Lib.hid (by simpa using hx)
          clear hx
          go_quiet (fail)
          go_wp2
          go_meet
          exact ⟨_, rfl, Lib.hid HX.out.symm, _, rfl⟩
        · have g2 : (x.f0 == x.f1) = false := by simpa using hx
          have HX : Hid (decide ([x].length = 1 ∧ ([x].headD z37).f0 = ([x].headD z37).f1) = false) := Lib.hid (by simpa using hx)
          clear hx
          go_quiet (fail)
          go_wp2
          go_meet
          exact ⟨_, rfl, Lib.hid HX.out.symm, _, rfl⟩
      | cons y a' =>
        have g0 : ((n1 : Int) == 1) = false := by have := HN1.out; simp at this; simp; omega
        have HX : Hid (decide ((x :: y :: a').length = 1 ∧ ((x :: y :: a').headD z37).f0 = ((x :: y :: a').headD z37).f1) = false) := Lib.hid (by simp)
        go_quiet (fail)
        go_wp2
        go_meet
        exact ⟨_, rfl, Lib.hid HX.out.symm, _, rfl⟩
  case rest =>
    obtain ⟨tb, rfl, HTB, nq, rfl⟩ := hcut
    have HC3 : Hid (Kd.C k37 (w2.drewN nq) A1 a.length a) := Lib.hid (Kd.C_below HC12.out ((Kpt.refl w2).drewN nq))
    have HC4 : Hid (Kd.C k37 (w2.drewN nq) A2 o.length o) := Lib.hid (Kd.C_below HC2.out ((Kpt.refl w2).drewN nq))
    have HB3 : Hid (Kpt w (w2.drewN nq)) := Lib.hid (Kpt.drewN HB2.out nq)
    generalize w2.drewN nq = w3 at HC3 HC4 HB3 ⊢
    clear HC12 HC2 HB2 HB1 HC1 HR HR2
    cases tb with
    | true =>
      obtain ⟨h1, h2⟩ : a.length = 1 ∧ (a.headD z37).f0 = (a.headD z37).f1 := of_decide_eq_true HTB.out.symm
      obtain ⟨x, rfl⟩ := List.length_eq_one_iff.mp h1
      obtain ⟨g1, rfl⟩ := HG1.out (by simp)
      obtain ⟨f0, f1⟩ := first_cells HC3.out
      have HE : Hid (setT rs = quoteR x.f0 specials) := Lib.hid (by rw [HT.out, setTxt, if_pos ⟨h1, h2⟩]; rfl)
      have g3 : (0 : Int) < (n1 : Int) := by have := HN1.out; simp at this; omega
      have hq := quoted_any x.f0 (by have := HFA.out.1 x (by simp); omega) ⟨#[124, 40, 41, 42, 43, 63, 46, 91, 92]⟩
      rw [spec_eq] at hq
      have HQ := Lib.hid hq
      clear h1 h2 hq HTB
      go_wp2_with (first
        | (go_at_call 23; refine (HQ.out _).mono ?_; rintro e w4 ⟨rfl, hk⟩; have HK := Lib.hid hk; clear hk))
      go_ret
      exact ⟨ret_str (by rw [HE.out]), HB3.out.trans HK.out⟩
    | false =>
      have HNO1 : Hid (¬ (a.length = 1 ∧ (a.headD z37).f0 = (a.headD z37).f1)) := Lib.hid (of_decide_eq_false HTB.out.symm)
      clear HTB
      go_upto_region 5 with fail
      go_cut [31] (fun s31 wc => ∃ tb : Bool, s31 = .bool tb ∧ Hid (tb = decide (o.length = 1 ∧ (o.headD z37).f0 = 10 ∧ (o.headD z37).f1 = 10)) ∧ w3 = wc)
      case first =>
        cases hq : o with
        | nil =>
          subst hq
          have g0 : ((n2 : Int) == 1) = false := by have := HN2.out; simp at this; simp; omega
          go_wp2_with fail
          go_meet
          exact ⟨_, rfl, Lib.hid (by simp), rfl⟩
        | cons x o' =>
          subst hq
          obtain ⟨g2, rfl⟩ := HG2.out (by simp)
          obtain ⟨f0, f1⟩ := first_cells HC4.out
          cases o' with
          | nil =>
            have g0 : ((n2 : Int) == 1) = true := by have := HN2.out; simp at this; simp; omega
            have g3 : (0 : Int) < (n2 : Int) := by have := HN2.out; simp at this; omega
            have HX : Hid (decide ([x].length = 1 ∧ ([x].headD z37).f0 = 10 ∧ ([x].headD z37).f1 = 10) = (x.f0 == 10 && x.f1 == 10)) := Lib.hid (by simp; rw [Bool.eq_iff_iff]; simp)
            go_wp2_with fail
            go_meet
            exact ⟨_, rfl, Lib.hid HX.out.symm, rfl⟩
          | cons y o' =>
            have g0 : ((n2 : Int) == 1) = false := by have := HN2.out; simp at this; simp; omega
            have HX : Hid (decide ((x :: y :: o').length = 1 ∧ ((x :: y :: o').headD z37).f0 = 10 ∧ ((x :: y :: o').headD z37).f1 = 10) = false) := Lib.hid (by simp)
            go_wp2_with fail
            go_meet
            exact ⟨_, rfl, Lib.hid HX.out.symm, rfl⟩
      case rest =>
        obtain ⟨tb, rfl, HTB, rfl⟩ := hcut
        cases tb with
        | true =>
          have HE : Hid (setT rs = [46]) := Lib.hid (by rw [HT.out, setTxt, if_neg HNO1.out, if_pos (of_decide_eq_true HTB.out.symm)])
          clear HTB
          go_wp2_with fail
          go_ret
          exact ⟨ret_str (by rw [HE.out]; rfl), HB3.out⟩
        | false =>
          have HNO2 : Hid (¬ (o.length = 1 ∧ (o.headD z37).f0 = 10 ∧ (o.headD z37).f1 = 10)) := Lib.hid (of_decide_eq_false HTB.out.symm)
          clear HTB
          by_cases h0 : a.length = 0
          · have g0 : ((n1 : Int) == 0) = true := by have := HN1.out; simp; omega
            have HE : Hid (setT rs = [91, 94, 0, 45, 255, 93]) := Lib.hid (by rw [HT.out, setTxt, if_neg HNO1.out, if_neg HNO2.out, if_pos h0])
            clear h0
            go_wp2_with fail
            go_ret
            exact ⟨ret_str (by rw [HE.out]; rfl), HB3.out⟩
          · have g0 : ((n1 : Int) == 0) = false := by have := HN1.out; simp; omega
            have HNO3 := Lib.hid h0
            clear h0
            have hb0 : Lib.IsBuilder 58 5 w3.heap.size w3.heap.size [] (w3.alloc (.cells #[.pointer none, .slice none 0 0] 58)) := Lib.fresh_isBuilder 58 5 w3
            have HW1 := Lib.hid (Bld.writeByte w3.heap.size w3.heap.size [] 91 _ hb0 (by simp) (by simp))
            clear hb0
            go_upto_region 11 with (first
              | (go_at_call 24; refine HW1.out.mono ?_; rintro e w4 ⟨rfl, hB, hb⟩; (have HB4 := Lib.hid hB; have HW4 := Lib.hid (((Below.refl w3.heap.size w3).alloc (Nat.le_refl _) _).trans hb); clear hB hb HW1)))
            go_cut [56] (fun s56 wc => ∃ tb : Bool, s56 = .bool tb ∧ Hid (tb = decide (0 < o.length ∧ o.length < a.length)) ∧ w4 = wc)
            case first =>
              by_cases h1 : 0 < o.length
              · have g1 : decide ((n2 : Int) > 0) = true := by have := HN2.out; simp; omega
                have g2 : decide (0 < n2) = true := by have := HN2.out; simp; omega
                by_cases h2 : o.length < a.length
                · have g3 : decide (n2 < n1) = true := by have := HN2.out; have := HN1.out; simp; omega
                  have HX : Hid (decide (0 < o.length ∧ o.length < a.length) = true) := Lib.hid (by simp [h1, h2])
                  clear h1 h2
                  go_wp2_with fail
                  go_meet
                  exact ⟨_, rfl, Lib.hid HX.out.symm, rfl⟩
                · have g3 : decide (n2 < n1) = false := by have := HN2.out; have := HN1.out; simp; omega
                  have HX : Hid (decide (0 < o.length ∧ o.length < a.length) = false) := Lib.hid (by simp [h2])
                  clear h1 h2
                  go_wp2_with fail
                  go_meet
                  exact ⟨_, rfl, Lib.hid HX.out.symm, rfl⟩
              · have g1 : decide ((n2 : Int) > 0) = false := by have := HN2.out; simp; omega
                have g2 : decide (0 < n2) = false := by have := HN2.out; simp; omega
                have HX : Hid (decide (0 < o.length ∧ o.length < a.length) = false) := Lib.hid (by simp [h1])
                clear h1
                go_wp2_with fail
                go_meet
                exact ⟨_, rfl, Lib.hid HX.out.symm, rfl⟩
            case rest =>
              obtain ⟨tb, rfl, HTB, rfl⟩ := hcut
              go_upto_if 56 with fail
              go_cut [0] (fun s0 wc => ∃ (AL : Option Addr) (nL cL : Nat) (L : List S37) (pre : List Int), s0 = .slice AL nL cL ∧ Hid (nL = L.length ∧ Fit L ∧ setT rs = pre ++ L.flatMap rangeT ++ [93] ∧ pre.length ≤ 2 ∧ ∀ x, x ∈ pre → 0 ≤ x ∧ x < 256) ∧ Hid (Kd.C k37 w3 AL L.length L) ∧ Hid (Lib.BuilderAt 58 5 w3.heap.size w3.heap.size (.pointer (some ⟨w3.heap.size, 0, none⟩)) (nU pre) wc) ∧ Hid (Below w3.heap.size w3 wc))
              case first =>
                cases tb with
                | true =>
                  have HE : Hid (setT rs = [91, 94] ++ o.flatMap rangeT ++ [93]) := Lib.hid (by rw [HT.out, setTxt, if_neg HNO1.out, if_neg HNO2.out, if_neg HNO3.out, if_pos (of_decide_eq_true HTB.out.symm)]; rfl)
                  have HW2 := Lib.hid (Bld.writeByte w3.heap.size w3.heap.size _ 94 _ (.inr HB4.out) (by simp) HW4.out.size)
                  clear HTB
                  go_wp2_with (first
                    | (go_at_call 24; refine HW2.out.mono ?_; rintro e w5 ⟨rfl, hB, hb⟩; (have HB5 := Lib.hid hB; have HW5 := Lib.hid (HW4.out.trans hb); clear hB hb HW2)))
                  go_meet
                  exact ⟨A2, n2, c2, o, [91, 94], rfl, Lib.hid ⟨HN2.out, HFO.out, HE.out, by decide, by decide⟩, HC4, HB5, HW5⟩
                | false =>
                  have HE : Hid (setT rs = [91] ++ a.flatMap rangeT ++ [93]) := Lib.hid (by rw [HT.out, setTxt, if_neg HNO1.out, if_neg HNO2.out, if_neg HNO3.out, if_neg (of_decide_eq_false HTB.out.symm)]; rfl)
                  clear HTB
                  go_wp2_with fail
                  go_meet
                  exact ⟨A1, n1, c1, a, [91], rfl, Lib.hid ⟨HN1.out, HFA.out, HE.out, by decide, by decide⟩, HC3, HB4, HW4⟩
              case rest =>
                obtain ⟨AL, nL, cL, L, pre, rfl, HF, HCL, HBP, HWP⟩ := hcut
                rename_i wc
                clear HB4 HW4 HC3 HC4 HNO1 HNO2 HNO3 HFA HFO HCA HL1 HL2 HN1 HN2 HG1 HG2 HT HTB
                go_wp2_with fail
                go_loopg [61] (L.length + 1) (fun kq v61 wr => ∃ k : Nat, v61 = .int .i64 (k : Int) ∧ k ≤ L.length ∧ Hid (Lib.BuilderAt 58 5 w3.heap.size w3.heap.size (.pointer (some ⟨w3.heap.size, 0, none⟩)) (nU (pre ++ (L.take k).flatMap rangeT)) wr) ∧ Hid (Below w3.heap.size w3 wr) ∧ Hid (L.length - k < kq))
                case atStart => exact ⟨0, rfl, Nat.zero_le _, by simpa using HBP, HWP, Lib.hid (by omega)⟩
                case round =>
                  obtain ⟨k, rfl, hk, HB6, HW6, HQ⟩ := hrel
                  by_cases hlt : k < L.length
                  · have HLT := Lib.hid hlt
                    have hin := rd_in L k hlt
                    have htk := take_rd L k hlt
                    obtain ⟨ad, rfl, f0, f1⟩ := at_T37 (Kd.C_below HCL.out HW6.out) (k : Int) (by omega) (by omega)
                    have hkn : (k : Int) < (nL : Int) := by have := HF.out.1; omega
                    obtain ⟨x, hx⟩ : ∃ x, rd_T37 L (k : Int) = x := ⟨_, rfl⟩
                    rw [hx] at f0 f1 hin htk
                    have hxr := HF.out.2.1.1 x hin
                    have HTK := Lib.hid htk
                    clear hx hin htk
                    simp only [Int.toNat_natCast] at f0 f1
                    have HXR := Lib.hid hxr
                    have hq0 := quoted_any x.f0 ⟨hxr.1, hxr.2.1⟩ ⟨#[93, 94, 45, 92]⟩
                    have hq1 := quoted_any x.f1 ⟨hxr.2.2.1, hxr.2.2.2⟩ ⟨#[93, 94, 45, 92]⟩
                    rw [inn_eq] at hq0 hq1
                    have HQ0 := Lib.hid hq0
                    have HQ1 := Lib.hid hq1
                    have hs0 : ((strOfNums (quoteR x.f0 inners)).size : Int) ≤ 2 := by rw [strOfNums_size]; have := quote_len x.f0 inners; omega
                    have hs1 : ((strOfNums (quoteR x.f1 inners)).size : Int) ≤ 2 := by rw [strOfNums_size]; have := quote_len x.f1 inners; omega
                    have HBU := Lib.hid ((Bu.of HB6.out).below ((Below.refl wr.heap.size wr).alloc (Nat.le_refl _) (.cells #[.int .u8 x.f0, .int .u8 x.f1] 37)))
                    have hbl : (nU (pre ++ (L.take k).flatMap rangeT)).length ≤ 6000 := by
                      have h1 := flat_le (L.take k)
                      have h2 : (L.take k).length ≤ k := List.length_take_le _ _
                      have h3 := HF.out.2.1.2
                      have h4 := HF.out.2.2.2.1
                      rw [nU_len, List.length_append]
                      omega
                    have HBL := Lib.hid hbl
                    clear hxr hq0 hq1 hbl hlt
                    go_upto_region 18 with (first
                      | (go_at_call 23; (with_reducible refine (HQ0.out _).mono ?_); rintro e w7 ⟨rfl, hk⟩; (have HK7 := Lib.hid hk; have HW7 := Lib.hid (Below.trans (HW6.out.alloc HW6.out.size (.cells #[.int .u8 x.f0, .int .u8 x.f1] 37)) (Below.mono hk (by have := HW6.out.size; rw [al_size]; omega))); have HU7 := Lib.hid (HBU.out.below hk); clear hk))
                      | (go_at_call 25; refine (writeS w3.heap.size w3.heap.size wr.heap.size _ _ _ HU7.out (by have := HBL.out; rw [strOfNums_size]; have := quote_len x.f0 inners; omega)).mono ?_; rintro e w8 ⟨rfl, hB, hb, hh⟩; (have HB8 := Lib.hid hB; have HW8 := Lib.hid (HW7.out.trans hb)); (have y1 := (hh wr.heap.size (Nat.le_refl _) (Nat.lt_of_lt_of_le (by rw [al_size]; exact Nat.lt_succ_self _) HK7.out.size)).trans (HK7.out.blk (blk_new wr _))); (have k0 := blk_cell y1 0); (have k1 := blk_cell y1 1); (simp only [List.getElem?_toArray, List.getElem?_cons_zero, List.getElem?_cons_succ] at k0 k1); (have Y1 := Lib.hid y1); clear hB hb hh y1))
                    by_cases hh : x.f0 < x.f1
                    · have g1 : decide (x.f0 < x.f1) = true := by simpa using hh
                      have g2 : decide (x.f1 > x.f0) = true := by simpa using hh
                      have HRT : Hid (rangeT x = quoteR x.f0 inners ++ 45 :: quoteR x.f1 inners) := Lib.hid (by unfold rangeT; rw [if_pos hh])
                      clear hh
                      go_wp2_with (first
                        | (go_at_call 23; (with_reducible refine (HQ1.out _).mono ?_); rintro e w9 ⟨rfl, hk⟩; (have HW9 := Lib.hid (Below.trans HW8.out (Below.mono hk HW8.out.size)); have HU9 := Lib.hid ((Bu.of HB8.out).below hk); clear hk))
                        | (go_at_call 25; refine (writeS w3.heap.size w3.heap.size _ _ _ _ HU9.out (by have := HBL.out; simp only [List.length_append, Lib.strCells_length, ByteArray.size_append, strOfNums_size]; have := quote_len x.f0 inners; have := quote_len x.f1 inners; have e : (⟨#[45]⟩ : ByteArray).size = 1 := rfl; omega)).mono ?_; rintro e w10 ⟨rfl, hB, hb, hh⟩; (have HB10 := Lib.hid hB; have HW10 := Lib.hid (HW9.out.trans hb)); clear hB hb hh))
                      go_roundg (L.length - k)
                      case measure => have := HQ.out; omega
                      case rel => exact ⟨k + 1, wrap_succ k (by have := HLT.out; have := HF.out.2.1.2; omega), HLT.out, Lib.hid (write_two HB10.out HTK.out HRT.out HXR.out), HW10, Lib.hid (by have := HLT.out; omega)⟩
                    · have g1 : decide (x.f0 < x.f1) = false := by simpa using hh
                      have g2 : decide (x.f1 > x.f0) = false := by simpa using hh
                      have HRT : Hid (rangeT x = quoteR x.f0 inners) := Lib.hid (by unfold rangeT; rw [if_neg hh, List.append_nil])
                      clear hh
                      go_wp2_with fail
                      go_roundg (L.length - k)
                      case measure => have := HQ.out; omega
                      case rel => exact ⟨k + 1, wrap_succ k (by have := HLT.out; have := HF.out.2.1.2; omega), HLT.out, Lib.hid (write_one HB8.out HTK.out HRT.out HXR.out), HW8, Lib.hid (by have := HLT.out; omega)⟩
                  · obtain rfl : k = L.length := by omega
                    rw [List.take_length] at HB6
                    have HLX : Hid (pre ++ L.flatMap rangeT = pre ++ L.flatMap rangeT) := Lib.hid rfl
                    have hby : ∀ x, x ∈ pre ++ L.flatMap rangeT → 0 ≤ x ∧ x < 256 := fun x hx => by
                      rcases List.mem_append.mp hx with hx | hx
                      · exact HF.out.2.2.2.2 x hx
                      · exact flat_rng HF.out.2.1.1 x hx
                    have HBY := Lib.hid hby
                    have HBQ : Hid (Lib.BuilderAt 58 5 w3.heap.size w3.heap.size (.pointer (some ⟨w3.heap.size, 0, none⟩)) (Lib.byteCells ((pre ++ L.flatMap rangeT).map fun n : Int => UInt8.ofNat n.toNat)) wr) := Lib.hid (by rw [cells_back hby]; exact HB6.out)
                    have hsz : ((strOfNums (pre ++ L.flatMap rangeT)).size : Int) ≤ 6000 := by
                      rw [strOfNums_size]
                      have h1 := flat_le L
                      have h3 := HF.out.2.1.2
                      have h4 := HF.out.2.2.2.1
                      rw [List.length_append]; omega
                    have HS : Hid (Calls Try.prog 26 #[.pointer (some ⟨w3.heap.size, 0, none⟩)] wr fun e w' => e = .returned (.string (strOfNums (pre ++ L.flatMap rangeT))) ∧ Below w3.heap.size wr w') := Lib.hid (Try.Builder_String_any w3.heap.size w3.heap.size ((pre ++ L.flatMap rangeT).map fun n : Int => UInt8.ofNat n.toNat) wr (.inr HBQ.out) HW6.out.size)
                    obtain ⟨str, hstr⟩ : ∃ str, str = strOfNums (pre ++ L.flatMap rangeT) := ⟨_, rfl⟩
                    rw [← hstr] at HS hsz
                    have HSTR := Lib.hid hstr
                    have hnn : decide (L.length < nL) = false := by have := HF.out.1; simp; omega
                    clear hby hlt hk hstr
                    go_wp2_with (first
                      | (go_at_call 26; refine HS.out.mono ?_; rintro e w7 ⟨rfl, hb⟩; (have HW7 := Lib.hid (HW6.out.trans hb); clear hb)))
                    go_ret
                    exact ⟨ret_str (by rw [HF.out.2.2.1, strs_app (pre ++ L.flatMap rangeT), ← HSTR.out]; rfl), HB3.out.trans HW7.out⟩
end Go.Proofs.Ytcdkooebhpfknaa.Rx
