/- rex.within: a kid's text, in ( ) if it is of some kinds; over Text's contract. rex.Text. -/
import Derived.Test.YtcdkooebhpfknaaMi
import Derived.Test.YtcdkooebhpfknaaMj
import Derived.Test.YtcdkooebhpfknaaMg
import Derived.Deep.RegionHeld3
namespace Go.Proofs.Ytcdkooebhpfknaa.Rx
open Go.RowKit Go.Proofs.YtcdkooebhpfknaaW.PrintWords Go.Proofs.YtcdkooebhpfknaaW.PrintLast Go.Proofs.YtcdkooebhpfknaaW.PrintMore Go.Proofs.Ytcdkooebhpfknaa.PRx
set_option linter.unusedVariables false
set_option linter.unusedSimpArgs false

def ints (l : List Int) : Array Value := (l.map (Value.int .i64)).toArray
theorem ints_get {l : List Int} {k : Nat} (h : k < l.length) : (ints l)[k]? = some (.int .i64 l[k]) := by simp [ints, h]
/-- What Text answers at a tree that is read. -/
def TOk (t : S26) : Prop := ∀ (w : World) (v : Value), TC w v t → Calls Try.prog 12 #[v] w (Says w (textR t))
def inT (ks : List Int) (y : S26) : List Int := if y.f0 ∈ ks then 40 :: (textR y ++ [41]) else textR y
theorem paren_str (xs : List Int) : (⟨#[40]⟩ : ByteArray) ++ strOfNums xs ++ ⟨#[41]⟩ = strOfNums (40 :: (xs ++ [41])) := by
  rw [show (40 :: (xs ++ [41]) : List Int) = [40] ++ xs ++ [41] by simp, strs_app, strs_app]; rfl
set_option maxHeartbeats 2000000 in
set_option maxRecDepth 100000 in
theorem within_any (w : World) (v : Value) (y : S26) (ks : List Int) (g : Nat) (hg : w.heap[g]? = some (.cells (ints ks) 3 (0, 0))) (hks : ks.length ≤ 2) (hT : TC w v y) (hsz : (textR y).length ≤ 1000000) (HT : TOk y) :
    Calls Try.prog 17 #[v, .slice (some ⟨g, 0, none⟩) ks.length ks.length] w (Says w (inT ks y)) := by
  have hTC := hT.alloc
  obtain ⟨A1, c1, A2, c2, rfl, _⟩ := hT
  obtain ⟨res, hres⟩ : ∃ r, inT ks y = r := ⟨_, rfl⟩
  rw [hres]
  have HR := Lib.hid hres
  obtain ⟨k0, hk0⟩ : ∃ k, k = y.f0 := ⟨_, rfl⟩
  have HK0 := Lib.hid hk0
  obtain ⟨m1, hm1⟩ : ∃ m, m = y.f1.length := ⟨_, rfl⟩
  obtain ⟨m2, hm2⟩ : ∃ m, m = y.f2.length := ⟨_, rfl⟩
  have hTC' := hTC (.cells #[.int .i64 y.f0, .slice A1 y.f1.length c1, .slice A2 y.f2.length c2] 26)
  rw [← hk0, ← hm1, ← hm2] at hTC' ⊢
  have hct := HT (w.alloc (.cells #[.int .i64 k0, .slice A1 m1 c1, .slice A2 m2 c2] 26)) _ hTC'
  obtain ⟨str, hstr⟩ : ∃ str, str = strOfNums (textR y) := ⟨_, rfl⟩
  have hct2 : Calls Try.prog 12 #[.agg #[.int .i64 k0, .slice A1 m1 c1, .slice A2 m2 c2]] (w.alloc (.cells #[.int .i64 k0, .slice A1 m1 c1, .slice A2 m2 c2] 26)) fun e w' => e = .returned (.string str) ∧ Kpt (w.alloc (.cells #[.int .i64 k0, .slice A1 m1 c1, .slice A2 m2 c2] 26)) w' := by rw [hstr]; exact hct
  have HCT := Lib.hid hct2
  have hs : (str.size : Int) ≤ 1000000 := by rw [hstr, strOfNums_size]; omega
  have HSTR := Lib.hid hstr
  have HG := Lib.hid (blk_alloc hg (.cells #[.int .i64 k0, .slice A1 m1 c1, .slice A2 m2 c2] 26))
  have hlt : g < w.heap.size := blk_lt hg
  clear hres hk0 hm1 hm2 hTC hTC' hct hct2 hstr hg hsz HT
  go_enter Try.func17, Try.ntmps17
  go_wp2_with fail
  go_loop [9] (fun i => ∃ k : Nat, k ≤ ks.length ∧ i = .int .i64 k ∧ Hid (∀ j (h : j < ks.length), j < k → ks[j] ≠ k0)) (fun i => ks.length - (intOf i).toNat)
  case atStart => exact ⟨0, Nat.zero_le _, rfl, Lib.hid (fun j _ h => absurd h (Nat.not_lt_zero j))⟩
  case round =>
    obtain ⟨k, hk, rfl, HNO⟩ := hrel
    by_cases hkn : k < ks.length
    · have hcell : (w.alloc (.cells #[.int .i64 k0, .slice A1 m1 c1, .slice A2 m2 c2] 26)).cell? ⟨g, k, none⟩ = some (.int .i64 ks[k]) := (blk_cell HG.out k).trans (ints_get hkn)
      by_cases he : ks[k] = k0
      · have hmem : k0 ∈ ks := by rw [← he]; exact List.getElem_mem hkn
        have e1 : (k0 == ks[k]) = true := by simp [he]
        have HMEM := Lib.hid hmem
        clear he hmem
        go_wp2_with (first
          | (go_at_call 12; (with_reducible refine HCT.out.mono ?_); rintro e w2 ⟨rfl, hb⟩; (have HB2 := Lib.hid hb; clear hb)))
        go_ret
        exact ⟨ret_str (by rw [← HR.out, inT, if_pos (by rw [← HK0.out]; exact HMEM.out), ← paren_str, HSTR.out]), ((Kpt.refl w).alloc _).trans HB2.out⟩
      · have e1 : (k0 == ks[k]) = false := by simp; exact fun c => he c.symm
        have HE := Lib.hid he
        go_wp2_with fail
        go_round
        case rel =>
          refine ⟨k + 1, by omega, by go_num, Lib.hid (fun j hj hjk => ?_)⟩
          by_cases c1 : j < k
          · exact HNO.out j hj c1
          · obtain rfl : j = k := by omega
            exact HE.out
        case measure => simp [intOf]; omega
    · obtain rfl : k = ks.length := by omega
      have hno : k0 ∉ ks := fun hm => by obtain ⟨j, hj, e⟩ := List.getElem_of_mem hm; exact HNO.out j hj hj e
      have HNM := Lib.hid hno
      clear hno
      go_wp2_with (first
        | (go_at_call 12; (with_reducible refine HCT.out.mono ?_); rintro e w2 ⟨rfl, hb⟩; (have HB2 := Lib.hid hb; clear hb)))
      go_ret
      exact ⟨ret_str (by rw [← HR.out, inT, if_neg (by rw [← HK0.out]; exact HNM.out), HSTR.out]), ((Kpt.refl w).alloc _).trans HB2.out⟩
end Go.Proofs.Ytcdkooebhpfknaa.Rx
namespace Go.Proofs.Ytcdkooebhpfknaa.Rx
open Go.RowKit Go.Proofs.YtcdkooebhpfknaaW.PrintWords Go.Proofs.YtcdkooebhpfknaaW.PrintLast Go.Proofs.YtcdkooebhpfknaaW.PrintMore Go.Proofs.Ytcdkooebhpfknaa.PRx
set_option linter.unusedVariables false
set_option linter.unusedSimpArgs false

def kindsT (k : Int) : List Int := if k = 3 then [3] else [3, 2]
theorem partsT_in (k : Int) : ∀ ks : List S26, partsT k ks = ks.map (inT (kindsT k))
  | [] => by simp [partsT]
  | x :: xs => by
    rw [partsT, partsT_in k xs, List.map_cons]
    congr 1
    unfold inT kindsT
    by_cases h : k = 3 <;> simp [h]
def strV (l : List (List Int)) : List Value := l.map fun xs => Value.string (strOfNums xs)
theorem strV_app (a b : List (List Int)) : strV (a ++ b) = strV a ++ strV b := by simp [strV]
theorem in_len (ks : List Int) (y : S26) : (textR y).length ≤ (inT ks y).length := by
  unfold inT
  split
  · simp only [List.length_cons, List.length_append, List.length_nil]; omega
  · exact Nat.le_refl _
theorem join_mem : ∀ {l : List (List Int)} {x : List Int}, x ∈ l → x.length ≤ (joinT l).length
  | [], x, h => by cases h
  | [y], x, h => by
    obtain rfl := List.mem_singleton.mp h
    exact Nat.le_refl _
  | y :: z :: l, x, h => by
    show x.length ≤ (y ++ 124 :: joinT (z :: l)).length
    rw [List.length_append, List.length_cons]
    rcases List.mem_cons.mp h with rfl | h
    · omega
    · have := join_mem h; omega
theorem flat_mem {l : List (List Int)} {x : List Int} (h : x ∈ l) : x.length ≤ l.flatten.length := by
  induction l with
  | nil => cases h
  | cons y l ih =>
    rw [List.flatten_cons, List.length_append]
    rcases List.mem_cons.mp h with rfl | h
    · omega
    · have := ih h; omega
/-- A part is no longer than the whole. -/
theorem part_len {t : S26} (hT : Tr t) {x : List Int} (hx : x ∈ partsT t.f0 t.f2) : x.length ≤ (textR t).length := by
  cases hT with
  | @set rs h =>
    have e : partsT 1 [] = [] := by simp [partsT]
    rw [show partsT (⟨1, rs, []⟩ : S26).f0 (⟨1, rs, []⟩ : S26).f2 = [] from e] at hx
    cases hx
  | @cat ks h =>
    have e : textR ⟨2, [], ks⟩ = (partsT 2 ks).flatten := by rw [textR, if_neg (by decide), if_pos rfl]
    rw [e]; exact flat_mem hx
  | @alt ps h2 h hc =>
    have e : textR ⟨3, [], ps⟩ = joinT (partsT 3 ps) := by rw [textR, if_neg (by decide), if_neg (by decide), if_pos rfl]
    rw [e]; exact join_mem hx
  | @sign k u hk h =>
    rw [text_sign u hk]
    have e : partsT k [u] = [pieceT u] := partsT_map k [u] (by omega)
    rw [show partsT (⟨k, [], [u]⟩ : S26).f0 (⟨k, [], [u]⟩ : S26).f2 = [pieceT u] from e] at hx
    obtain rfl := List.mem_singleton.mp hx
    simp
theorem kid_len {t : S26} (hT : Tr t) {y : S26} (hy : y ∈ t.f2) : (textR y).length ≤ (textR t).length ∧ (inT (kindsT t.f0) y).length ≤ (textR t).length := by
  have h := part_len hT (x := inT (kindsT t.f0) y) (by rw [partsT_in]; exact List.mem_map_of_mem hy)
  exact ⟨Nat.le_trans (in_len _ y) h, h⟩
theorem pieces_pos : ∀ {ks : List S26}, (∀ x, x ∈ ks → Tr x) → ks.length ≤ (ks.map pieceT).flatten.length
  | [], _ => Nat.le_refl _
  | x :: xs, h => by
    have h1 := pieces_pos (ks := xs) (fun y hy => h y (by simp [hy]))
    obtain ⟨c, l, e, _⟩ := (round_trip _ x (Nat.le_refl _) (h x (by simp))).2.1
    rw [List.map_cons, List.flatten_cons, List.length_append, List.length_cons, e, List.length_cons]
    omega
theorem join_pos : ∀ l : List (List Int), l.length ≤ (joinT l).length + 1
  | [] => by simp [joinT]
  | [y] => by simp
  | y :: z :: l => by
    have := join_pos (z :: l)
    show _ ≤ (y ++ 124 :: joinT (z :: l)).length + 1
    rw [List.length_append, List.length_cons]
    simp only [List.length_cons] at this ⊢
    omega
theorem kids_len {t : S26} (hT : Tr t) : t.f2.length ≤ (textR t).length + 1 := by
  cases hT with
  | @set rs h => simp
  | @cat ks h => rw [text_cat]; have := pieces_pos h; show ks.length ≤ _; omega
  | @alt ps h2 h hc => rw [text_alt ps hc]; have := join_pos (ps.map textR); rw [List.length_map] at this; exact this
  | @sign k u hk h => simp
theorem take_in (k0 : Int) (ks : List S26) (k : Nat) (h : k < ks.length) : (partsT k0 ks).take (k + 1) = (partsT k0 ks).take k ++ [inT (kindsT k0) (rd_T26 ks (k : Int))] := by
  rw [rd26_get h, partsT_in]
  rw [List.take_succ_eq_append_getElem (by simpa using h)]
  simp
theorem rd26_in {ks : List S26} {k : Nat} (h : k < ks.length) : rd_T26 ks (k : Int) ∈ ks := by rw [rd26_get h]; exact List.getElem_mem h
theorem infoStr : (Try.prog.info? 9).map (fun i => (i.zero, i.size, i.bytes)) = some (some (.string ⟨#[]⟩), 1, 16) := by kernel_rfl
theorem own_form {w : World} {base : Nat} {e : TypeId} {size n : Nat} {v : Value} {xs : List Value} (h : w.ownsRow base e size v n xs) (hn : 0 < n) : ∃ g cap, v = .slice (some ⟨g, 0, none⟩) n cap := by
  rcases h.2 with ⟨_, h⟩ | ⟨g, cap, _, h, _⟩
  · omega
  · exact ⟨g, cap, h⟩
theorem own_cell {w : World} {base : Nat} {e : TypeId} {size g n cap : Nat} {xs : List Value} (h : w.ownsRow base e size (.slice (some ⟨g, 0, none⟩) n cap) n xs) {j : Nat} {u : Value} (hu : xs[j]? = some u) : w.cell? ⟨g, j, none⟩ = some u := by
  have := h.cells (g := g) rfl j u hu
  have hadd : (⟨g, 0, none⟩ : Addr).add j = ⟨g, j, none⟩ := by unfold Addr.add; split <;> simp_all
  rwa [hadd] at this
theorem own_capl {w : World} {base : Nat} {e : TypeId} {size g n cap : Nat} {xs : List Value} (h : w.ownsRow base e size (.slice (some ⟨g, 0, none⟩) n cap) n xs) : n ≤ cap ∧ cap ≤ maxLen ∧ g < w.heap.size := by
  rcases h.2 with ⟨h1, _⟩ | ⟨g', cap', cur, h1, hb, hh, hn, hm, _⟩
  · cases h1
  · injection h1 with h1 _ h2
    injection h1 with h1
    injection h1 with h1
    subst h1 h2
    exact ⟨hn, hm, blk_lt hh⟩
/-- What is known when the parts have been collected. -/
structure Txt (w wr : World) (k0 : Int) (A1 : Option Addr) (m1 c1 : Nat) (A2 : Option Addr) (m2 c2 : Nat) (t3 : Value) (k : Nat) (ps : List (List Int)) : Prop where
  row : wr.ownsRow w.heap.size 9 1 t3 k (strV ps)
  node : wr.heap[w.heap.size]? = some (.cells #[.int .i64 k0, .slice A1 m1 c1, .slice A2 m2 c2] 26 (0, 0))
  keep : Kpt w wr
theorem Txt.below {w wr w' : World} {k0 : Int} {A1 : Option Addr} {m1 c1 : Nat} {A2 : Option Addr} {m2 c2 : Nat} {t3 : Value} {k : Nat} {ps : List (List Int)} (h : Txt w wr k0 A1 m1 c1 A2 m2 c2 t3 k ps) (hb : Kpt wr w') : Txt w w' k0 A1 m1 c1 A2 m2 c2 t3 k ps :=
  ⟨pw_own_below h.row hb, blk_below h.node hb, Kpt.trans h.keep hb⟩
theorem Txt.grown {w wr w' : World} {k0 : Int} {A1 : Option Addr} {m1 c1 : Nat} {A2 : Option Addr} {m2 c2 : Nat} {t3 t3' : Value} {k k' : Nat} {ps ps' : List (List Int)} (h : Txt w wr k0 A1 m1 c1 A2 m2 c2 t3 k ps) (hr : w'.ownsRow w.heap.size 9 1 t3' k' (strV ps')) (hg : wr.grownBy w' t3.ownBlock) : Txt w w' k0 A1 m1 c1 A2 m2 c2 t3' k' ps' := by
  have hne : some w.heap.size ≠ t3.ownBlock := own_ne h.row h.node (by decide)
  exact ⟨hr, (hg.block _ (blk_lt h.node) hne).trans h.node, Below.grown h.keep hg (Below.size h.keep) (fun q hq => (h.row.lt q hq).1)⟩
def gB (n : Int) : UInt8 := UInt8.ofNat n.toNat
theorem join_flat : ∀ ps : List (List Int), Lib.join (ps.map (·.map gB)) [] = ps.flatten.map gB
  | [] => rfl
  | [x] => by simp [Lib.join, List.intercalate]
  | x :: y :: l => by
    have := join_flat (y :: l)
    simp only [Lib.join, List.intercalate, List.map_cons, List.intersperse, List.flatten_cons, List.nil_append, List.map_append] at this ⊢
    rw [this]
theorem join_bar : ∀ ps : List (List Int), Lib.join (ps.map (·.map gB)) [124] = (joinT ps).map gB
  | [] => rfl
  | [x] => by simp [Lib.join, List.intercalate, joinT]
  | x :: y :: l => by
    have := join_bar (y :: l)
    show _ = (x ++ 124 :: joinT (y :: l)).map gB
    rw [List.map_append, show List.map gB (124 :: joinT (y :: l)) = 124 :: List.map gB (joinT (y :: l)) from rfl, ← this]
    simp only [Lib.join, List.intercalate, List.map_cons, List.intersperse, List.flatten_cons, List.singleton_append]
theorem join_any {w wr : World} {k0 : Int} {A1 : Option Addr} {m1 c1 : Nat} {A2 : Option Addr} {m2 c2 : Nat} {t3 : Value} {n : Nat} {ps : List (List Int)} (h : Txt w wr k0 A1 m1 c1 A2 m2 c2 t3 n ps) (hn : n = ps.length) (sep : ByteArray) (whole : List Int)
    (hw : Lib.join (ps.map (·.map gB)) sep.data.toList = whole.map gB) (h1 : n ≤ 1000001) (h2 : whole.length ≤ 1000001) : Calls Try.prog 19 #[t3, .string sep] wr (Says wr whole) := by
  subst hn
  obtain ⟨A, c, rfl⟩ := own_slice h.row
  cases ps with
  | nil =>
    have e : whole = [] := by
      have : whole.map gB = [] := hw.symm
      exact List.map_eq_nil_iff.mp this
    subst e
    refine (Try.strings_Join_none A c sep wr).mono ?_
    rintro e w' ⟨rfl, rfl⟩
    exact ⟨rfl, Kpt.refl _⟩
  | cons x l =>
    obtain ⟨g, cap, e⟩ := own_form h.row (by simp)
    injection e with e1 e2 e3
    subst e1 e3
    obtain ⟨hc1, hc2, hc3⟩ := own_capl h.row
    have e4 : (((x :: l).map strOfNums).map (·.data.toList)) = (x :: l).map (·.map gB) := by rw [List.map_map]; rfl
    have hj := Try.strings_Join g 0 c ((x :: l).map strOfNums) sep wr (fun j y hy => by
      rw [Nat.zero_add]
      refine own_cell h.row ?_
      rw [List.getElem?_map] at hy
      obtain ⟨z, hz, rfl⟩ := Option.map_eq_some_iff.mp hy
      unfold strV
      rw [List.getElem?_map, hz]
      rfl) hc3 (by rw [List.length_map]; omega) (by rw [List.length_map]; exact hc1) (by rw [e4, hw, List.length_map]; omega)
    rw [List.length_map, e4, hw] at hj
    exact hj
theorem load3_ {W : World} {g : Nat} {u0 u1 u2 : Value} (h : W.heap[g]? = some (.cells #[u0, u1, u2] 26 (0, 0))) : W.cell? ⟨g, 0, none⟩ = some u0 ∧ W.cell? ⟨g, 1, none⟩ = some u1 ∧ W.cell? ⟨g, 2, none⟩ = some u2 :=
  ⟨blk_cell h 0, blk_cell h 1, blk_cell h 2⟩
theorem tr_cases {k0 : Int} {rs : List S37} {ks : List S26} (h : Tr ⟨k0, rs, ks⟩) : (k0 = 1 ∧ ks = [] ∧ Canon rs) ∨ k0 = 2 ∨ k0 = 3 ∨ ((k0 = 4 ∨ k0 = 5 ∨ k0 = 6) ∧ ∃ u, ks = [u]) := by
  cases h with
  | set h => exact .inl ⟨rfl, rfl, h⟩
  | cat h => exact .inr (.inl rfl)
  | alt h2 h hc => exact .inr (.inr (.inl rfl))
  | @sign k u hk h => exact .inr (.inr (.inr ⟨hk, u, rfl⟩))
set_option maxHeartbeats 2000000 in
set_option maxRecDepth 100000 in
theorem text_step (t : S26) (hT : Tr t) (hlen : (textR t).length ≤ 1000000) (ih : ∀ y, y ∈ t.f2 → TOk y) : TOk t := by
  intro w v hTC
  have hkl := fun y (hy : y ∈ t.f2) => kid_len hT hy
  obtain ⟨A1, c1, A2, c2, rfl, l1, g1, l2, g2⟩ := hTC
  have hm2 : t.f2.length ≤ 9223372036854775807 := g2.2.1
  obtain ⟨k0, rs, ks⟩ := t
  obtain ⟨m1, hm1⟩ : ∃ m, m = rs.length := ⟨_, rfl⟩
  simp only at l1 g1 l2 g2 hm2 hkl ih
  show Calls Try.prog 12 #[.agg #[.int .i64 k0, .slice A1 rs.length c1, .slice A2 ks.length c2]] w _
  rw [← hm1]
  have HM1 := Lib.hid hm1
  have HC := Lib.hid g2
  have HCR := Lib.hid g1
  have HL1 := Lib.hid l1
  have HI := Lib.hid ih
  have HT := Lib.hid hT
  have HKL := Lib.hid hkl
  have HLEN := Lib.hid hlen
  have HKS : Hid (ks.length ≤ 1000001) := Lib.hid (Nat.le_trans (kids_len hT) (Nat.succ_le_succ hlen))
  obtain ⟨i0, hi, hz0, hz1, hz2⟩ := info_parts infoStr
  have HX0 : Hid (Txt w (w.alloc (.cells #[.int .i64 k0, .slice A1 m1 c1, .slice A2 ks.length c2] 26)) k0 A1 m1 c1 A2 ks.length c2 (.slice none 0 0) 0 []) := Lib.hid ⟨World.ownsRow_nil _ _ _ _, blk_new _ _, (Kpt.refl w).alloc _⟩
  clear l1 g1 l2 g2 hm1 ih hT hkl hlen
  go_enter Try.func12, Try.ntmps12
  go_wp2_with fail
  go_loopw [3, 9] (fun t3 t9 wr => ∃ k : Nat, k ≤ ks.length ∧ t9 = .int .i64 k ∧ Hid (Txt w wr k0 A1 m1 c1 A2 ks.length c2 t3 k ((partsT k0 ks).take k))) (fun _ t9 _ => ks.length - (intOf t9).toNat)
  case atStart => exact ⟨0, Nat.zero_le _, rfl, HX0⟩
  case round =>
    obtain ⟨k, hk, rfl, HX⟩ := hrel
    by_cases hkn : k < ks.length
    · obtain ⟨ad, A3, c3, A4, c4, rfl, q0, q1, q2, l3, g3, l4, g4⟩ := at_T26 (Kd.C_below HC.out HX.out.keep) (k : Int) (by omega) (by omega)
      have hmem := rd26_in hkn
      have htk := take_in k0 ks k hkn
      obtain ⟨y, hy⟩ : ∃ y, rd_T26 ks (k : Int) = y := ⟨_, rfl⟩
      rw [hy] at q0 q1 q2 l3 g3 l4 g4 hmem htk
      obtain ⟨p1, hp1⟩ : ∃ p, p = y.f1.length := ⟨_, rfl⟩
      obtain ⟨p2, hp2⟩ : ∃ p, p = y.f2.length := ⟨_, rfl⟩
      obtain ⟨ky, hky⟩ : ∃ q, q = y.f0 := ⟨_, rfl⟩
      have hTy : TC wr (.agg #[.int .i64 ky, .slice A3 p1 c3, .slice A4 p2 c4]) y := by rw [hp1, hp2, hky]; exact ⟨A3, c3, A4, c4, rfl, l3, g3, l4, g4⟩
      rw [← hp1] at q1
      rw [← hp2] at q2
      rw [← hky] at q0
      simp only [Int.toNat_natCast] at q0 q1 q2
      have HTY := Lib.hid hTy
      have HTK := Lib.hid htk
      have HKN := Lib.hid hkn
      have hyl := HKL.out y hmem
      have hx0 := blk_cell (blk_alloc HX.out.node (.cells #[.int .i64 ky, .slice A3 p1 c3, .slice A4 p2 c4] 26)) 0
      simp only [List.getElem?_toArray, List.getElem?_cons_zero] at hx0
      have HMEM := Lib.hid hmem
      have hml := HLEN.out
      by_cases h3 : k0 = 3
      · have e3 : (k0 == 3) = true := by simpa using h3
        have HKI : Hid (kindsT k0 = [3]) := Lib.hid (by unfold kindsT; rw [if_pos h3])
        have hW := within_any ((wr.alloc (.cells #[.int .i64 ky, .slice A3 p1 c3, .slice A4 p2 c4] 26)).alloc (.cells #[.int .i64 3] 3)) _ y [3] (wr.heap.size + 1) (by have := blk_new (wr.alloc (.cells #[.int .i64 ky, .slice A3 p1 c3, .slice A4 p2 c4] 26)) (.cells #[.int .i64 3] 3); rw [al_size] at this; exact this) (by decide) ((hTy.alloc _).alloc _) (by omega) (HI.out y hmem)
        obtain ⟨str, hstr⟩ : ∃ str, str = strOfNums (inT [3] y) := ⟨_, rfl⟩
        unfold Says at hW
        rw [← hstr] at hW
        have HW : Hid (Calls Try.prog 17 #[.agg #[.int .i64 ky, .slice A3 p1 c3, .slice A4 p2 c4], .slice (some ⟨wr.heap.size + 1, 0, none⟩) 1 1] ((wr.alloc (.cells #[.int .i64 ky, .slice A3 p1 c3, .slice A4 p2 c4] 26)).alloc (.cells #[.int .i64 3] 3)) fun e w' => e = .returned (.string str) ∧ Kpt ((wr.alloc (.cells #[.int .i64 ky, .slice A3 p1 c3, .slice A4 p2 c4] 26)).alloc (.cells #[.int .i64 3] 3)) w') := Lib.hid hW
        have HSTR := Lib.hid hstr
        clear hW hstr hTy htk hyl hmem hy hp1 hp2 hky l3 g3 l4 g4 h3 hml
        go_wp2_with (first
          | (go_at_call 17; (with_reducible refine HW.out.mono ?_); rintro e w2 ⟨rfl, hb⟩; (have HX2 := Lib.hid (HX.out.below ((((Kpt.refl wr).alloc (.cells #[.int .i64 ky, .slice A3 p1 c3, .slice A4 p2 c4] 26)).alloc (.cells #[.int .i64 3] 3)).trans hb)); clear hb))
          | (at_builtin; refine wpList_append_own _ rfl _ _ 32 rfl w.heap.size 9 i0 (.string ⟨#[]⟩) 1 16 Try.underlying32 hi hz0 hz1 hz2 rfl (by decide) _ _ _ rfl (HX2.out.row.alloc _) ⟨w2.heap.size, 0, none⟩ 1 1 [.string str] rfl rfl ?c1 ?c2 ?c3 ?c4 ?c5 ?_))
        case c1 =>
          intro j u hj
          match j, hj with
          | 0, hj => simp at hj; subst hj; simp [Addr.add]
        case c2 => intro u hu; simp at hu; subst hu; rfl
        case c3 => unfold maxLen; have := HKS.out; have := HKN.out; omega
        case c4 => have := HKS.out; have := HKN.out; omega
        case c5 => have := HX2.out.keep.size; simp; omega
        intro v' w3 hown' hgrow _
        have HX3 : Hid (Txt w w3 k0 A1 m1 c1 (some ad) ks.length c2 v' (k + 1) ((partsT k0 ks).take (k + 1))) := Lib.hid ((HX2.out.below ((Kpt.refl w2).alloc (.cells #[.string str] 9))).grown (by rw [HTK.out, HKI.out, strV_app, strV, strV, List.map_cons, List.map_nil, ← HSTR.out]; exact hown') hgrow)
        have x3 := blk_cell HX3.out.node 0
        simp only [List.getElem?_toArray, List.getElem?_cons_zero] at x3
        clear hown' hgrow
        go_wp2_with fail
        go_roundw
        case rel => exact ⟨k + 1, by have := HKN.out; omega, by go_num, HX3⟩
        case measure => have := HKN.out; simp [intOf]; omega
      · have e3 : (k0 == 3) = false := by simpa using h3
        have HKI : Hid (kindsT k0 = [3, 2]) := Lib.hid (by unfold kindsT; rw [if_neg h3])
        have hW := within_any ((wr.alloc (.cells #[.int .i64 ky, .slice A3 p1 c3, .slice A4 p2 c4] 26)).alloc (.cells #[.int .i64 3, .int .i64 2] 3)) _ y [3, 2] (wr.heap.size + 1) (by have := blk_new (wr.alloc (.cells #[.int .i64 ky, .slice A3 p1 c3, .slice A4 p2 c4] 26)) (.cells #[.int .i64 3, .int .i64 2] 3); rw [al_size] at this; exact this) (by decide) ((hTy.alloc _).alloc _) (by omega) (HI.out y hmem)
        obtain ⟨str, hstr⟩ : ∃ str, str = strOfNums (inT [3, 2] y) := ⟨_, rfl⟩
        unfold Says at hW
        rw [← hstr] at hW
        have HW : Hid (Calls Try.prog 17 #[.agg #[.int .i64 ky, .slice A3 p1 c3, .slice A4 p2 c4], .slice (some ⟨wr.heap.size + 1, 0, none⟩) 2 2] ((wr.alloc (.cells #[.int .i64 ky, .slice A3 p1 c3, .slice A4 p2 c4] 26)).alloc (.cells #[.int .i64 3, .int .i64 2] 3)) fun e w' => e = .returned (.string str) ∧ Kpt ((wr.alloc (.cells #[.int .i64 ky, .slice A3 p1 c3, .slice A4 p2 c4] 26)).alloc (.cells #[.int .i64 3, .int .i64 2] 3)) w') := Lib.hid hW
        have HSTR := Lib.hid hstr
        clear hW hstr hTy htk hyl hmem hy hp1 hp2 hky l3 g3 l4 g4 h3 hml
        go_wp2_with (first
          | (go_at_call 17; (with_reducible refine HW.out.mono ?_); rintro e w2 ⟨rfl, hb⟩; (have HX2 := Lib.hid (HX.out.below ((((Kpt.refl wr).alloc (.cells #[.int .i64 ky, .slice A3 p1 c3, .slice A4 p2 c4] 26)).alloc (.cells #[.int .i64 3, .int .i64 2] 3)).trans hb)); clear hb))
          | (at_builtin; refine wpList_append_own _ rfl _ _ 32 rfl w.heap.size 9 i0 (.string ⟨#[]⟩) 1 16 Try.underlying32 hi hz0 hz1 hz2 rfl (by decide) _ _ _ rfl (HX2.out.row.alloc _) ⟨w2.heap.size, 0, none⟩ 1 1 [.string str] rfl rfl ?c1 ?c2 ?c3 ?c4 ?c5 ?_))
        case c1 =>
          intro j u hj
          match j, hj with
          | 0, hj => simp at hj; subst hj; simp [Addr.add]
        case c2 => intro u hu; simp at hu; subst hu; rfl
        case c3 => unfold maxLen; have := HKS.out; have := HKN.out; omega
        case c4 => have := HKS.out; have := HKN.out; omega
        case c5 => have := HX2.out.keep.size; simp; omega
        intro v' w3 hown' hgrow _
        have HX3 : Hid (Txt w w3 k0 A1 m1 c1 (some ad) ks.length c2 v' (k + 1) ((partsT k0 ks).take (k + 1))) := Lib.hid ((HX2.out.below ((Kpt.refl w2).alloc (.cells #[.string str] 9))).grown (by rw [HTK.out, HKI.out, strV_app, strV, strV, List.map_cons, List.map_nil, ← HSTR.out]; exact hown') hgrow)
        have x3 := blk_cell HX3.out.node 0
        simp only [List.getElem?_toArray, List.getElem?_cons_zero] at x3
        clear hown' hgrow
        go_wp2_with fail
        go_roundw
        case rel => exact ⟨k + 1, by have := HKN.out; omega, by go_num, HX3⟩
        case measure => have := HKN.out; simp [intOf]; omega
    · obtain rfl : k = ks.length := by omega
      have hpl : (partsT k0 ks).take ks.length = partsT k0 ks := List.take_of_length_le (by rw [partsT_in]; simp)
      rw [hpl] at HX
      clear hpl hkn hk
      obtain ⟨x0, x1, x2⟩ := load3_ HX.out.node
      have hT := HT.out
      rcases tr_cases hT with ⟨rfl, hks, hcan⟩ | rfl | rfl | ⟨hk4, u, hu⟩
      · as_aux_lemma =>
        have HS := Lib.hid (setText_any (w := wr) (by rw [← HM1.out]; exact HM1.out ▸ HL1.out) (Kd.C_below HCR.out HX.out.keep) (canon_fit hcan))
        have HE : Hid (textR ⟨1, rs, ks⟩ = setT rs) := Lib.hid (by rw [textR, if_pos rfl])
        rw [← HM1.out] at HS
        clear hT hks hcan
        go_wp2_with (first
          | (go_at_call 18; refine HS.out.mono ?_; rintro e w2 ⟨rfl, hb⟩; (have HB2 := Lib.hid hb; clear hb)))
        go_ret
        exact ⟨ret_str (by rw [HE.out]), Kpt.trans HX.out.keep HB2.out⟩
      · as_aux_lemma =>
        have HE : Hid (textR ⟨2, rs, ks⟩ = (partsT 2 ks).flatten) := Lib.hid (by rw [textR, if_neg (by decide), if_pos rfl])
        have HJ := Lib.hid (join_any HX.out (by rw [partsT_in, List.length_map]) ⟨#[]⟩ ((partsT 2 ks).flatten) (join_flat _) HKS.out (by have := HLEN.out; rw [HE.out] at this; omega))
        clear hT
        go_wp2_with (first
          | (go_at_call 19; (with_reducible refine HJ.out.mono ?_); rintro e w2 ⟨rfl, hb⟩; (have HB2 := Lib.hid hb; clear hb)))
        go_ret
        exact ⟨ret_str (by rw [HE.out]), Kpt.trans HX.out.keep HB2.out⟩
      · as_aux_lemma =>
        have HE : Hid (textR ⟨3, rs, ks⟩ = joinT (partsT 3 ks)) := Lib.hid (by rw [textR, if_neg (by decide), if_neg (by decide), if_pos rfl])
        have HJ := Lib.hid (join_any HX.out (by rw [partsT_in, List.length_map]) ⟨#[124]⟩ (joinT (partsT 3 ks)) (join_bar _) HKS.out (by have := HLEN.out; rw [HE.out] at this; omega))
        clear hT
        go_wp2_with (first
          | (go_at_call 19; (with_reducible refine HJ.out.mono ?_); rintro e w2 ⟨rfl, hb⟩; (have HB2 := Lib.hid hb; clear hb)))
        go_ret
        exact ⟨ret_str (by rw [HE.out]), Kpt.trans HX.out.keep HB2.out⟩
      · subst hu
        obtain ⟨g, cap, e5⟩ := own_form HX.out.row (Nat.one_pos)
        subst e5
        have hpp : partsT k0 [u] = [pieceT u] := partsT_map k0 [u] (by omega)
        rw [hpp] at HX
        obtain ⟨str, hstr⟩ : ∃ str, str = strOfNums (pieceT u) := ⟨_, rfl⟩
        have q0 := own_cell HX.out.row (j := 0) (u := .string str) (by rw [hstr]; rfl)
        obtain ⟨hc1, hc2, hc3⟩ := own_capl HX.out.row
        have hxl := blk_lt HX.out.node
        clear hc1 hc2
        have HE : Hid (textR ⟨k0, [], [u]⟩ = pieceT u ++ [signT k0]) := Lib.hid (text_sign u hk4)
        have hrs : rs = [] := by
          cases hT with
          | sign _ _ => rfl
          | cat _ => rfl
          | alt _ _ _ => rfl
        subst hrs
        have hsz : (str.size : Int) ≤ 1000000 := by
          have := HLEN.out
          rw [HE.out, List.length_append] at this
          rw [hstr, strOfNums_size]; omega
        have HSTR := Lib.hid hstr
        clear hT hpp hstr
        rcases hk4 with rfl | rfl | rfl
        · as_aux_lemma =>
          have HSG : Hid (str ++ ⟨#[42]⟩ = strOfNums (pieceT u ++ [42])) := Lib.hid (by rw [strs_app, HSTR.out]; rfl)
          go_upto_region 21 with fail
          go_region
          go_wp2_with fail
          go_ret
          exact ⟨ret_str (by rw [HE.out, HSG.out]; rfl), below_drew (Kpt.trans HX.out.keep ((Kpt.refl wr).alloc _))⟩
        · as_aux_lemma =>
          have HSG : Hid (str ++ ⟨#[43]⟩ = strOfNums (pieceT u ++ [43])) := Lib.hid (by rw [strs_app, HSTR.out]; rfl)
          go_upto_region 21 with fail
          go_region
          go_wp2_with fail
          go_ret
          exact ⟨ret_str (by rw [HE.out, HSG.out]; rfl), below_drew (Kpt.trans HX.out.keep ((Kpt.refl wr).alloc _))⟩
        · as_aux_lemma =>
          have HSG : Hid (str ++ ⟨#[63]⟩ = strOfNums (pieceT u ++ [63])) := Lib.hid (by rw [strs_app, HSTR.out]; rfl)
          go_upto_region 21 with fail
          go_region
          go_wp2_with fail
          go_ret
          exact ⟨ret_str (by rw [HE.out, HSG.out]; rfl), below_drew (Kpt.trans HX.out.keep ((Kpt.refl wr).alloc _))⟩
theorem tr_kids {t : S26} (h : Tr t) : ∀ y, y ∈ t.f2 → Tr y := by
  cases h with
  | set _ => intro y hy; cases hy
  | cat h => exact h
  | alt _ h _ => exact h
  | sign _ h => intro y hy; obtain rfl := List.mem_singleton.mp hy; exact h
theorem text_all : ∀ (n : Nat) (t : S26), SizeOf.sizeOf t ≤ n → Tr t → (textR t).length ≤ 1000000 → TOk t
  | 0, t, hn, _, _ => by cases t; simp at hn
  | n + 1, t, hn, hT, hl => text_step t hT hl fun y hy => by
    have := kid_lt hy
    exact text_all n y (by omega) (tr_kids hT y hy) (Nat.le_trans (kid_len hT hy).1 hl)
theorem text_any {t : S26} (hT : Tr t) (hl : (textR t).length ≤ 1000000) : TOk t := text_all _ t (Nat.le_refl _) hT hl
end Go.Proofs.Ytcdkooebhpfknaa.Rx
