/- cmp.Compare at bytes; the closure of glob.Ranges. slices.SortFunc at ranges. glob.Ranges' row, sorted in its place. glob.Ranges: what its walk leans on. -/
import Derived.Test.YtdgidcfmggmbiaaMa
import Derived.Sort.Grow
import Derived.Lib.Hide
import Derived.Outline
import Derived.Shelf.SlSortCmp.WholeK
import Derived.Test.YtdgidcfmggmbiaaSl
import Derived.Ground.SlsfProg
import Derived.Lib.OwnBridge
import Derived.Test.YtdgidcfmggmbiaaMb
namespace Go.Proofs.Ytdgidcfmggmbiaa.Rx
open Go.RowKit Go.Proofs.YtdgidcfmggmbiaaW.PrintWords Go.Proofs.YtdgidcfmggmbiaaW.PrintLast Go.Proofs.YtdgidcfmggmbiaaW.PrintMore Go.Proofs.Ytdgidcfmggmbiaa.PRx
set_option linter.unusedVariables false
set_option linter.unusedSimpArgs false

theorem nan_any (x : Int) (w : World) : Calls Try.prog 75 #[.int .u8 x] w fun e w' => e = .returned (.bool false) ∧ ∃ q, w' = w.drewN q := by
  have g1 : (x != x) = false := by simp
  have g2 : (x == x) = true := by simp
  go_enter Try.func75, Try.ntmps75
  go_wp2
  repeat (go_quiet (fail); try go_wp2)
  go_ret
  exact ⟨rfl, 0, rfl⟩
theorem cmp_any (x y : Int) (w : World) : Calls Try.prog 66 #[.int .u8 x, .int .u8 y] w fun e w' => e = .returned (.int .i64 (if x < y then -1 else if x > y then 1 else 0)) ∧ ∃ q, w' = w.drewN q := by
  by_cases h1 : x < y
  · rw [if_pos h1]
    have g1 : decide (x < y) = true := by simpa using h1
    clear h1
    go_enter Try.func66, Try.ntmps66
    go_wp2_with (first | (go_at_call 75; refine (nan_any _ _).mono ?_; rintro e w' ⟨rfl, q, rfl⟩))
    go_ret
    exact ⟨rfl, _, rfl⟩
  · rw [if_neg h1]
    have g1 : decide (x < y) = false := by simpa using h1
    by_cases h2 : x > y
    · rw [if_pos h2]
      have g2 : decide (x > y) = true := by simpa using h2
      clear h1 h2
      go_enter Try.func66, Try.ntmps66
      go_wp2_with (first | (go_at_call 75; refine (nan_any _ _).mono ?_; rintro e w' ⟨rfl, q, rfl⟩))
      go_ret
      exact ⟨rfl, _, rfl⟩
    · rw [if_neg h2]
      have g2 : decide (x > y) = false := by simpa using h2
      clear h1 h2
      go_enter Try.func66, Try.ntmps66
      go_wp2_with (first | (go_at_call 75; refine (nan_any _ _).mono ?_; rintro e w' ⟨rfl, q, rfl⟩))
      go_ret
      exact ⟨rfl, _, rfl⟩
end Go.Proofs.Ytdgidcfmggmbiaa.Rx
namespace Go.Proofs.Ytdgidcfmggmbiaa.Rx
open Go.RowKit Go.Proofs.YtdgidcfmggmbiaaW.PrintWords Go.Proofs.YtdgidcfmggmbiaaW.PrintLast Go.Proofs.YtdgidcfmggmbiaaW.PrintMore Go.Proofs.Ytdgidcfmggmbiaa.PRx
set_option linter.unusedVariables false
set_option linter.unusedSimpArgs false

theorem clo_any (x y : S98) (W : World) : Calls Try.prog 65 #[.agg #[.int .u8 x.f0, .int .u8 x.f1], .agg #[.int .u8 y.f0, .int .u8 y.f1]] W fun e w' => e = .returned (.int .i64 (cmpS x y)) ∧ ∃ q os', w' = Go.Sort.grow (W.drewN q) os' := by
  have hc := Lib.hid (fun w => cmp_any x.f0 y.f0 w)
  have e : cmpS x y = if x.f0 < y.f0 then -1 else if x.f0 > y.f0 then 1 else 0 := rfl
  rw [e]
  generalize (if x.f0 < y.f0 then (-1 : Int) else if x.f0 > y.f0 then 1 else 0) = res at hc ⊢
  go_enter Try.func65, Try.ntmps65
  go_wp2_with (go_at_call 66; refine (hc.out _).mono ?_; rintro e w' ⟨rfl, q, rfl⟩)
  go_ret
  exact ⟨rfl, q, _, by rw [Go.Sort.alloc_eq_grow, Go.Sort.alloc_eq_grow, Go.Sort.grow_grow]; rfl⟩
def encS (x : S98) : List Value := [.int .u8 x.f0, .int .u8 x.f1]
theorem ltS (x y : S98) : Go.Proofs.ltOf cmpS x y = decide (x.f0 < y.f0) := by
  unfold Go.Proofs.ltOf cmpS
  by_cases h1 : x.f0 < y.f0
  · simp [h1]
  · by_cases h2 : y.f0 < x.f0 <;> simp [h1, h2]
theorem swoS : Go.Sort.SWO (Go.Proofs.ltOf cmpS) where
  irrefl x := by rw [ltS]; simp
  trans x y z h1 h2 := by rw [ltS] at *; simp at *; omega
  ntrans x y z h1 h2 := by rw [ltS] at *; simp at *; omega
theorem agg98 : ∀ w : World, (isAgg 98).run Try.prog w = .ok true w := fun w => by kernel_rfl
theorem size98 : ∀ w : World, (Go.sizeOf 98).run Try.prog w = .ok 2 w := fun w => by kernel_rfl
/-- The ranges, sorted, in their place. -/
theorem sort_any {W : World} {b c : Nat} (d : Array S98) (hH : Go.Sort.HoldsK encS 2 W b 0 d) (hb : b < W.heap.size) (hs : d.size < 4611686018427387904) :
    Calls Try.prog 64 #[.slice (some ⟨b, 0, none⟩) d.size c, .func (.func 65) #[] #[]] W fun e w' => e = .returned (.tuple #[]) ∧ ∃ n os, w' = Go.Proofs.sortWorldK encS 2 W b 0 n (Go.Sort.pdq (Go.Proofs.ltOf cmpS) d 0 d.size (Go.Lib.bitLen d.size) true true) os := by
  have eg : ∀ args w, (callFunc 65 args).run Try.prog w = .ok (.enter 65 args) w := enters_of Try.func65 (by kernel_rfl) rfl
  exact Go.Proofs.AnyQ.slices_SortFunc_eq Go.Proofs.Try.sortS 2 agg98 size98 encS (fun _ => rfl) (fun x v hv => by simp [encS] at hv; rcases hv with rfl | rfl <;> rfl) cmpS swoS 65 #[] b 0 c d W eg (fun m os dk _ x y => clo_any x y _) hH hb hs
end Go.Proofs.Ytdgidcfmggmbiaa.Rx
namespace Go.Proofs.Ytdgidcfmggmbiaa.Rx
open Go.RowKit Go.Proofs.YtdgidcfmggmbiaaW.PrintWords Go.Proofs.YtdgidcfmggmbiaaW.PrintLast Go.Proofs.YtdgidcfmggmbiaaW.PrintMore Go.Proofs.Ytdgidcfmggmbiaa.PRx
set_option linter.unusedVariables false
set_option linter.unusedSimpArgs false

theorem half_mod (j : Nat) : j / 2 * 2 + j % 2 = j := by omega
theorem enc_at (x : S98) (m : Nat) (h : m < 2) : (encS x)[m]! = if m = 0 then .int .u8 x.f0 else .int .u8 x.f1 := by
  match m, h with
  | 0, _ => rfl
  | 1, _ => rfl
theorem holds_of {W : World} {B b n c : Nat} {xs : List S98} (h : Kd.R k98 98 W B (fun _ => True) (.slice (some ⟨b, 0, none⟩) n c) xs) : Go.Sort.HoldsK encS 2 W b 0 xs.toArray := by
  have hn := (Kd.R_reads' h).1
  intro j hj
  have hj2 : j < xs.toArray.size * 2 := by rw [Go.Sort.size_flatK] at hj; exact hj
  have hj3 : j < xs.length * 2 := hj2
  refine ⟨?_, ?_⟩
  · obtain ⟨cs, hcl, hM, hcc⟩ := Kd.R_getA h z98 ((j / 2 : Nat) : Int) (by omega) (by omega)
    obtain rfl := k98_openM hM
    rw [Go.Sort.get_flatK _ _ _ _ hj2, enc_at _ _ (by omega)]
    have hx : xs.toArray[j / 2]! = xs.getD ((j / 2 : Nat) : Int).toNat z98 := by
      rw [Int.toNat_natCast, List.getElem!_toArray, List.getElem!_eq_getElem?_getD, List.getD_eq_getElem?_getD]
      rfl
    rw [hx]
    have := hcc (j % 2) (if j % 2 = 0 then .int .u8 (xs.getD ((j / 2 : Nat) : Int).toNat z98).f0 else .int .u8 (xs.getD ((j / 2 : Nat) : Int).toNat z98).f1) (by
      rcases Nat.mod_two_eq_zero_or_one j with e | e <;> rw [e] <;> rfl)
    rw [add_at, Nat.zero_add, Int.toNat_natCast] at this
    have e : j / 2 * k98.sz + j % 2 = j := half_mod j
    rw [e] at this
    rw [Nat.zero_add]
    exact this
  · obtain ⟨_, inner, ho, _⟩ := h
    rcases ho.2 with ⟨hv, _⟩ | ⟨g, cap', cur, hv, _, hg, _⟩
    · cases hv
    · injection hv with ha _ _
      injection ha with ha
      injection ha with ha
      subst ha
      exact blk_frozen hg _
theorem C_of_holds {W : World} {b : Nat} {d : Array S98} (h : Go.Sort.HoldsK encS 2 W b 0 d) (hs : d.size ≤ 9223372036854775807) : Kd.C k98 W (some ⟨b, 0, none⟩) d.toList.length d.toList := by
  refine ⟨rfl, by simpa using hs, fun _ => ⟨_, rfl, fun j p hj => ⟨[.int .u8 p.f0, .int .u8 p.f1], rfl, k98_mk _ _, fun i u hu => ?_⟩⟩⟩
  have hi : i < 2 := by
    have := (List.getElem?_eq_some_iff.1 hu).1
    exact this
  have hjl : j < d.size := by
    have := (List.getElem?_eq_some_iff.1 hj).1
    simpa using this
  have hj2 : j * 2 + i < d.size * 2 := by omega
  have := (h (j * 2 + i) (by rw [Go.Sort.size_flatK]; exact hj2)).1
  rw [Go.Sort.get_flatK _ _ _ _ hj2, show (j * 2 + i) / 2 = j by omega, show (j * 2 + i) % 2 = i by omega, enc_at _ _ hi] at this
  have hp : d[j]! = p := by
    rw [getElem!_pos d j hjl]
    have h2 := (List.getElem?_eq_some_iff.1 hj).2
    simpa using h2
  rw [hp] at this
  rw [add_at, Nat.zero_add]
  have e : j * k98.sz + i = j * 2 + i := rfl
  rw [e]
  rw [Nat.zero_add] at this
  rw [this]
  match i, hi, hu with
  | 0, _, hu => simpa using hu
  | 1, _, hu => simpa using hu
theorem sorted_C {W : World} {b : Nat} {d d' : Array S98} {n : Nat} {os : Array Obj} (h : Go.Sort.HoldsK encS 2 W b 0 d) (hb : b < W.heap.size) (hs : d'.size = d.size) (hd : d.size ≤ 9223372036854775807) : Kd.C k98 (Go.Proofs.sortWorldK encS 2 W b 0 n d' os) (some ⟨b, 0, none⟩) d'.toList.length d'.toList :=
  C_of_holds (Go.Proofs.holdsK_sortWorldK_c encS 2 W b 0 d d' n os h hb hs) (by omega)
theorem below_sort {w0 W : World} {B b n : Nat} {d' : Array S98} {os : Array Obj} (h : Below B w0 W) (hb : B ≤ b) (hB : B ≤ W.heap.size) : Below B w0 (Go.Proofs.sortWorldK encS 2 W b 0 n d' os) := by
  have h1 : Below B w0 (Go.Sort.putRowK encS 2 (Go.Sort.ahead W n) b 0 d') := Go.Lib.below_putRow h hb
  unfold Go.Proofs.sortWorldK
  refine h1.trans ⟨rfl, rfl, rfl, ?_, fun k hk => ?_⟩
  · simp [Go.Sort.grow]
  · have hs : B ≤ (Go.Sort.putRowK encS 2 (Go.Sort.ahead W n) b 0 d').heap.size := by
      unfold Go.Sort.putRowK
      rw [Go.Sort.size_putRow]
      exact hB
    simp only [Go.Sort.grow]
    rw [Array.getElem?_append_left (by omega)]
end Go.Proofs.Ytdgidcfmggmbiaa.Rx
namespace Go.Proofs.Ytdgidcfmggmbiaa.Rx
open Go.RowKit Go.Proofs.YtdgidcfmggmbiaaW.PrintWords Go.Proofs.YtdgidcfmggmbiaaW.PrintLast Go.Proofs.YtdgidcfmggmbiaaW.PrintMore Go.Proofs.Ytdgidcfmggmbiaa.PRx
set_option linter.unusedVariables false
set_option linter.unusedSimpArgs false
/-- Ranges that may be asked for. -/
def Fit (rs : List S98) : Prop := (∀ r ∈ rs, 0 ≤ r.f0 ∧ r.f0 < 256 ∧ 0 ≤ r.f1 ∧ r.f1 < 256) ∧ rs.length ≤ 1000
theorem info37r : (Try.prog.info? 98).map (fun i => (i.zero, i.size, i.bytes)) = some (some (.agg #[.int .u8 0, .int .u8 0]), 2, 2) := by kernel_rfl
theorem al_size_ (w : World) (o : Obj) : (w.alloc o).heap.size = w.heap.size + 1 := World.size_alloc ..
theorem own_low {α : Type} {d : Kd α} {e : Nat} {w : World} {B : Nat} {v : Value} {l : List α} (h : Kd.R d e w B (fun _ => True) v l) : ∀ k, w.heap.size ≤ k → some k ≠ v.ownBlock := by
  intro k hk he
  have := (Kd.R_bound h).1 k he.symm
  have := this.2.2.1
  omega
theorem wrap_small (m : Nat) (h : m < 1000) : wrap64 (m : Int) = m := by unfold wrap64; omega
theorem wrap_pred (m : Nat) (h : m < 1000) : wrap64 ((m : Int) + 1 - 1) = m := by unfold wrap64; omega
theorem wrap_pred' (m : Nat) (h : m < 1000) : wrap64 (((m + 1 : Nat) : Int) - 1) = m := by unfold wrap64; omega
theorem wrap_succ (k : Nat) (h : k < 1000) : Value.int .i64 (wrap64 ((k : Int) + 1)) = .int .i64 ((k + 1 : Nat) : Int) := by
  congr 1
  unfold wrap64
  omega
/-- The ranges that aren't empty. -/
def keepR (rs : List S98) : List S98 := rs.filter fun r => decide (r.f0 ≤ r.f1)
theorem rd_in (rs : List S98) (k : Nat) (h : k < rs.length) : rd_T98 rs (k : Int) ∈ rs := by
  unfold rd_T98
  rw [Int.toNat_natCast, List.getD_eq_getElem?_getD, List.getElem?_eq_getElem h]
  exact List.getElem_mem h
theorem take_rd (rs : List S98) (k : Nat) (h : k < rs.length) : rs.take (k + 1) = rs.take k ++ [rd_T98 rs (k : Int)] := by
  unfold rd_T98
  rw [Int.toNat_natCast, List.getD_eq_getElem?_getD, List.getElem?_eq_getElem h, List.take_succ_eq_append_getElem h]
  rfl
theorem drop_rd (rs : List S98) (k : Nat) (h : k < rs.length) : rs.drop k = rd_T98 rs (k : Int) :: rs.drop (k + 1) := by
  unfold rd_T98
  rw [Int.toNat_natCast, List.getD_eq_getElem?_getD, List.getElem?_eq_getElem h, List.drop_eq_getElem_cons h]
  rfl
theorem keep_len (rs : List S98) : (keepR rs).length ≤ rs.length := List.length_filter_le _ _
/-- What is left to be merged. -/
def tailR (neg : Bool) (q : List S98 × Int) : List S98 := if neg = true ∧ q.2 < 256 then q.1 ++ [⟨q.2, 255⟩] else q.1
theorem rg_eq (neg : Bool) (rs : List S98) : rg neg rs = tailR neg (mergeGo neg [] (srt rs) 0) := rfl

theorem srt_perm (rs : List S98) : (srt rs).Perm (keepR rs) := by
  have h := (Go.Sort.pdq_sorts (Go.Proofs.ltOf cmpS) swoS (keepR rs).toArray 0 (keepR rs).toArray.size (Go.Lib.bitLen (keepR rs).toArray.size) true true (Nat.zero_le _) (Nat.le_refl _) (Or.inl rfl)).1
  have h3 := h.2.2
  have e : (Go.Sort.pdq (Go.Proofs.ltOf cmpS) (keepR rs).toArray 0 (keepR rs).toArray.size (Go.Lib.bitLen (keepR rs).toArray.size) true true).toList = srt rs := rfl
  rw [Array.toList_extract, Array.toList_extract, e] at h3
  simp only [List.extract_eq_take_drop, List.drop_zero, Nat.sub_zero, List.size_toArray] at h3
  rw [List.take_length] at h3
  have hl : (srt rs).length = (keepR rs).length := by
    rw [← e]
    have := h.1
    simpa using this
  rw [← hl, List.take_length] at h3
  exact h3
theorem srt_mem {rs : List S98} {x : S98} (h : x ∈ srt rs) : x ∈ rs := (List.mem_filter.mp ((srt_perm rs).mem_iff.mp h)).1
theorem last_get {out : List S98} {m : Nat} {l : S98} (hn : m + 1 = out.length) (hl : out.getD (m : Int).toNat z98 = l) : out.getLast?.getD z98 = l := by
  rw [← hl, Int.toNat_natCast, List.getD_eq_getElem?_getD, List.getLast?_eq_getElem?, show out.length - 1 = m by omega]
theorem set_last_list {out : List S98} {m : Nat} (hn : m + 1 = out.length) (y : S98) : out.set m y = out.dropLast ++ [y] := by
  have e := List.dropLast_concat_getLast (l := out) (by intro h; subst h; cases hn)
  have hl : out.dropLast.length = m := by rw [List.length_dropLast]; omega
  conv => lhs; rw [← e]
  rw [List.set_append_right _ _ (by omega), hl, Nat.sub_self]
  rfl
/-- The last range is made longer. -/
theorem set_last {wr : World} {B gq m cq : Nat} {out : List S98} {l x : S98} (h : Kd.R k98 98 wr B (fun _ => True) (.slice (some ⟨gq, 0, none⟩) (m + 1) cq) out) (hn : m + 1 = out.length) (hl : out.getD (m : Int).toNat z98 = l) (y : Int) :
    Kd.R k98 98 ((wr.alloc (.cells #[.int .u8 x.f0, .int .u8 x.f1] 98)).setCell ⟨gq, m * 2 + 1, none⟩ (.int .u8 y)).drew B (fun _ => True) (.slice (some ⟨gq, 0, none⟩) (m + 1) cq) (out.dropLast ++ [⟨l.f0, y⟩]) ∧
    Below B (wr.alloc (.cells #[.int .u8 x.f0, .int .u8 x.f1] 98)) ((wr.alloc (.cells #[.int .u8 x.f0, .int .u8 x.f1] 98)).setCell ⟨gq, m * 2 + 1, none⟩ (.int .u8 y)).drew ∧
    ((wr.alloc (.cells #[.int .u8 x.f0, .int .u8 x.f1] 98)).setCell ⟨gq, m * 2 + 1, none⟩ (.int .u8 y)).drew.heap[wr.heap.size]? = some (.cells #[.int .u8 x.f0, .int .u8 x.f1] 98 (0, 0)) := by
  have h' := Kd.R_alloc h (.cells #[.int .u8 x.f0, .int .u8 x.f1] 98)
  obtain ⟨cs, hcl, hM, hcc, hfz⟩ := Kd.R_elem h' z98 (m : Int) (by omega) (by omega)
  rw [hl] at hM
  obtain rfl := k98_openM hM
  have hs := (Kd.R_seg h' (m : Int) (by omega) (by omega) (seg := [.int .u8 y]) (j := 1) hcl hcc (Nat.le_refl _) (x' := ⟨l.f0, y⟩) (okp := fun _ => False) (k98_mkM _ _ _ ⟨l.f0, y⟩) (fun _ h => h.elim)).1
  rw [Int.toNat_natCast, set_last_list hn] at hs
  have hb := (Kd.R_bound h).1 gq (by simp [Value.ownBlock])
  refine ⟨Kd.R_drew hs, below_drew ((Below.refl _ _).setCell (p := ⟨gq, m * 2 + 1, none⟩) hb.2.1 _), ?_⟩
  exact (Below.heap_setCell _ ⟨gq, m * 2 + 1, none⟩ _ wr.heap.size (Nat.ne_of_gt hb.2.2.1)).trans (blk_new wr _)

/-- The row is sorted: as it stands in memory, or nil. -/
def SortP (w0 wr : World) (B : Nat) (A5 : Option Addr) (n5 : Nat) (xs : List S98) (e : Ending) (w' : World) : Prop := e = .returned (.tuple #[]) ∧ Below B w0 w' ∧ n5 = (srt xs).length ∧ Kd.C k98 w' A5 n5 (srt xs)
theorem ins_nil (p : Value) (w : World) : Calls Try.prog 82 #[.slice none 0 0, .int .i64 0, .int .i64 0, p] w fun e w' => e = .returned (.tuple #[]) ∧ w' = w := by
  go_enter Try.func82, Try.ntmps82
  go_wp2
  refine wp_loop_rounds 1 ?_
  rw [rounds_succ]
  go_wp2
  go_end0
  exact ⟨rfl, rfl⟩
theorem pdq_nil (p : Value) (n : Int) (w : World) : Calls Try.prog 73 #[.slice none 0 0, .int .i64 0, .int .i64 0, .int .i64 n, p] w fun e w' => e = .returned (.tuple #[]) ∧ w' = w := by
  go_enter Try.func73, Try.ntmps73
  go_wp2
  refine wp_loop_rounds 1 ?_
  rw [rounds_succ]
  go_wp2_with (go_at_call 82; refine (ins_nil _ _).mono ?_; rintro e w' ⟨rfl, rfl⟩)
  exact bodyPost_ret (v := .tuple #[]) (results_none rfl _ _ _) rfl ⟨rfl, rfl⟩
def SomeI (w : World) (e : Ending) (w' : World) : Prop := (∃ n, e = .returned (.int .i64 n)) ∧ w' = w
theorem len64_nil (w : World) : Calls Try.prog 91 #[.int .u64 0] w (SomeI w) := by
  go_enter Try.func91, Try.ntmps91
  go_wp2
  go_ret
  exact ⟨⟨_, rfl⟩, rfl⟩
theorem len_nil_ (w : World) : Calls Try.prog 74 #[.int .u64 0] w (SomeI w) := by
  go_enter Try.func74, Try.ntmps74
  go_wp2_with (go_at_call 91; refine (len64_nil _).mono ?_; rintro e w' ⟨⟨n, rfl⟩, rfl⟩)
  go_ret
  exact ⟨⟨_, rfl⟩, rfl⟩
theorem sort_nil (p : Value) (w : World) : Calls Try.prog 64 #[.slice none 0 0, p] w fun e w' => e = .returned (.tuple #[]) ∧ w' = w := by
  go_enter Try.func64, Try.ntmps64
  go_wp2_with (first | (go_at_call 74; refine (len_nil_ _).mono ?_; rintro e w' ⟨⟨n, rfl⟩, rfl⟩) | (go_at_call 73; refine (pdq_nil _ _ _).mono ?_; rintro e w' ⟨rfl, rfl⟩))
  go_end0
  exact ⟨rfl, rfl⟩
theorem srt_len (rs : List S98) : (srt rs).length = (keepR rs).length := (srt_perm rs).length_eq
theorem srt_nil {rs : List S98} (h : keepR rs = []) : srt rs = [] := by
  have := srt_len rs
  rw [h] at this
  exact List.length_eq_zero_iff.mp this
/-- The row of the ranges that aren't empty is sorted. -/
theorem sort_step {w0 wr : World} {A5 : Option Addr} {n5 c5 : Nat} {rs : List S98} (HR : Kd.R k98 98 wr w0.heap.size (fun _ => True) (.slice A5 n5 c5) (keepR rs)) (HB : Below w0.heap.size w0 wr) (hn : keepR rs = [] → A5 = none ∧ c5 = 0) (hl : rs.length ≤ 1000) :
    Calls Try.prog 64 #[.slice A5 n5 c5, .func (.func 65) #[] #[]] wr (SortP w0 wr w0.heap.size A5 n5 rs) := by
  have e5 := (Kd.R_reads' HR).1
  by_cases hne : keepR rs = []
  · obtain ⟨rfl, rfl⟩ := hn hne
    rw [hne] at e5
    obtain rfl : n5 = 0 := e5
    refine (sort_nil _ _).mono ?_
    rintro e w' ⟨rfl, rfl⟩
    refine ⟨rfl, HB, by rw [srt_nil hne]; rfl, ?_⟩
    rw [srt_nil hne]
    rw [hne] at HR
    exact (Kd.R_reads' HR).2.2
  · have hpos : 0 < (keepR rs).length := List.length_pos_iff.mpr hne
    obtain ⟨ad, c6, e6⟩ := Kd.R_slice1 HR hpos
    injection e6 with e61 e62 e63
    subst e61 e62 e63
    obtain ⟨b, rfl⟩ := Kd.R_head HR
    have HH := holds_of HR
    have hbb := (Kd.R_bound HR).1 b (by simp [Value.ownBlock])
    have hsm : (keepR rs).length ≤ 1000 := Nat.le_trans (keep_len rs) hl
    have h := sort_any (c := c5) (keepR rs).toArray HH hbb.2.2.1 (by simp only [List.size_toArray]; omega)
    refine h.mono ?_
    rintro e w' ⟨rfl, nq, os, rfl⟩
    obtain ⟨ds, hds⟩ : ∃ ds, ds = Go.Sort.pdq (Go.Proofs.ltOf cmpS) (keepR rs).toArray 0 (keepR rs).toArray.size (Go.Lib.bitLen (keepR rs).toArray.size) true true := ⟨_, rfl⟩
    have hsz : ds.size = (keepR rs).toArray.size := by
      rw [hds]
      exact (Go.Sort.pdq_sorts (Go.Proofs.ltOf cmpS) swoS (keepR rs).toArray 0 (keepR rs).toArray.size _ true true (Nat.zero_le _) (Nat.le_refl _) (Or.inl rfl)).1.1
    have hsr : srt rs = ds.toList := by rw [hds]; rfl
    rw [← hds]
    refine ⟨rfl, below_sort HB hbb.2.1 HB.size, by rw [srt_len], ?_⟩
    have := sorted_C (n := nq) (os := os) HH hbb.2.2.1 hsz (by simp only [List.size_toArray]; omega)
    rw [← hsr] at this
    rw [← srt_len] at *
    exact this
end Go.Proofs.Ytdgidcfmggmbiaa.Rx
