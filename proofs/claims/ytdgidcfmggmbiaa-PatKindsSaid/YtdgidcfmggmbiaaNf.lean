/- rex's reader: an atom, if alternations are as said. -/
import Derived.Test.YtdgidcfmggmbiaaNe
namespace Go.Proofs.Ytdgidcfmggmbiaa.Rx
open Go.RowKit Go.Proofs.YtdgidcfmggmbiaaW.PrintWords Go.Proofs.YtdgidcfmggmbiaaW.PrintLast Go.Proofs.YtdgidcfmggmbiaaW.PrintMore Go.Proofs.Ytdgidcfmggmbiaa.PRx
set_option linter.unusedVariables false
set_option linter.unusedSimpArgs false

theorem C_one (W : World) (lo hi : Int) : Kd.C k98 (W.alloc (.cells #[.int .u8 lo, .int .u8 hi] 98)) (some ⟨W.heap.size, 0, none⟩) [(⟨lo, hi⟩ : S98)].length [⟨lo, hi⟩] := by
  refine ⟨rfl, by simp, fun _ => ⟨_, rfl, fun j p hj => ?_⟩⟩
  cases j with
  | zero =>
    obtain rfl : ⟨lo, hi⟩ = p := by simpa using hj
    refine ⟨_, rfl, k98_mk _ _, fun i u hu => ?_⟩
    have := blk_cell (blk_new W (.cells #[.int .u8 lo, .int .u8 hi] 98)) i
    have e : (⟨W.heap.size, 0, none⟩ : Addr).add (0 * k98.sz + i) = ⟨W.heap.size, i, none⟩ := by cases i <;> simp [Addr.add]
    rw [e]
    exact this.trans (by simpa using hu)
  | succ j => simp at hj
/-- A set of one range. -/
theorem one_any (W : World) (neg : Bool) (lo hi : Int) (h0 : 0 ≤ lo) (h1 : lo ≤ hi) (h2 : hi < 256) : Calls Try.prog 70 #[.bool neg, .slice (some ⟨W.heap.size, 0, none⟩) 1 1] (W.alloc (.cells #[.int .u8 lo, .int .u8 hi] 98)) fun e w' => ∃ v, e = .returned v ∧ Tree w' W.heap.size v (setN neg [⟨lo, hi⟩]) ∧ Below W.heap.size W w' := by
  refine (set_any neg (rs := [⟨lo, hi⟩]) (c := 1) (Nat.le_refl _) (C_one W lo hi) ⟨fun x hx => ?_, by simp⟩).mono ?_
  · obtain rfl := List.mem_singleton.mp hx
    exact ⟨h0, by show lo < 256; omega, by show 0 ≤ hi; omega, h2⟩
  · rintro e w' ⟨v, rfl, ht, hb⟩
    refine ⟨v, rfl, ht.lower (by rw [al_size]; exact Nat.le_succ _), ?_⟩
    exact ((Below.refl W.heap.size W).alloc (Nat.le_refl _) _).trans (hb.mono (by rw [al_size]; exact Nat.le_succ _))
/-- A tree is stored where it is handed back from. -/
theorem tree_done {w w5 : World} {g : Nat} {s : ByteArray} {r : List Int} {t : S30} {A1 A2 : Option Addr} {n1 c1 n2 c2 : Nat} {o : Obj} (hgl : g < w.heap.size) (hk : KeepBut (w.alloc o) w5 g none)
    (h1 : Kd.R k98 98 w5 (w.heap.size + 1) (fun _ => True) (.slice A1 n1 c1) t.f1) (h2 : Kd.R k30 30 w5 (w.heap.size + 1) (fun _ => True) (.slice A2 n2 c2) t.f2) (ha : At w5 g s r) :
    TRes w g s (.ok t r) (.returned (.agg #[.int .i64 t.f0, .slice A1 n1 c1, .slice A2 n2 c2])) (((w5.setCell ⟨w.heap.size, 0, none⟩ (.int .i64 t.f0)).setCell ⟨w.heap.size, 1, none⟩ (.slice A1 n1 c1)).setCell ⟨w.heap.size, 2, none⟩ (.slice A2 n2 c2)) :=
  ⟨_, rfl, ⟨A1, n1, c1, A2, n2, c2, rfl, far3 h1 (Nat.lt_succ_self _) (Nat.le_succ _), far3 h2 (Nat.lt_succ_self _) (Nat.le_succ _)⟩, keep_far3 (sub_keep hk hgl) (Nat.le_refl _), ha.far3 (Nat.ne_of_lt hgl)⟩
def AltH (n : Nat) : Prop := ∀ (w : World) (g : Nat) (s : ByteArray) (r : List Int), r.length < n → At w g s r → Calls Try.prog 22 #[.pointer (some ⟨g, 0, none⟩)] w (TRes w g s (altR r))
abbrev zS : Obj := .cells #[.int .i64 0, .slice none 0 0, .slice none 0 0] 30
theorem zS_at {w w1 : World} {g : Nat} (hk : KeepBut (w.alloc (.cells #[.int .i64 0, .slice none 0 0, .slice none 0 0] 30)) w1 g none) (hgl : g < w.heap.size) : w1.heap[w.heap.size]? = some (.cells #[.int .i64 0, .slice none 0 0, .slice none 0 0] 30 (0, 0)) :=
  blk_kept_ (blk_new w _) hk (Nat.ne_of_gt hgl)
theorem atom_dot (alt : List Int → R S30) (r : List Int) : atomR alt (46 :: r) = .ok (setN true [⟨10, 10⟩]) r := rfl
theorem atom_open (alt : List Int → R S30) (r : List Int) : atomR alt (40 :: r) = (alt r).bind fun n r1 => match r1 with | [] => .err 31 0 | _ :: r2 => .ok n r2 := rfl
theorem atom_class (alt : List Int → R S30) (r : List Int) : atomR alt (91 :: r) = classR r := rfl
theorem atom_back (alt : List Int → R S30) (r : List Int) : atomR alt (92 :: r) = if r.head? = some 100 then .ok (setN false [⟨48, 57⟩]) r.tail else (escR (r.length + 1) r).bind fun d r1 => .ok (setN false [⟨d, d⟩]) r1 := rfl

theorem atom_nil {w : World} {g : Nat} {s : ByteArray} (h : At w g s []) : Calls Try.prog 62 #[.pointer (some ⟨g, 0, none⟩)] w (TRes w g s (.err 31 0)) := by
  obtain ⟨i, f6, f7, f8, q1, q2, q3⟩ := (h.moved (o := .cells #[.int .i64 0, .slice none 0 0, .slice none 0 0] 30)).facts
  have HN := Lib.hid (next_nil (h.moved (o := .cells #[.int .i64 0, .slice none 0 0, .slice none 0 0] 30)))
  have hgl := h.lt
  have HGL := Lib.hid hgl
  clear h hgl q2
  go_enter Try.func62, Try.ntmps62
  go_wp2_with (first | (go_at_call 69; refine HN.out.mono ?_; rintro e w1 ⟨rfl, hk⟩; (have HK1 := Lib.hid hk; clear hk HN)))
  exact ⟨rfl, rfl, sub_keep HK1.out HGL.out⟩

set_option maxHeartbeats 4000000 in
set_option maxRecDepth 100000 in
theorem atom_dot_any {w : World} {g : Nat} {s : ByteArray} {r : List Int} (h : At w g s (46 :: r)) : Calls Try.prog 62 #[.pointer (some ⟨g, 0, none⟩)] w (TRes w g s (.ok (setN true [⟨10, 10⟩]) r)) := by
  obtain ⟨i, f6, f7, f8, q1, q2, q3⟩ := (h.moved (o := .cells #[.int .i64 0, .slice none 0 0, .slice none 0 0] 30)).facts
  have Q2 := Lib.hid q2
  have HN := Lib.hid (next_cons (h.moved (o := .cells #[.int .i64 0, .slice none 0 0, .slice none 0 0] 30)))
  have hgl := h.lt
  have HGL := Lib.hid hgl
  clear h hgl q2
  go_enter Try.func62, Try.ntmps62
  go_wp2_with (first | (go_at_call 69; (have hguard := HN; clear hguard); refine HN.out.mono ?_; rintro e w1 ⟨rfl, hk, ha⟩; (have HK1 := Lib.hid hk; have HA1 := Lib.hid ha; clear hk ha HN)) | (go_at_call 70; go_loud ((with_reducible refine (one_any w1 true 10 10 (by omega) (by omega) (by omega)).mono ?_); rintro e w5 ⟨v, rfl, ⟨A1, n1, c1, A2, n2, c2, rfl, hr1, hr2⟩, hb⟩; have h1 := (hb.block w.heap.size (Nat.lt_of_lt_of_le (by rw [al_size]; exact Nat.lt_succ_self _) HK1.out.1)).trans (zS_at HK1.out HGL.out); have f0 := blk_cell h1 0; have f1 := blk_cell h1 1; have f2 := blk_cell h1 2; have f3 := blk_frozen h1 0; have f4 := blk_frozen h1 1; have f5 := blk_frozen h1 2; (simp only [List.getElem?_toArray, List.getElem?_cons_zero, List.getElem?_cons_succ] at f0 f1 f2); have H1 := Lib.hid h1; have HR1 := Lib.hid hr1; have HR2 := Lib.hid hr2; have HB1 := Lib.hid hb; clear h1 hr1 hr2 hb)))
  have hg := store3 H1.out (.int .i64 1) (.slice A1 n1 c1) (.slice A2 n2 c2)
  have hle := HK1.out.1
  rw [al_size] at hle
  refine bodyPost_ret (results_cell_row (p := 2) rfl _ _ w.heap.size 30 _ (0, 0) _ rfl hg Try.underlying30 rfl size30) rfl ?_
  exact tree_done (t := setN true [⟨10, 10⟩]) HGL.out (keep_below HK1.out HB1.out) (Kd.R_lower HR1.out hle) (Kd.R_lower HR2.out hle) (HA1.out.below HB1.out)

set_option maxHeartbeats 4000000 in
set_option maxRecDepth 100000 in
theorem atom_self {w : World} {g : Nat} {s : ByteArray} {r : List Int} {c : Int} (hc : c ≠ 40 ∧ c ≠ 46 ∧ c ≠ 91 ∧ c ≠ 92 ∧ c ≠ 42 ∧ c ≠ 43 ∧ c ≠ 63) (h : At w g s (c :: r)) : Calls Try.prog 62 #[.pointer (some ⟨g, 0, none⟩)] w (TRes w g s (.ok (setN false [⟨c, c⟩]) r)) := by
  have hrc := h.rng c (by simp)
  have hc0 := hrc.1
  have hc1 := hrc.2
  clear hrc
  obtain ⟨i, f6, f7, f8, q1, q2, q3⟩ := (h.moved (o := .cells #[.int .i64 0, .slice none 0 0, .slice none 0 0] 30)).facts
  have Q2 := Lib.hid q2
  have HN := Lib.hid (next_cons (h.moved (o := .cells #[.int .i64 0, .slice none 0 0, .slice none 0 0] 30)))
  have hgl := h.lt
  have HGL := Lib.hid hgl
  clear h hgl q2
  have g40 : (c == 40) = false := by simp; omega
  have g46 : (c == 46) = false := by simp; omega
  have g91 : (c == 91) = false := by simp; omega
  have g92 : (c == 92) = false := by simp; omega
  have g42 : (c == 42) = false := by simp; omega
  have g43 : (c == 43) = false := by simp; omega
  have g63 : (c == 63) = false := by simp; omega
  clear hc
  go_enter Try.func62, Try.ntmps62
  go_wp2_with (first | (go_at_call 69; (have hguard := HN; clear hguard); refine HN.out.mono ?_; rintro e w1 ⟨rfl, hk, ha⟩; (have HK1 := Lib.hid hk; have HA1 := Lib.hid ha; clear hk ha HN)) | (go_at_call 70; go_loud ((with_reducible refine (one_any w1 false c c hc0 (Int.le_refl _) hc1).mono ?_); rintro e w5 ⟨v, rfl, ⟨A1, n1, c1, A2, n2, c2, rfl, hr1, hr2⟩, hb⟩; have h1 := (hb.block w.heap.size (Nat.lt_of_lt_of_le (by rw [al_size]; exact Nat.lt_succ_self _) HK1.out.1)).trans (zS_at HK1.out HGL.out); have f0 := blk_cell h1 0; have f1 := blk_cell h1 1; have f2 := blk_cell h1 2; have f3 := blk_frozen h1 0; have f4 := blk_frozen h1 1; have f5 := blk_frozen h1 2; (simp only [List.getElem?_toArray, List.getElem?_cons_zero, List.getElem?_cons_succ] at f0 f1 f2); have H1 := Lib.hid h1; have HR1 := Lib.hid hr1; have HR2 := Lib.hid hr2; have HB1 := Lib.hid hb; clear h1 hr1 hr2 hb)))
  have hg := store3 H1.out (.int .i64 1) (.slice A1 n1 c1) (.slice A2 n2 c2)
  have hle := HK1.out.1
  rw [al_size] at hle
  refine bodyPost_ret (results_cell_row (p := 2) rfl _ _ w.heap.size 30 _ (0, 0) _ rfl hg Try.underlying30 rfl size30) rfl ?_
  exact tree_done (t := setN false [⟨c, c⟩]) HGL.out (keep_below HK1.out HB1.out) (Kd.R_lower HR1.out hle) (Kd.R_lower HR2.out hle) (HA1.out.below HB1.out)

set_option maxHeartbeats 4000000 in
set_option maxRecDepth 100000 in
theorem atom_star {w : World} {g : Nat} {s : ByteArray} {r : List Int} (h : At w g s (42 :: r)) : Calls Try.prog 62 #[.pointer (some ⟨g, 0, none⟩)] w (TRes w g s (.err 30 (r.length + 1))) := by
  obtain ⟨i, f6, f7, f8, q1, q2, q3⟩ := (h.moved (o := .cells #[.int .i64 0, .slice none 0 0, .slice none 0 0] 30)).facts
  have Q2 := Lib.hid q2
  have HN := Lib.hid (next_cons (h.moved (o := .cells #[.int .i64 0, .slice none 0 0, .slice none 0 0] 30)))
  have hgl := h.lt
  have HGL := Lib.hid hgl
  clear h hgl q2
  go_enter Try.func62, Try.ntmps62
  go_wp2_with (first | (go_at_call 69; (have hguard := HN; clear hguard); refine HN.out.mono ?_; rintro e w1 ⟨rfl, hk, ha⟩; (have HK1 := Lib.hid hk; have HA1 := Lib.hid ha; clear hk ha HN)) | (go_at_call 24; refine (fail_any _ _ _ _).mono ?_; rintro e wq2 ⟨rfl, rfl⟩))
  exact ⟨rfl, by have := Q2.out; simp only [List.length_cons] at this; rw [show (s.size : Int) - ((r.length + 1 : Nat) : Int) = i by omega], sub_keep HK1.out HGL.out⟩

set_option maxHeartbeats 4000000 in
set_option maxRecDepth 100000 in
theorem atom_plus {w : World} {g : Nat} {s : ByteArray} {r : List Int} (h : At w g s (43 :: r)) : Calls Try.prog 62 #[.pointer (some ⟨g, 0, none⟩)] w (TRes w g s (.err 30 (r.length + 1))) := by
  obtain ⟨i, f6, f7, f8, q1, q2, q3⟩ := (h.moved (o := .cells #[.int .i64 0, .slice none 0 0, .slice none 0 0] 30)).facts
  have Q2 := Lib.hid q2
  have HN := Lib.hid (next_cons (h.moved (o := .cells #[.int .i64 0, .slice none 0 0, .slice none 0 0] 30)))
  have hgl := h.lt
  have HGL := Lib.hid hgl
  clear h hgl q2
  go_enter Try.func62, Try.ntmps62
  go_wp2_with (first | (go_at_call 69; (have hguard := HN; clear hguard); refine HN.out.mono ?_; rintro e w1 ⟨rfl, hk, ha⟩; (have HK1 := Lib.hid hk; have HA1 := Lib.hid ha; clear hk ha HN)) | (go_at_call 24; refine (fail_any _ _ _ _).mono ?_; rintro e wq2 ⟨rfl, rfl⟩))
  exact ⟨rfl, by have := Q2.out; simp only [List.length_cons] at this; rw [show (s.size : Int) - ((r.length + 1 : Nat) : Int) = i by omega], sub_keep HK1.out HGL.out⟩

set_option maxHeartbeats 4000000 in
set_option maxRecDepth 100000 in
theorem atom_quest {w : World} {g : Nat} {s : ByteArray} {r : List Int} (h : At w g s (63 :: r)) : Calls Try.prog 62 #[.pointer (some ⟨g, 0, none⟩)] w (TRes w g s (.err 30 (r.length + 1))) := by
  obtain ⟨i, f6, f7, f8, q1, q2, q3⟩ := (h.moved (o := .cells #[.int .i64 0, .slice none 0 0, .slice none 0 0] 30)).facts
  have Q2 := Lib.hid q2
  have HN := Lib.hid (next_cons (h.moved (o := .cells #[.int .i64 0, .slice none 0 0, .slice none 0 0] 30)))
  have hgl := h.lt
  have HGL := Lib.hid hgl
  clear h hgl q2
  go_enter Try.func62, Try.ntmps62
  go_wp2_with (first | (go_at_call 69; (have hguard := HN; clear hguard); refine HN.out.mono ?_; rintro e w1 ⟨rfl, hk, ha⟩; (have HK1 := Lib.hid hk; have HA1 := Lib.hid ha; clear hk ha HN)) | (go_at_call 24; refine (fail_any _ _ _ _).mono ?_; rintro e wq2 ⟨rfl, rfl⟩))
  exact ⟨rfl, by have := Q2.out; simp only [List.length_cons] at this; rw [show (s.size : Int) - ((r.length + 1 : Nat) : Int) = i by omega], sub_keep HK1.out HGL.out⟩

set_option maxHeartbeats 4000000 in
set_option maxRecDepth 100000 in
theorem atom_class_any {w : World} {g : Nat} {s : ByteArray} {r : List Int} (h : At w g s (91 :: r)) : Calls Try.prog 62 #[.pointer (some ⟨g, 0, none⟩)] w (TRes w g s (classR r)) := by
  obtain ⟨i, f6, f7, f8, q1, q2, q3⟩ := (h.moved (o := .cells #[.int .i64 0, .slice none 0 0, .slice none 0 0] 30)).facts
  have Q2 := Lib.hid q2
  have HN := Lib.hid (next_cons (h.moved (o := .cells #[.int .i64 0, .slice none 0 0, .slice none 0 0] 30)))
  have hgl := h.lt
  have HGL := Lib.hid hgl
  clear h hgl q2
  cases hq : classR r with
  | err ce ke =>
    have HQ := Lib.hid hq
    clear hq
    go_enter Try.func62, Try.ntmps62
    go_wp2_with (first | (go_at_call 69; (have hguard := HN; clear hguard); refine HN.out.mono ?_; rintro e w1 ⟨rfl, hk, ha⟩; (have HK1 := Lib.hid hk; have HA1 := Lib.hid ha; clear hk ha HN)) | (go_at_call 71; (have hguard := HK1; clear hguard); refine (class_any HA1.out).mono ?_; rw [HQ.out]; rintro e w5 ⟨rfl, hk⟩; have HK5 := Lib.hid hk; clear hk))
    exact ⟨rfl, rfl, sub_keep (HK1.out.trans HK5.out (.inl rfl)) HGL.out⟩
  | ok t r1 =>
    have HQ := Lib.hid hq
    clear hq
    go_enter Try.func62, Try.ntmps62
    go_wp2_with (first | (go_at_call 69; (have hguard := HN; clear hguard); refine HN.out.mono ?_; rintro e w1 ⟨rfl, hk, ha⟩; (have HK1 := Lib.hid hk; have HA1 := Lib.hid ha; clear hk ha HN)) | (go_at_call 71; (have hguard := HK1; clear hguard); go_loud (refine (class_any HA1.out).mono ?_; rw [HQ.out]; rintro e w5 ⟨v, rfl, ⟨A1, n1, c1, A2, n2, c2, rfl, hr1, hr2⟩, hk, ha⟩; have h1 := blk_kept_ (zS_at HK1.out HGL.out) hk (Nat.ne_of_gt HGL.out); have f0 := blk_cell h1 0; have f1 := blk_cell h1 1; have f2 := blk_cell h1 2; have f3 := blk_frozen h1 0; have f4 := blk_frozen h1 1; have f5 := blk_frozen h1 2; (simp only [List.getElem?_toArray, List.getElem?_cons_zero, List.getElem?_cons_succ] at f0 f1 f2); have H1 := Lib.hid h1; have HR1 := Lib.hid hr1; have HR2 := Lib.hid hr2; have HK5 := Lib.hid hk; have HA5 := Lib.hid ha; clear h1 hr1 hr2 hk ha)))
    have hg := store3 H1.out (.int .i64 t.f0) (.slice A1 n1 c1) (.slice A2 n2 c2)
    have hle := HK1.out.1
    rw [al_size] at hle
    refine bodyPost_ret (results_cell_row (p := 2) rfl _ _ w.heap.size 30 _ (0, 0) _ rfl hg Try.underlying30 rfl size30) rfl ?_
    exact tree_done HGL.out (HK1.out.trans HK5.out (.inl rfl)) (Kd.R_lower HR1.out hle) (Kd.R_lower HR2.out hle) HA5.out

set_option maxHeartbeats 4000000 in
set_option maxRecDepth 100000 in
theorem atom_back_any {w : World} {g : Nat} {s : ByteArray} {r : List Int} (alt : List Int → R S30) (h : At w g s (92 :: r)) : Calls Try.prog 62 #[.pointer (some ⟨g, 0, none⟩)] w (TRes w g s (atomR alt (92 :: r))) := by
  have HRG : Hid (∀ x, x ∈ r → 0 ≤ x ∧ x < 256) := Lib.hid (fun x hx => h.rng x (by simp [hx]))
  obtain ⟨i, f6, f7, f8, q1, q2, q3⟩ := (h.moved (o := .cells #[.int .i64 0, .slice none 0 0, .slice none 0 0] 30)).facts
  have Q2 := Lib.hid q2
  have HN := Lib.hid (next_cons (h.moved (o := .cells #[.int .i64 0, .slice none 0 0, .slice none 0 0] 30)))
  have hgl := h.lt
  have HGL := Lib.hid hgl
  clear h hgl q2
  rw [atom_back]
  have HI : Hid (i = (s.size : Int) - ((r.length + 1 : Nat) : Int)) := Lib.hid (by have := Q2.out; simp only [List.length_cons] at this; omega)
  by_cases hd : r.head? = some 100
  · rw [if_pos hd]
    have HIB : Hid (isB 100 r = true) := Lib.hid (by unfold isB; simpa using hd)
    have HIT : Hid (isT 100 r = r.tail) := Lib.hid (isT_yes HIB.out)
    clear hd
    go_enter Try.func62, Try.ntmps62
    go_wp2_with (first | (go_at_call 69; (have hguard := HN; clear hguard); refine HN.out.mono ?_; rintro e w1 ⟨rfl, hk, ha⟩; (have HK1 := Lib.hid hk; have HA1 := Lib.hid ha; clear hk ha HN)) | (go_at_call 50; (have hguard := HK1; clear hguard); refine (is_any HA1.out 100).mono ?_; rw [HIB.out, HIT.out]; rintro e w6 ⟨rfl, hk, ha⟩; (have HK6 := Lib.hid (HK1.out.trans hk (.inl rfl)); have HA6 := Lib.hid ha; clear hk ha)) | (go_at_call 70; go_loud ((with_reducible refine (one_any w6 false 48 57 (by omega) (by omega) (by omega)).mono ?_); rintro e w5 ⟨v, rfl, ⟨A1, n1, c1, A2, n2, c2, rfl, hr1, hr2⟩, hb⟩; have h1 := (hb.block w.heap.size (Nat.lt_of_lt_of_le (by rw [al_size]; exact Nat.lt_succ_self _) HK6.out.1)).trans (zS_at HK6.out HGL.out); have f0 := blk_cell h1 0; have f1 := blk_cell h1 1; have f2 := blk_cell h1 2; have f3 := blk_frozen h1 0; have f4 := blk_frozen h1 1; have f5 := blk_frozen h1 2; (simp only [List.getElem?_toArray, List.getElem?_cons_zero, List.getElem?_cons_succ] at f0 f1 f2); have H1 := Lib.hid h1; have HR1 := Lib.hid hr1; have HR2 := Lib.hid hr2; have HB1 := Lib.hid hb; clear h1 hr1 hr2 hb)))
    have hg := store3 H1.out (.int .i64 1) (.slice A1 n1 c1) (.slice A2 n2 c2)
    have hle := HK6.out.1
    rw [al_size] at hle
    refine bodyPost_ret (results_cell_row (p := 2) rfl _ _ w.heap.size 30 _ (0, 0) _ rfl hg Try.underlying30 rfl size30) rfl ?_
    exact tree_done (t := setN false [⟨48, 57⟩]) HGL.out (keep_below HK6.out HB1.out) (Kd.R_lower HR1.out hle) (Kd.R_lower HR2.out hle) (HA6.out.below HB1.out)
  · rw [if_neg hd]
    have HIB : Hid (isB 100 r = false) := Lib.hid (by unfold isB; simpa using hd)
    have HIT : Hid (isT 100 r = r) := Lib.hid (isT_no HIB.out)
    clear hd
    cases hq : escR (r.length + 1) r with
    | err ce ke =>
      have HQ := Lib.hid hq
      clear hq
      go_enter Try.func62, Try.ntmps62
      go_wp2_with (first | (go_at_call 69; (have hguard := HN; clear hguard); refine HN.out.mono ?_; rintro e w1 ⟨rfl, hk, ha⟩; (have HK1 := Lib.hid hk; have HA1 := Lib.hid ha; clear hk ha HN)) | (go_at_call 50; (have hguard := HK1; clear hguard); refine (is_any HA1.out 100).mono ?_; rw [HIB.out, HIT.out]; rintro e w6 ⟨rfl, hk, ha⟩; (have HK6 := Lib.hid (HK1.out.trans hk (.inl rfl)); have HA6 := Lib.hid ha; clear hk ha)) | (go_at_call 72; (have hguard := HK6; clear hguard); refine (esc_any HA6.out (r.length + 1) i HI.out).mono ?_; rw [HQ.out]; rintro e w7 ⟨rfl, hk⟩; have HK7 := Lib.hid hk; clear hk))
      exact ⟨rfl, rfl, sub_keep (HK6.out.trans HK7.out (.inl rfl)) HGL.out⟩
    | ok d r1 =>
      have HQ := Lib.hid hq
      have hrd : (∀ x, x ∈ r → 0 ≤ x ∧ x < 256) → 0 ≤ d ∧ d < 256 := fun h => esc_rng h hq
      have hrd2 := hrd HRG.out
      have hd0 := hrd2.1
      have hd1 := hrd2.2
      clear hq hrd hrd2
      go_enter Try.func62, Try.ntmps62
      go_wp2_with (first | (go_at_call 69; (have hguard := HN; clear hguard); refine HN.out.mono ?_; rintro e w1 ⟨rfl, hk, ha⟩; (have HK1 := Lib.hid hk; have HA1 := Lib.hid ha; clear hk ha HN)) | (go_at_call 50; (have hguard := HK1; clear hguard); refine (is_any HA1.out 100).mono ?_; rw [HIB.out, HIT.out]; rintro e w6 ⟨rfl, hk, ha⟩; (have HK6 := Lib.hid (HK1.out.trans hk (.inl rfl)); have HA6 := Lib.hid ha; clear hk ha)) | (go_at_call 72; (have hguard := HK6; clear hguard); refine (esc_any HA6.out (r.length + 1) i HI.out).mono ?_; rw [HQ.out]; rintro e w7 ⟨rfl, hk, ha⟩; (have HK7 := Lib.hid (HK6.out.trans hk (.inl rfl)); have HA7 := Lib.hid ha; clear hk ha)) | (go_at_call 70; go_loud ((with_reducible refine (one_any w7 false d d hd0 (Int.le_refl _) hd1).mono ?_); rintro e w5 ⟨v, rfl, ⟨A1, n1, c1, A2, n2, c2, rfl, hr1, hr2⟩, hb⟩; have h1 := (hb.block w.heap.size (Nat.lt_of_lt_of_le (by rw [al_size]; exact Nat.lt_succ_self _) HK7.out.1)).trans (zS_at HK7.out HGL.out); have f0 := blk_cell h1 0; have f1 := blk_cell h1 1; have f2 := blk_cell h1 2; have f3 := blk_frozen h1 0; have f4 := blk_frozen h1 1; have f5 := blk_frozen h1 2; (simp only [List.getElem?_toArray, List.getElem?_cons_zero, List.getElem?_cons_succ] at f0 f1 f2); have H1 := Lib.hid h1; have HR1 := Lib.hid hr1; have HR2 := Lib.hid hr2; have HB1 := Lib.hid hb; clear h1 hr1 hr2 hb)))
      have hg := store3 H1.out (.int .i64 1) (.slice A1 n1 c1) (.slice A2 n2 c2)
      have hle := HK7.out.1
      rw [al_size] at hle
      refine bodyPost_ret (results_cell_row (p := 2) rfl _ _ w.heap.size 30 _ (0, 0) _ rfl hg Try.underlying30 rfl size30) rfl ?_
      exact tree_done (t := setN false [⟨d, d⟩]) HGL.out (keep_below HK7.out HB1.out) (Kd.R_lower HR1.out hle) (Kd.R_lower HR2.out hle) (HA7.out.below HB1.out)

set_option maxHeartbeats 4000000 in
set_option maxRecDepth 100000 in
theorem atom_open_any {w : World} {g : Nat} {s : ByteArray} {r : List Int} {n : Nat} (H : AltH n) (hlen : Hid (r.length < n)) (h : At w g s (40 :: r)) : Calls Try.prog 62 #[.pointer (some ⟨g, 0, none⟩)] w (TRes w g s (atomR altR (40 :: r))) := by
  obtain ⟨i, f6, f7, f8, q1, q2, q3⟩ := (h.moved (o := .cells #[.int .i64 0, .slice none 0 0, .slice none 0 0] 30)).facts
  have Q2 := Lib.hid q2
  have HN := Lib.hid (next_cons (h.moved (o := .cells #[.int .i64 0, .slice none 0 0, .slice none 0 0] 30)))
  have hgl := h.lt
  have HGL := Lib.hid hgl
  clear h hgl q2
  rw [atom_open]
  cases hq : altR r with
  | err ce ke =>
    have HQ := Lib.hid hq
    clear hq
    go_enter Try.func62, Try.ntmps62
    go_wp2_with (first | (go_at_call 69; (have hguard := HN; clear hguard); refine HN.out.mono ?_; rintro e w1 ⟨rfl, hk, ha⟩; (have HK1 := Lib.hid hk; have HA1 := Lib.hid ha; clear hk ha HN)) | (go_at_call 22; (have hguard := HK1; clear hguard); refine (H w1 g s r hlen.out HA1.out).mono ?_; rw [HQ.out]; rintro e w5 ⟨rfl, hk⟩; have HK5 := Lib.hid hk; clear hk))
    exact ⟨rfl, rfl, sub_keep (HK1.out.trans HK5.out (.inl rfl)) HGL.out⟩
  | ok t r1 =>
    have HQ := Lib.hid hq
    clear hq
    cases r1 with
    | nil =>
      go_enter Try.func62, Try.ntmps62
      go_wp2_with (first | (go_at_call 69; (have hguard := HN; clear hguard); refine HN.out.mono ?_; rintro e w1 ⟨rfl, hk, ha⟩; (have HK1 := Lib.hid hk; have HA1 := Lib.hid ha; clear hk ha HN)) | (go_at_call 22; (have hguard := HK1; clear hguard); go_loud (refine (H w1 g s r hlen.out HA1.out).mono ?_; rw [HQ.out]; rintro e w2 ⟨v, rfl, ⟨A1, n1, c1, A2, n2, c2, rfl, hr1, hr2⟩, hk, ha⟩; have h1 := blk_alloc (blk_kept_ (zS_at HK1.out HGL.out) hk (Nat.ne_of_gt HGL.out)) (.cells #[.int .i64 t.f0, .slice A1 n1 c1, .slice A2 n2 c2] 30); have f0 := blk_cell h1 0; have f1 := blk_cell h1 1; have f2 := blk_cell h1 2; have f3 := blk_frozen h1 0; have f4 := blk_frozen h1 1; have f5 := blk_frozen h1 2; (simp only [List.getElem?_toArray, List.getElem?_cons_zero, List.getElem?_cons_succ] at f0 f1 f2); (obtain ⟨j, k0, k1, k2, x1, x2, x3⟩ := (ha.moved (o := (.cells #[.int .i64 t.f0, .slice A1 n1 c1, .slice A2 n2 c2] 30))).facts); have l1 : w.heap.size + 1 ≤ w2.heap.size := (by have l := (HK1.out.trans hk (.inl rfl)).1; rw [al_size] at l; exact l); have l2 := HGL.out; have hn1 : ¬ g = w.heap.size := (by omega); have hn2 : ¬ w.heap.size = g := (by omega); have hn3 : ¬ w2.heap.size = g := (by omega); have hn4 : ¬ g = w2.heap.size := (by omega); have hn5 : ¬ w2.heap.size = w.heap.size := (by omega); have hn6 : ¬ w.heap.size = w2.heap.size := (by omega); have L1 := Lib.hid l1; clear l1 l2; have H1 := Lib.hid h1; have HR1 := Lib.hid hr1; have HR2 := Lib.hid hr2; have HK2 := Lib.hid (HK1.out.trans hk (.inl rfl)); have HA2 := Lib.hid ha; clear h1 hr1 hr2 hk ha)) | (go_at_call 23; (have hguard := HK2; clear hguard); refine (over_nil (HA2.out.moved (o := (.cells #[.int .i64 t.f0, .slice A1 n1 c1, .slice A2 n2 c2] 30)))).mono ?_; rintro e wq ⟨rfl, q, rfl⟩) | (go_at_call 24; refine (fail_any _ _ _ _).mono ?_; rintro e wq2 ⟨rfl, rfl⟩))
      exact ⟨rfl, by simp, sub_keep (keep_drewN (keep_alloc HK2.out _) _) HGL.out⟩
    | cons c2_ r2 =>
      go_enter Try.func62, Try.ntmps62
      go_wp2_with (first | (go_at_call 69; (have hguard := HN; clear hguard); refine HN.out.mono ?_; rintro e w1 ⟨rfl, hk, ha⟩; (have HK1 := Lib.hid hk; have HA1 := Lib.hid ha; clear hk ha HN)) | (go_at_call 22; (have hguard := HK1; clear hguard); go_loud (refine (H w1 g s r hlen.out HA1.out).mono ?_; rw [HQ.out]; rintro e w2 ⟨v, rfl, ⟨A1, n1, c1, A2, n2, c2, rfl, hr1, hr2⟩, hk, ha⟩; have h1 := blk_alloc (blk_kept_ (zS_at HK1.out HGL.out) hk (Nat.ne_of_gt HGL.out)) (.cells #[.int .i64 t.f0, .slice A1 n1 c1, .slice A2 n2 c2] 30); have f0 := blk_cell h1 0; have f1 := blk_cell h1 1; have f2 := blk_cell h1 2; have f3 := blk_frozen h1 0; have f4 := blk_frozen h1 1; have f5 := blk_frozen h1 2; (simp only [List.getElem?_toArray, List.getElem?_cons_zero, List.getElem?_cons_succ] at f0 f1 f2); (obtain ⟨j, k0, k1, k2, x1, x2, x3, k4, k5, x6, x7⟩ := (ha.moved (o := (.cells #[.int .i64 t.f0, .slice A1 n1 c1, .slice A2 n2 c2] 30))).char); have l1 : w.heap.size + 1 ≤ w2.heap.size := (by have l := (HK1.out.trans hk (.inl rfl)).1; rw [al_size] at l; exact l); have l2 := HGL.out; have hn1 : ¬ g = w.heap.size := (by omega); have hn2 : ¬ w.heap.size = g := (by omega); have hn3 : ¬ w2.heap.size = g := (by omega); have hn4 : ¬ g = w2.heap.size := (by omega); have hn5 : ¬ w2.heap.size = w.heap.size := (by omega); have hn6 : ¬ w.heap.size = w2.heap.size := (by omega); have L1 := Lib.hid l1; clear l1 l2; have HA3 := Lib.hid k5; clear k5; have H1 := Lib.hid h1; have HR1 := Lib.hid hr1; have HR2 := Lib.hid hr2; have HK2 := Lib.hid (HK1.out.trans hk (.inl rfl)); have HA2 := Lib.hid ha; clear h1 hr1 hr2 hk ha)) | (go_at_call 23; (have hguard := HK2; clear hguard); refine (over_cons (HA2.out.moved (o := (.cells #[.int .i64 t.f0, .slice A1 n1 c1, .slice A2 n2 c2] 30)))).mono ?_; rintro e wq ⟨rfl, q, rfl⟩) | (go_at_call 24; refine (fail_any _ _ _ _).mono ?_; rintro e wq2 ⟨rfl, rfl⟩))
      have hg := store3 ((Below.heap_setCell _ ⟨g, 1, none⟩ (.int .i64 (j + 1)) w.heap.size (Nat.ne_of_gt HGL.out)).trans H1.out : (((w2.alloc (.cells #[.int .i64 t.f0, .slice A1 n1 c1, .slice A2 n2 c2] 30)).drewN q).setCell ⟨g, 1, none⟩ (.int .i64 (j + 1))).heap[w.heap.size]? = _) (.int .i64 t.f0) (.slice A1 n1 c1) (.slice A2 n2 c2)
      have hle := HK1.out.1
      rw [al_size] at hle
      have hgl := HGL.out
      refine bodyPost_ret (results_cell_row (p := 2) rfl _ _ w.heap.size 30 _ (0, 0) _ rfl hg Try.underlying30 rfl size30) rfl ?_
      exact tree_done HGL.out ((keep_drewN (keep_alloc HK2.out _) _).set_ 1 _) (R_old (Kd.R_alloc (Kd.R_lower HR1.out hle) _) (fun k h1 h2 => Below.heap_setCell _ ⟨g, 1, none⟩ _ k (by show k ≠ g; omega))) (R_old (Kd.R_alloc (Kd.R_lower HR2.out hle) _) (fun k h1 h2 => Below.heap_setCell _ ⟨g, 1, none⟩ _ k (by show k ≠ g; omega))) (HA3.out.drew_set q)

theorem atom_any {n : Nat} (H : AltH n) {w : World} {g : Nat} {s : ByteArray} {r : List Int} (hlen : r.length ≤ n) (h : At w g s r) : Calls Try.prog 62 #[.pointer (some ⟨g, 0, none⟩)] w (TRes w g s (atomR altR r)) := by
  cases r with
  | nil => exact atom_nil h
  | cons c r =>
    by_cases h1 : c = 40
    · subst h1; exact atom_open_any H (Lib.hid hlen) h
    · by_cases h2 : c = 46
      · subst h2; exact atom_dot_any h
      · by_cases h3 : c = 91
        · subst h3; exact atom_class_any h
        · by_cases h4 : c = 92
          · subst h4; exact atom_back_any altR h
          · by_cases h5 : c = 42
            · subst h5; exact atom_star h
            · by_cases h6 : c = 43
              · subst h6; exact atom_plus h
              · by_cases h7 : c = 63
                · subst h7; exact atom_quest h
                · have e : atomR altR (c :: r) = .ok (setN false [⟨c, c⟩]) r := by
                    rw [atomR, if_neg h1, if_neg h2, if_neg h3, if_neg h4, if_neg (by omega)]
                  rw [e]
                  exact atom_self ⟨h1, h2, h3, h4, h5, h6, h7⟩ h

end Go.Proofs.Ytdgidcfmggmbiaa.Rx
