/- The walks of newSet, clear and meet. -/
import Derived.Test.YtmhodkkfbbpgaaaLoop
import Derived.Test.YtmhodkkfbbpgaaaSim
import Derived.Laws.MakeOwn
namespace Go.Proofs.Ytmhodkkfbbpgaaa.Nm
set_option linter.unusedVariables false
set_option linter.unusedSimpArgs false
open Go.RowKit Mem Re

def ints (l : List Int) : Array Value := (l.map (Value.int .i64)).toArray
theorem ints_get {l : List Int} {k : Nat} (h : k < l.length) : (ints l)[k]? = some (.int .i64 l[k]) := by simp [ints, h]
theorem ints_getD {l : List Int} {k : Nat} (h : k < l.length) (d : Int) : (ints l)[k]? = some (.int .i64 (l.getD k d)) := by rw [ints_get h, getD_lt h]
theorem ints_set (l : List Int) (k : Nat) (v : Int) : (ints l).setIfInBounds k (.int .i64 v) = ints (l.set k v) := by simp [ints, List.map_set]
theorem made_zero (n : Nat) : madeCells #[.int .i64 0] n = ints (List.replicate n 0) := by
  apply Array.ext_getElem?
  intro i
  by_cases hi : i < n
  · rw [ints_get (by simpa using hi)]
    simp [madeCells, hi, Nat.mod_one]
  · rw [Array.getElem?_eq_none (by rw [size_madeCells]; omega), Array.getElem?_eq_none (by simp [ints]; omega)]

/-- A set of states in memory. -/
structure SS (w : World) (base sb : Nat) (F L : List Int) (lv : Value) (fb : Nat) : Prop where
  blk : Blk w sb 71 #[lv, .slice (some ⟨fb, 0, none⟩) F.length F.length]
  ge : base ≤ sb
  row : w.ownsRow base 3 1 lv L.length (L.map (Value.int .i64))
  fblk : Blk w fb 3 (ints F)
  fge : base ≤ fb
  ne_ : lv.ownBlock ≠ some fb

theorem infoInt : (Try.prog.info? 3).map (fun i => (i.zero, i.size, i.bytes)) = some (some (.int .i64 0), 1, 8) := by kernel_rfl

theorem make_ints (n : Nat) (hn : n ≤ 1000000) (w : World) : (Instr.makeSlice 69 (.int .i64 (n : Int)) (.int .i64 (n : Int))).run Try.prog w = .ok (.slice (some ⟨w.heap.size, 0, none⟩) n n) (w.alloc (.cells (ints (List.replicate n 0)) 3)) := by
  obtain ⟨i0, hi0, hz0, hz1, hz2⟩ := info_parts infoInt
  have := run_make (P := Try.prog) w 69 3 i0 (.int .i64 0) Try.underlying69 hi0 hz0 .i64 .i64 (n : Int) (n : Int) (by omega) (Int.le_refl _) (by rw [hz2]; omega) (by omega)
  rw [this, hz1, Int.toNat_natCast, Nat.mul_one]
  show _ = Result.ok _ (w.alloc (.cells (ints (List.replicate n 0)) 3))
  rw [← made_zero]
  rfl

set_option maxHeartbeats 1000000 in
theorem newSet_any (w : World) (base b : Nat) (R : List (St × Option Nat)) (sv : Value) (st en stp : Int) (h : PM w base b R sv st en stp) (hB : base ≤ w.heap.size) (hn : R.length ≤ 1000000) (hp : 0 < R.length) :
    Calls Try.prog 35 #[.pointer (some ⟨b, 0, none⟩)] w fun e w' => ∃ sb fb, e = .returned (.pointer (some ⟨sb, 0, none⟩)) ∧ SS w' base sb (List.replicate R.length (-1)) [] (.slice none 0 0) fb ∧ w.heap.size ≤ sb ∧ w.heap.size ≤ fb ∧ Kp w w' (fun _ => False) := by
  obtain ⟨g, cap, rfl⟩ := own_form h.row hp
  have m0 := h.blk.cell 0
  simp at m0
  have hbs := h.blk.lt
  have hcp := own_cap h.row
  obtain ⟨cap1, cap2⟩ := hcp
  have hmk := make_ints R.length hn
  clear h
  go_enter Try.func35, Try.ntmps35
  go_wp2
  generalize hn0 : R.length = n at *
  have hf0 : Blk ((w.alloc (.cells (ints (List.replicate n 0)) 3)).alloc (.cells #[.slice none 0 0, .slice (some ⟨w.heap.size, 0, none⟩) n n] 71)) w.heap.size 3 (ints (List.replicate n 0)) := (Blk.new _ _ _).alloc _
  have hs0 : Blk ((w.alloc (.cells (ints (List.replicate n 0)) 3)).alloc (.cells #[.slice none 0 0, .slice (some ⟨w.heap.size, 0, none⟩) n n] 71)) (w.heap.size + 1) 71 #[.slice none 0 0, .slice (some ⟨w.heap.size, 0, none⟩) n n] := Blk.last _ _ _ (by simp)
  go_loopw [18] (fun i wr => ∃ k : Nat, k ≤ n ∧ i = .int .i64 k ∧ Blk wr w.heap.size 3 (ints (List.replicate k (-1) ++ List.replicate (n - k) 0)) ∧ Blk wr (w.heap.size + 1) 71 #[.slice none 0 0, .slice (some ⟨w.heap.size, 0, none⟩) n n] ∧ Kp w wr (fun _ => False)) (fun i _ => n - (intOf i).toNat)
  case atStart => exact ⟨0, Nat.zero_le _, rfl, by simpa using hf0, hs0, ((Kp.refl w _).alloc _).alloc _⟩
  case round =>
    obtain ⟨k, hk, rfl, hF, hS, hK⟩ := hrel
    by_cases hlt : k < n
    · have f0 := hF.cell k
      rw [ints_get (by simp; omega)] at f0
      have f1 := hF.frozen k
      have s1 := hS.cell 1
      simp at s1
      generalize (List.replicate k (-1) ++ List.replicate (n - k) 0 : List Int)[k]'(by simp; omega) = old at f0
      have HF := Lib.hid hF
      have HS := Lib.hid hS
      have HK := Lib.hid hK
      clear hF hS hK hf0 hs0 hmk
      go_wp2
      go_roundw
      case rel =>
        refine ⟨k + 1, by omega, by go_num, ?_, HS.out.far (p := ⟨w.heap.size, k, none⟩) (by simp) _, HK.out.set_ (p := ⟨w.heap.size, k, none⟩) (fun c => by simp at c) _⟩
        have e := HF.out.set_ k (.int .i64 (-1))
        rw [ints_set] at e
        have e2 : (List.replicate k (-1) ++ List.replicate (n - k) 0 : List Int).set k (-1) = List.replicate (k + 1) (-1) ++ List.replicate (n - (k + 1)) 0 := by
          rw [List.set_append_right _ _ (by simp), List.length_replicate, Nat.sub_self, show n - k = (n - (k + 1)) + 1 by omega, List.replicate_succ (n := n - (k + 1)), List.set_cons_zero, List.replicate_succ', List.append_assoc]
          rfl
        rw [e2] at e
        exact e
      case measure => simp [intOf]; omega
    · obtain rfl : k = n := by omega
      rw [Nat.sub_self, List.replicate_zero, List.append_nil] at hF
      have HP : Hid (SS wr base (w.heap.size + 1) (List.replicate k (-1)) [] (.slice none 0 0) w.heap.size ∧ Kp w wr (fun _ => False)) := ⟨⟨by simpa using hS, by omega, World.ownsRow_nil _ _ _ _, hF, hB, by simp [Value.ownBlock]⟩, hK⟩
      clear hF hS hK hf0 hs0 hmk
      go_wp2
      go_ret
      refine ⟨w.heap.size + 1, w.heap.size, rfl, ?_, by omega, Nat.le_refl _, HP.out.2⟩
      rw [hn0]
      exact HP.out.1

/-- What a call on a set changes. -/
def Oss (sb fb : Nat) (lv : Value) (k : Nat) : Prop := k = sb ∨ k = fb ∨ lv.ownBlock = some k

theorem SS.oth {w : World} {base sb : Nat} {F L : List Int} {lv : Value} {fb : Nat} (h : SS w base sb F L lv fb) : Oth w (Oss sb fb lv) := by
  rintro k c t cs hb
  have key : ∀ t', t ≠ t' → ∀ t'', t ≠ t'' → True := fun _ _ _ _ => trivial
  rcases c with rfl | rfl | c
  · refine ⟨?_, ?_, ?_⟩ <;> (intro e; subst e; exact (h.blk.ne_ hb (by decide)) rfl)
  · refine ⟨?_, ?_, ?_⟩ <;> (intro e; subst e; exact (h.fblk.ne_ hb (by decide)) rfl)
  · refine ⟨?_, ?_, ?_⟩ <;> (intro e; subst e; exact own_blk_ne h.row hb (by decide) c)

theorem SS.kp {w w' : World} {base sb : Nat} {F L : List Int} {lv : Value} {fb : Nat} {ex : Nat → Prop} (h : SS w base sb F L lv fb) (hk : Kp w w' ex) (hx : ∀ k, ex k → ¬ Oss sb fb lv k) : SS w' base sb F L lv fb where
  blk := h.blk.kp hk (fun c => hx _ c (.inl rfl))
  ge := h.ge
  row := own_kp h.row hk (fun k e c => hx _ c (.inr (.inr e)))
  fblk := h.fblk.kp hk (fun c => hx _ c (.inr (.inl rfl)))
  fge := h.fge
  ne_ := h.ne_

set_option maxHeartbeats 1000000 in
theorem clear_any (w : World) (base sb : Nat) (F L : List Int) (lv : Value) (fb : Nat) (h : SS w base sb F L lv fb) (hL : ∀ x, x ∈ L → 0 ≤ x ∧ x < F.length) (hn : F.length ≤ 1000000) (hln : L.length ≤ 1000000) :
    Calls Try.prog 37 #[.pointer (some ⟨sb, 0, none⟩)] w fun e w' => e = .returned (.tuple #[]) ∧ ∃ F' lv', SS w' base sb F' [] lv' fb ∧ F'.length = F.length ∧ (∀ y : Int, 0 ≤ y → y < F.length → (y ∈ L → fa F' y = -1) ∧ (y ∉ L → fa F' y = fa F y)) ∧ lv'.ownBlock = lv.ownBlock ∧ Kp w w' (Oss sb fb lv) := by
  obtain ⟨LA, lc, hlv⟩ : ∃ LA lc, lv = .slice LA L.length lc := by
    rcases h.row.2 with ⟨e, e2⟩ | ⟨g, cap, _, e, _⟩
    · rw [e, e2]; exact ⟨_, _, rfl⟩
    · exact ⟨_, _, e⟩
  subst hlv
  have b0 := h.blk.cell 0
  have b1 := h.blk.cell 1
  simp at b0 b1
  have hcut : ∀ W : World, w.heap.size ≤ W.heap.size → W.ownsRow base 3 1 (.slice LA L.length lc) L.length (L.map (Value.int .i64)) → W.ownsRow base 3 1 (.slice LA 0 lc) 0 [] := by
    intro W _ h
    refine ⟨by simp, ?_⟩
    rcases h.2 with ⟨e, e2⟩ | ⟨g, cap, cur, e, q1, q2, q3, q4, q5, q6⟩
    · injection e with e1 _ e3
      exact .inl ⟨by rw [e1, e3], rfl⟩
    · injection e with e1 _ e3
      exact .inr ⟨g, cap, cur, by rw [e1, e3], q1, q2, Nat.zero_le _, q4, q5, by simp⟩
  have hown : (Value.slice LA 0 lc).ownBlock = (Value.slice LA L.length lc).ownBlock := by cases LA <;> rfl
  have HCUT := Lib.hid hcut
  have HOWN := Lib.hid hown
  have HS := Lib.hid h
  have HL := Lib.hid hL
  clear h hL hcut hown
  go_enter Try.func37, Try.ntmps37
  go_wp2
  go_loopw [9] (fun i wr => ∃ k : Nat, k ≤ L.length ∧ i = .int .i64 k ∧ ∃ F', SS wr base sb F' L (.slice LA L.length lc) fb ∧ F'.length = F.length ∧ (∀ y : Int, 0 ≤ y → y < F.length → (y ∈ L.take k → fa F' y = -1) ∧ (y ∉ L.take k → fa F' y = fa F y)) ∧ Kp w wr (Oss sb fb (.slice LA L.length lc))) (fun i _ => L.length - (intOf i).toNat)
  case atStart => exact ⟨0, Nat.zero_le _, rfl, F, HS.out, rfl, fun y _ _ => ⟨fun h => by simp at h, fun _ => rfl⟩, Kp.refl _ _⟩
  case round =>
    obtain ⟨k, hk, rfl, F', hSS, hlen, hF, hK⟩ := hrel
    by_cases hlt : k < L.length
    · obtain ⟨g, cap, e⟩ := own_form hSS.row (by omega)
      injection e with e1 _ e3
      subst e1 e3
      have l0 := own_cell hSS.row (j := k) (u := .int .i64 L[k]) (by simp [hlt])
      have hx := HL.out L[k] (List.getElem_mem _)
      obtain ⟨x, hxe⟩ : ∃ x : Nat, L[k] = (x : Int) := ⟨L[k].toNat, by omega⟩
      rw [hxe] at hx l0
      have c0 := hSS.blk.cell 0
      have c1 := hSS.blk.cell 1
      simp at c0 c1
      rw [hlen] at c1
      have f0 := hSS.fblk.cell x
      rw [ints_get (by omega)] at f0
      have f1 := hSS.fblk.frozen x
      generalize F'[x]'(by omega) = old at f0
      have hxl : x < F.length := by omega
      have HNEW : Hid (SS (wr.setCell ⟨fb, x, none⟩ (.int .i64 (-1))) base sb (F'.set x (-1)) L (.slice (some ⟨g, 0, none⟩) L.length lc) fb) := by
        have hq : Kp wr (wr.setCell ⟨fb, x, none⟩ (.int .i64 (-1))) (fun q => q = fb) := Kp.set_ (p := ⟨fb, x, none⟩) (Kp.refl wr (fun q => q = fb)) (fun _ => rfl) _
        refine ⟨by rw [List.length_set]; exact hSS.blk.far (p := ⟨fb, x, none⟩) (hSS.blk.ne_ hSS.fblk (by decide)) _, hSS.ge, own_kp hSS.row hq (fun k e c => hSS.ne_ (by rw [e, c])), ?_, hSS.fge, hSS.ne_⟩
        have := hSS.fblk.set_ x (.int .i64 (-1))
        rwa [ints_set] at this
      have HF : Hid (∀ y : Int, 0 ≤ y → y < F.length → (y ∈ L.take (k + 1) → fa (F'.set x (-1)) y = -1) ∧ (y ∉ L.take (k + 1) → fa (F'.set x (-1)) y = fa F y)) := by
        intro y y0 y1
        have hs := fa_set (F := F') (x := (x : Int)) (a := -1) (by omega) (by omega) y0
        rw [Int.toNat_natCast] at hs
        rw [hs, List.take_succ_eq_append_getElem hlt, hxe]
        obtain ⟨a1, a2⟩ := hF y y0 y1
        constructor
        · intro hm
          split
          · rfl
          · rename_i hne
            rcases List.mem_append.1 hm with hm | hm
            · exact a1 hm
            · simp at hm; exact (hne hm).elim
        · intro hm
          simp only [List.mem_append, List.mem_singleton, not_or] at hm
          rw [if_neg hm.2]
          exact a2 hm.1
      have HK := Lib.hid hK
      have HLN := Lib.hid hlen
      clear hSS hlen hF hK hx hxe
      go_wp2
      go_roundw
      case rel => exact ⟨k + 1, by omega, by go_num, F'.set x (-1), HNEW.out, by rw [List.length_set]; exact HLN.out, HF.out, HK.out.set_ (p := ⟨fb, x, none⟩) (fun _ => .inr (.inl rfl)) _⟩
      case measure => simp [intOf]; omega
    · obtain rfl : k = L.length := by omega
      rw [List.take_length] at hF
      have c0 := hSS.blk.cell 0
      simp at c0
      have c1 := hSS.blk.frozen 0
      have HP : Hid (∃ F' lv', SS (wr.setCell ⟨sb, 0, none⟩ (.slice LA 0 lc)) base sb F' [] lv' fb ∧ F'.length = F.length ∧ (∀ y : Int, 0 ≤ y → y < F.length → (y ∈ L → fa F' y = -1) ∧ (y ∉ L → fa F' y = fa F y)) ∧ lv'.ownBlock = (Value.slice LA L.length lc).ownBlock ∧ Kp w (wr.setCell ⟨sb, 0, none⟩ (.slice LA 0 lc)) (Oss sb fb (.slice LA L.length lc))) := by
        have hq : Kp wr (wr.setCell ⟨sb, 0, none⟩ (.slice LA 0 lc)) (fun q => q = sb) := Kp.set_ (p := ⟨sb, 0, none⟩) (Kp.refl wr (fun q => q = sb)) (fun _ => rfl) _
        refine ⟨F', .slice LA 0 lc, ⟨by simpa using hSS.blk.set_ 0 (.slice LA 0 lc), hSS.ge, own_kp (HCUT.out wr hK.size hSS.row) hq ?_, hSS.fblk.far (p := ⟨sb, 0, none⟩) (hSS.fblk.ne_ hSS.blk (by decide)) _, hSS.fge, by rw [HOWN.out]; exact hSS.ne_⟩, hlen, hF, HOWN.out, hK.set_ (p := ⟨sb, 0, none⟩) (fun _ => .inl rfl) _⟩
        intro q e c
        rw [HOWN.out] at e
        subst c
        exact own_blk_ne hSS.row hSS.blk (by decide) e
      clear hSS hlen hF hK
      go_wp2
      go_end0
      exact ⟨rfl, HP.out⟩

end Go.Proofs.Ytmhodkkfbbpgaaa.Nm
