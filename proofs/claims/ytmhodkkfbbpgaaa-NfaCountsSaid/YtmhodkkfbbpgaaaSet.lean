/- The walk of Prog.build at a set. -/
import Derived.Test.YtmhodkkfbbpgaaaAdd
import Derived.Test.YtmhodkkfbbpgaaaTree
import Derived.Deep.LoopGhost
namespace Go.Proofs.Ytmhodkkfbbpgaaa.Nm
set_option linter.unusedVariables false
set_option linter.unusedSimpArgs false
open Go.RowKit Mem Re Tree Go.Proofs.Ytmhodkkfbbpgaaa.PNfa Go.Proofs.YtmhodkkfbbpgaaaW.PrintWords Go.Proofs.YtmhodkkfbbpgaaaW.PrintLast Go.Proofs.YtmhodkkfbbpgaaaW.PrintMore

theorem getD_lt {α : Type} {l : List α} {k : Nat} {d : α} (h : k < l.length) : l.getD k d = l[k] := by rw [List.getD_eq_getElem?_getD, List.getElem?_eq_getElem h]; rfl

theorem inR_succ (rs : List Rg) (k : Nat) (h : k < rs.length) : inR (rs.take (k + 1)) = fun z => inR (rs.take k) z || (decide ((rd_T64 rs k).f0 ≤ z) && decide (z ≤ (rd_T64 rs k).f1)) := by
  funext z
  unfold rd_T64 inR
  rw [Int.toNat_natCast, getD_lt h, List.take_succ_eq_append_getElem h, List.any_append]
  simp only [List.any_cons, List.any_nil, Bool.or_false]

theorem setCells_size (f : Int → Bool) : (setCells f).size = 256 := by simp [setCells]
theorem setCells_get (f : Int → Bool) (c : Nat) (h : c < 256) : (setCells f)[c]? = some (.bool (f c)) := by simp [setCells, h]
theorem setCells_set (f g : Int → Bool) (c : Nat) (h : ∀ z : Nat, z < 256 → g z = if z = c then true else f z) : (setCells f).setIfInBounds c (.bool true) = setCells g := by
  apply Array.ext_getElem?
  intro i
  rw [Array.getElem?_setIfInBounds, setCells_size]
  by_cases hi : i < 256
  · rw [setCells_get f i hi, setCells_get g i hi, h i hi]
    by_cases e : c = i
    · subst e; simp [hi]
    · rw [if_neg e, if_neg (fun x => e x.symm)]
  · rw [Array.getElem?_eq_none (by rw [setCells_size]; omega), Array.getElem?_eq_none (by rw [setCells_size]; omega)]
    split
    · split
      · omega
      · rfl
    · rfl
theorem setCells_congr {f g : Int → Bool} (h : ∀ z : Nat, z < 256 → f z = g z) : setCells f = setCells g := by
  unfold setCells
  congr 1
  apply List.map_congr_left
  intro c hc
  rw [h c (by simpa using hc)]

theorem setCells_zero : (Array.replicate 256 (Value.bool false)) = setCells (fun _ => false) := by
  apply Array.ext
  · simp [setCells]
  · intro i h1 h2; simp [setCells]

theorem zeroSet (w : World) : (zeroValue 65).run Try.prog w = .ok (.agg (setCells fun _ => false)) w := by kernel_rfl

def PostB (W w : World) (b : Nat) (R : List (St × Option Nat)) (sv : Value) (st en stp : Int) (res : List St × Int) (e : Ending) (w' : World) : Prop :=
  e = .returned (.int .i64 res.2) ∧ ∃ R' sv', PM w' W.heap.size b R' sv' st en stp ∧ R'.map (·.1) = res.1 ∧ (sv'.ownBlock = sv.ownBlock ∨ ∃ k, sv'.ownBlock = some k ∧ w.heap.size ≤ k) ∧ Kp w w' (Own b sv)

set_option maxHeartbeats 1000000 in
set_option maxRecDepth 100000 in
theorem build_set (W : World) (rs : List Rg) (A1 A2 : Option Addr) (n2 c1 c2 : Nat) (hr1 : Kd.C k64 W A1 rs.length rs) (hrs : ∀ r, r ∈ rs → okR r)
    (w : World) (hb : Below W.heap.size W w) (b : Nat) (R : List (St × Option Nat)) (sv : Value) (st en stp : Int) (h : PM w W.heap.size b R sv st en stp) (tgt : Int) (hn : R.length ≤ 1000000) :
    Calls Try.prog 28 #[.pointer (some ⟨b, 0, none⟩), .agg #[.int .i64 1, .slice A1 rs.length c1, .slice A2 n2 c2], .int .i64 tgt] w (PostB W w b R sv st en stp (bld (.set (inR rs)) tgt (R.map (·.1)))) := by
  have hlen : rs.length ≤ 9223372036854775807 := Kd.C_max hr1
  have HB : Hid (Below W.heap.size W w) := hb
  have HM : Hid (PM w W.heap.size b R sv st en stp) := h
  have HR : Hid (Kd.C k64 W A1 rs.length rs) := hr1
  have hz := zeroSet
  clear hb h hr1
  go_enter Try.func28, Try.ntmps28
  go_wp2
  have hq0 : Blk ((w.alloc (Obj.cells #[Value.int IntKind.i64 1, Value.slice A1 rs.length c1, Value.slice A2 n2 c2] 25)).alloc (Obj.cells (setCells fun _ => false) 65)) (w.heap.size + 1) 65 (setCells fun _ => false) := Blk.last _ _ _ (by simp)
  go_loopw [23] (fun i wr => ∃ k : Nat, k ≤ rs.length ∧ i = .int .i64 k ∧ Blk wr (w.heap.size + 1) 65 (setCells (inR (rs.take k))) ∧ Kp w wr (fun _ => False)) (fun i _ => rs.length - (intOf i).toNat)
  case atStart => exact ⟨0, Nat.zero_le _, rfl, by rw [show inR (rs.take 0) = fun _ => false from rfl]; exact hq0, ((Kp.refl w _).alloc _).alloc _⟩
  case round =>
    obtain ⟨k, hk, rfl, hB, hK⟩ := hrel
    by_cases hlt : k < rs.length
    · have hbw : Below W.heap.size W wr := HB.out.trans ((hK.below (B := w.heap.size) (Nat.le_refl _) (fun _ c => c.elim)).mono HB.out.size)
      obtain ⟨ad, rfl, hx0, hx1⟩ := at_T64 (Kd.C_below HR.out hbw) (k : Int) (by omega) (by omega)
      have hokr := hrs (rd_T64 rs k) (by unfold rd_T64; rw [Int.toNat_natCast, getD_lt hlt]; exact List.getElem_mem hlt)
      have htake : Hid (inR (rs.take (k + 1)) = fun z => inR (rs.take k) z || (decide ((rd_T64 rs k).f0 ≤ z) && decide (z ≤ (rd_T64 rs k).f1))) := inR_succ rs k hlt
      unfold okR at hokr
      generalize (rd_T64 rs k).f0 = lo at *
      generalize (rd_T64 rs k).f1 = hi at *
      obtain ⟨⟨hlo0, hlo1⟩, hhi0, hhi1⟩ := hokr
      rw [Int.toNat_natCast] at hx0 hx1
      have HBr : Hid (Blk wr (w.heap.size + 1) 65 (setCells (inR (rs.take k)))) := hB
      have hKr : Hid (Kp w wr (fun _ => False)) := hK
      have hsz := hB.lt
      have hwl : wrap64 lo = lo := by unfold wrap64; omega
      have hwh : wrap64 hi = hi := by unfold wrap64; omega
      obtain ⟨LO, rfl⟩ : ∃ LO : Nat, lo = LO := ⟨lo.toNat, by omega⟩
      obtain ⟨HI, rfl⟩ : ∃ HI : Nat, hi = HI := ⟨hi.toNat, by omega⟩
      clear hB hK hbw hrs hz
      go_wp2
      have hr0 : Blk (wr.alloc (Obj.cells #[Value.int IntKind.u8 (LO : Int), Value.int IntKind.u8 (HI : Int)] 64)) wr.heap.size 64 #[Value.int IntKind.u8 (LO : Int), Value.int IntKind.u8 (HI : Int)] := Blk.new _ _ _
      have hs0 := HBr.out.alloc (Obj.cells #[Value.int IntKind.u8 (LO : Int), Value.int IntKind.u8 (HI : Int)] 64)
      have hk0 := hKr.out.alloc (Obj.cells #[Value.int IntKind.u8 (LO : Int), Value.int IntKind.u8 (HI : Int)] 64)
      obtain ⟨wo, rfl⟩ : ∃ wo : World, wo = wr := ⟨_, rfl⟩
      obtain ⟨rb, hrb⟩ : ∃ rb, rb = wo.heap.size := ⟨_, rfl⟩
      rw [← hrb]
      rw [← hrb] at hr0
      go_loopw [10] (fun c wq => ∃ m : Nat, LO ≤ m ∧ (m ≤ HI + 1 ∨ m = LO) ∧ c = .int .i64 m ∧ Blk wq (w.heap.size + 1) 65 (setCells fun z => inR (rs.take k) z || (decide ((LO : Int) ≤ z) && decide (z < m))) ∧ Blk wq rb 64 #[Value.int IntKind.u8 (LO : Int), Value.int IntKind.u8 (HI : Int)] ∧ Kp w wq (fun _ => False)) (fun c _ => 256 - (intOf c).toNat)
      case atStart => exact ⟨LO, Nat.le_refl _, .inr rfl, rfl, by rw [setCells_congr (g := inR (rs.take k)) (fun z _ => by simp; omega)]; exact hs0, hr0, hk0⟩
      case round =>
        obtain ⟨m, hm1, hm2, rfl, hS, hRB, hKq⟩ := hrel
        have g0 := hRB.cell 0
        have g1 := hRB.cell 1
        simp at g0 g1
        have hfS := hS.frozen m
        have hcS := hS.cell m
        have HS : Hid (Blk wr (w.heap.size + 1) 65 (setCells fun z => inR (rs.take k) z || (decide ((LO : Int) ≤ z) && decide (z < m)))) := hS
        have HRB : Hid (Blk wr rb 64 #[Value.int IntKind.u8 (LO : Int), Value.int IntKind.u8 (HI : Int)]) := hRB
        have HK : Hid (Kp w wr (fun _ => False)) := hKq
        clear hS hRB hKq hr0 hs0 hk0 hrb
        by_cases hle : m ≤ HI
        · rw [setCells_get _ m (by omega)] at hcS
          obtain ⟨old, hold⟩ : ∃ old, (inR (rs.take k) (m : Int) || (decide ((LO : Int) ≤ (m : Int)) && decide ((m : Int) < (m : Int)))) = old := ⟨_, rfl⟩
          rw [hold] at hcS
          clear hold
          go_wp2
          go_roundw
          case rel =>
            have e := HS.out.set_ m (.bool true)
            rw [setCells_set _ (fun z => inR (rs.take k) z || (decide ((LO : Int) ≤ z) && decide (z < ((m + 1 : Nat) : Int)))) m (fun z hz => ?_)] at e
            · exact ⟨m + 1, by omega, .inl (by omega), by go_num, e, HRB.out.far (p := ⟨w.heap.size + 1, m, none⟩) (HRB.out.ne_ HS.out (by decide)) _, HK.out.set_ (p := ⟨w.heap.size + 1, m, none⟩) (fun c => by simp at c; omega) _⟩
            · by_cases hzm : z = m
              · subst hzm; simp; omega
              · rw [if_neg hzm]
                congr 2
                rw [decide_eq_decide]
                omega
          case measure => simp [intOf]; omega
        · go_wp2
          go_roundw
          case rel =>
            refine ⟨k + 1, by omega, by go_num, ?_, HK.out⟩
            rw [htake.out, ← setCells_congr (f := fun z => inR (rs.take k) z || (decide ((LO : Int) ≤ z) && decide (z < (m : Int)))) (fun z _ => ?_)]
            · exact HS.out
            · congr 1
              rw [Bool.eq_iff_iff]
              simp only [Bool.and_eq_true, decide_eq_true_eq]
              omega
          case measure => simp [intOf]; omega
    · obtain rfl : k = rs.length := by omega
      rw [List.take_length] at hB
      have hPM := HM.out.kp hK (oth_none w)
      have hset : SetAt wr W.heap.size (⟨some (inR rs), tgt, -1⟩, some (w.heap.size + 1)) := ⟨_, rfl, by have := HB.out.size; omega, hB⟩
      have hc := add_pm wr W.heap.size b R sv st en stp (⟨some (inR rs), tgt, -1⟩, some (w.heap.size + 1)) hPM hset (by have := HB.out.size; have := hK.size; omega) hn
      simp only [stCells, Option.map_some] at hc
      have HK : Hid (Kp w wr (fun _ => False)) := hK
      clear hB hK hPM hset hz hrs
      go_wp2_with (go_at_call 27; refine hc.mono ?_; rintro e w' ⟨rfl, sv1, hPM1, hat1, hK1⟩)
      go_ret
      refine ⟨by simp [bld], R ++ [(⟨some (inR rs), tgt, -1⟩, some (w.heap.size + 1))], sv1, hPM1, by simp [bld], ?_, ?_⟩
      · exact hat1.imp id fun ⟨k, e, hk⟩ => ⟨k, e, Nat.le_trans HK.out.size hk⟩
      · exact (HK.out.mono (fun _ _ c => c.elim)).trans hK1 (fun _ _ c => c)

end Go.Proofs.Ytmhodkkfbbpgaaa.Nm
