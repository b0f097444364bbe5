/- print.within: a condition's text, in brackets if it is of some kinds; over condText's contract. -/
import Derived.Test.YtonbnfaleboobaaCt
import Derived.Test.YtonbnfaleboobaaMem
import Derived.Test.YtonbnfaleboobaaQuo
namespace Go.Proofs.Ytonbnfaleboobaa.Pr
set_option linter.unusedVariables false
set_option linter.unusedSimpArgs false
open Go.RowKit Mem Go.Proofs.Ytonbnfaleboobaa.PPrintConds Go.Proofs.YtonbnfaleboobaaW.PrintWords Go.Proofs.YtonbnfaleboobaaW.PrintLast Go.Proofs.YtonbnfaleboobaaW.PrintMore

theorem ret_str {a b : ByteArray} (h : a = b) : Ending.returned (.string a) = .returned (.string b) := by rw [h]

def ints (l : List Int) : Array Value := (l.map (Value.int .i64)).toArray
theorem ints_get {l : List Int} {k : Nat} (h : k < l.length) : (ints l)[k]? = some (.int .i64 l[k]) := by simp [ints, h]
theorem below_a1 (w : World) (o : Obj) : Below w.heap.size w (w.alloc o) := (Below.refl _ _).alloc (Nat.le_refl _) _
theorem below_al {w w' : World} {o : Obj} (h : Below (w.alloc o).heap.size (w.alloc o) w') : Below w.heap.size w w' := (below_a1 w o).trans (h.mono (by simp))

set_option maxHeartbeats 2000000 in
set_option maxRecDepth 100000 in
theorem within_any (w : World) (k0 : Int) (n v : ByteArray) (A : Option Addr) (m c : Nat) (ks : List Int) (g : Nat) (t : ByteArray) (hg : Blk w g 3 (ints ks)) (hks : ks.length ≤ 2) (hsz : t.size ≤ 1000000000)
    (HCT : ∀ w1, Below w.heap.size w w1 → Calls Try.prog 10 #[.agg #[.int .i64 k0, .string n, .string v, .slice A m c]] w1 fun e w' => e = .returned (.string t) ∧ Below w1.heap.size w1 w') :
    Calls Try.prog 15 #[.agg #[.int .i64 k0, .string n, .string v, .slice A m c], .slice (some ⟨g, 0, none⟩) ks.length ks.length] w fun e w' => e = .returned (.string (if k0 ∈ ks then paren t else t)) ∧ Below w.heap.size w w' := by
  obtain ⟨res, hres⟩ : ∃ r, (if k0 ∈ ks then paren t else t) = r := ⟨_, rfl⟩
  rw [hres]
  have HR := Lib.hid hres
  clear hres
  have HB0 := Lib.hid (below_a1 w (.cells #[.int .i64 k0, .string n, .string v, .slice A m c] 24))
  have HX : Hid (Blk (w.alloc (.cells #[.int .i64 k0, .string n, .string v, .slice A m c] 24)) w.heap.size 24 #[.int .i64 k0, .string n, .string v, .slice A m c]) := Blk.new _ _ _
  have HG := Lib.hid (hg.alloc (.cells #[.int .i64 k0, .string n, .string v, .slice A m c] 24))
  have HH := Lib.hid HCT
  have hlt := hg.lt
  clear HCT hg
  go_enter Try.func15, Try.ntmps15
  go_wp2_with fail
  go_loop [9] (fun i => ∃ k : Nat, k ≤ ks.length ∧ i = .int .i64 k ∧ Hid (∀ j (h : j < ks.length), j < k → ks[j] ≠ k0)) (fun i => ks.length - (intOf i).toNat)
  case atStart => exact ⟨0, Nat.zero_le _, rfl, (fun j _ h => absurd h (Nat.not_lt_zero j))⟩
  case round =>
    obtain ⟨k, hk, rfl, HNO⟩ := hrel
    by_cases hkn : k < ks.length
    · have hcell : (w.alloc (.cells #[.int .i64 k0, .string n, .string v, .slice A m c] 24)).cell? ⟨g, k, none⟩ = some (.int .i64 ks[k]) := by rw [HG.out.cell, ints_get hkn]
      have hgl := HG.out.lt
      by_cases he : ks[k] = k0
      · have hmem : k0 ∈ ks := by rw [← he]; exact List.getElem_mem hkn
        have e1 : (k0 == ks[k]) = true := by simp [he]
        have HMEM := Lib.hid hmem
        have hct := HH.out _ HB0.out
        clear he hmem
        go_wp2_with (first
          | (go_at_call 10; refine hct.mono ?_; rintro e w2 ⟨rfl, hb⟩; (have HB2 := Lib.hid (HB0.out.trans (hb.mono (by simp))); clear hb hct)))
        go_ret
        exact ⟨ret_str (by rw [← HR.out, if_pos HMEM.out]; rfl), HB2.out⟩
      · have e1 : (k0 == ks[k]) = false := by simp; exact fun c => he c.symm
        have HE := Lib.hid he
        go_wp2_with fail
        go_round
        case rel =>
          refine ⟨k + 1, by omega, by go_num, fun j hj hjk => ?_⟩
          by_cases c1 : j < k
          · exact HNO.out j hj c1
          · obtain rfl : j = k := by omega
            exact HE.out
        case measure => simp [intOf]; omega
    · obtain rfl : k = ks.length := by omega
      have hno : k0 ∉ ks := fun hm => by obtain ⟨j, hj, e⟩ := List.getElem_of_mem hm; exact HNO.out j hj hj e
      have HNM := Lib.hid hno
      have hct := HH.out _ HB0.out
      clear hno
      go_wp2_with (first
        | (go_at_call 10; refine hct.mono ?_; rintro e w2 ⟨rfl, hb⟩; (have HB2 := Lib.hid (HB0.out.trans (hb.mono (by simp))); clear hb hct)))
      go_ret
      exact ⟨ret_str (by rw [← HR.out, if_neg HNM.out]), HB2.out⟩

end Go.Proofs.Ytonbnfaleboobaa.Pr
