/- Does a text stand in another one? -/
import Derived.Test.YtjnfomgehfmllaaTp
namespace Go.Proofs.Ytjnfomgehfmllaa.Tk
set_option linter.unusedVariables false
set_option linter.unusedSimpArgs false
open Go.RowKit Go.Proofs.Ytjnfomgehfmllaa.Mem Go.Proofs.Ytjnfomgehfmllaa.By Go.Proofs.YtjnfomgehfmllaaW.PrintWords Go.Proofs.YtjnfomgehfmllaaW.PrintLast Go.Proofs.YtjnfomgehfmllaaW.PrintMore

theorem tl_beq (a b : ByteArray) : (a.toList == b.toList) = decide (a = b) := by
  rw [ByteArray.toList_eq, ByteArray.toList_eq, Bool.eq_iff_iff, beq_iff_eq, decide_eq_true_eq]
  constructor
  · intro h
    cases a; cases b
    congr 1
    exact Array.toList_inj.1 h
  · intro h; rw [h]
theorem occ_iff (s x : ByteArray) (i : Nat) (h : i + x.size ≤ s.size) : Lib.occAt s.data.toList x.data.toList i = true ↔ s.extract i (i + x.size) = x := by
  have hl : x.data.toList.length = x.size := by simp
  have hs : s.data.toList.length = s.size := by simp
  unfold Lib.occAt
  rw [List.isPrefixOf_iff_prefix, List.prefix_iff_eq_take, hl]
  constructor
  · intro e
    have : (s.extract i (i + x.size)).data.toList = x.data.toList := by
      rw [Lib.extract_data, show i + x.size - i = x.size by omega]; exact e.symm
    cases hx : s.extract i (i + x.size) with
    | mk d => cases x with | mk d2 => rw [hx] at this; congr 1; exact Array.toList_inj.1 this
  · intro e
    have := congrArg (fun b : ByteArray => b.data.toList) e
    simp only [Lib.extract_data, show i + x.size - i = x.size by omega] at this
    exact this.symm
theorem occ_room {s x : ByteArray} {i : Nat} (hi : s.size < i + x.size) (hx : i ≤ s.size) : Lib.occAt s.data.toList x.data.toList i = false := by
  cases h : Lib.occAt s.data.toList x.data.toList i with
  | false => rfl
  | true =>
    unfold Lib.occAt at h
    rw [List.isPrefixOf_iff_prefix] at h
    have := h.length_le
    have hl : x.data.toList.length = x.size := by simp
    have hs : s.data.toList.length = s.size := by simp
    rw [List.length_drop, hl, hs] at this
    omega
theorem idx_yes {s x : ByteArray} {i : Nat} (hi : i ≤ s.size) (h : Lib.occAt s.data.toList x.data.toList i = true) : 0 ≤ Lib.index s.data.toList x.data.toList := by
  rcases Lib.index_spec s.data.toList x.data.toList with ⟨_, h2⟩ | ⟨j, h1, _⟩
  · rw [h2 i (by simpa using hi)] at h; cases h
  · omega
theorem idx_no {s x : ByteArray} {i : Nat} (h : Lib.NoOcc s.data.toList x.data.toList i) (hr : s.size < i + x.size) : ¬ 0 ≤ Lib.index s.data.toList x.data.toList := by
  rcases Lib.index_spec s.data.toList x.data.toList with ⟨h1, _⟩ | ⟨j, h1, h2, h3, _⟩
  · omega
  · exfalso
    have h2' : j ≤ s.size := by simpa using h2
    rcases Nat.lt_or_ge j i with hj | hj
    · rw [h j hj] at h3; cases h3
    · rw [occ_room (by omega) h2'] at h3; cases h3
set_option maxHeartbeats 4000000 in
set_option maxRecDepth 100000 in
theorem has_any (s x : ByteArray) (hs : s.size ≤ 1000000) (hx : x.size ≤ 1000000) (w : World) : Calls Try.prog 13 #[.string s, .string x] w fun e w' => e = .returned (.bool (decide (0 ≤ Lib.index s.data.toList x.data.toList))) ∧ w = w' := by
  have HS := Lib.hid hs
  obtain ⟨r, hr⟩ : ∃ r, r = decide (0 ≤ Lib.index s.data.toList x.data.toList) := ⟨_, rfl⟩
  have HR := Lib.hid hr
  rw [← hr]
  clear hr
  go_enter Try.func13, Try.ntmps13
  go_wp2
  go_loopg [5] (s.size + 2) (fun kq v5 wr => ∃ i : Nat, i ≤ s.size + 1 ∧ v5 = .int .i64 i ∧ Hid (kq = s.size + 2 - i) ∧ Hid (Lib.NoOcc s.data.toList x.data.toList i) ∧ w = wr)
  case atStart => exact ⟨0, by omega, rfl, Lib.hid rfl, Lib.hid (Lib.NoOcc.zero _ _), rfl⟩
  case round =>
    obtain ⟨i, hi, rfl, HKQ, HNO, rfl⟩ := hrel
    have s1 : IntKind.i64.wrap ((i : Int) + 1) = (i : Int) + 1 := IntWalk.i64_in _ (by omega)
    have s2 : IntKind.i64.wrap ((i : Int) + (x.size : Int)) = (i : Int) + (x.size : Int) := IntWalk.i64_in _ (by omega)
    by_cases hle : i + x.size ≤ s.size
    · have g1 : decide ((i : Int) + (x.size : Int) ≤ (s.size : Int)) = true := by simp; omega
      have g2 : (i : Int) + (x.size : Int) ≤ (s.size : Int) := by omega
      have HCUT : ∀ W : World, (Instr.slice 9 (.string s) (some (.int .i64 (i : Int))) (some (.int .i64 ((i : Int) + (x.size : Int)))) none).run Try.prog W = .ok (.string (s.extract i (i + x.size))) W := fun W => by
        rw [run_slice_string W 9 s .i64 .i64 (i : Int) ((i : Int) + (x.size : Int)) Try.underlying9 (by omega) (by omega) (by omega)]
        congr 3
      have HO := Lib.hid (occ_iff s x i hle)
      have HLE := Lib.hid hle
      obtain ⟨y, hy⟩ : ∃ y, y = s.extract i (i + x.size) := ⟨_, rfl⟩
      rw [← hy] at HCUT HO
      clear hy hle
      by_cases hyx : y = x
      · subst hyx
        have HRR : Hid (r = true) := Lib.hid (by rw [HR.out]; simpa using idx_yes (by have := HLE.out; omega) (HO.out.2 rfl))
        obtain rfl := HRR.out
        go_wp2
        go_ret
        exact ⟨rfl, rfl⟩
      · have g4 : (y.toList == x.toList) = false := (tl_beq y x).trans (decide_eq_false hyx)
        have HNX : Hid (Lib.NoOcc s.data.toList x.data.toList (i + 1)) := Lib.hid fun j hj => by
          rcases Nat.lt_or_ge j i with h | h
          · exact HNO.out j h
          · obtain rfl : j = i := by omega
            cases h2 : Lib.occAt s.data.toList x.data.toList j with
            | false => rfl
            | true => exact absurd (HO.out.1 h2) hyx
        clear HNO
        go_wp2
        go_roundg (s.size + 2 - (i + 1))
        case measure => have := HKQ.out; omega
        case rel => exact ⟨i + 1, by have := HLE.out; omega, by simp, Lib.hid rfl, HNX, rfl⟩
    · have g1 : decide ((i : Int) + (x.size : Int) ≤ (s.size : Int)) = false := by simp; omega
      have g2 : ¬ (i : Int) + (x.size : Int) ≤ (s.size : Int) := by omega
      have HRR : Hid (r = false) := Lib.hid (by rw [HR.out]; exact decide_eq_false (idx_no HNO.out (by omega)))
      obtain rfl := HRR.out
      clear hle
      go_wp2
      go_ret
      exact ⟨rfl, rfl⟩
end Go.Proofs.Ytjnfomgehfmllaa.Tk
