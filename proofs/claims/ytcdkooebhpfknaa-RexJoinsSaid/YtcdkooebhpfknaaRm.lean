/- glob.Ranges' row, sorted in its place. -/
import Derived.Test.YtcdkooebhpfknaaRl
namespace Go.Proofs.Ytcdkooebhpfknaa.Rx
open Go.RowKit Go.Proofs.YtcdkooebhpfknaaW.PrintWords Go.Proofs.YtcdkooebhpfknaaW.PrintLast Go.Proofs.YtcdkooebhpfknaaW.PrintMore Go.Proofs.Ytcdkooebhpfknaa.PRx
set_option linter.unusedVariables false
set_option linter.unusedSimpArgs false

theorem half_mod (j : Nat) : j / 2 * 2 + j % 2 = j := by omega
theorem enc_at (x : S37) (m : Nat) (h : m < 2) : (encS x)[m]! = if m = 0 then .int .u8 x.f0 else .int .u8 x.f1 := by
  match m, h with
  | 0, _ => rfl
  | 1, _ => rfl
theorem holds_of {W : World} {B b n c : Nat} {xs : List S37} (h : Kd.R k37 37 W B (fun _ => True) (.slice (some ⟨b, 0, none⟩) n c) xs) : Go.Sort.HoldsK encS 2 W b 0 xs.toArray := by
  have hn := (Kd.R_reads' h).1
  intro j hj
  have hj2 : j < xs.toArray.size * 2 := by rw [Go.Sort.size_flatK] at hj; exact hj
  have hj3 : j < xs.length * 2 := hj2
  refine ⟨?_, ?_⟩
  · obtain ⟨cs, hcl, hM, hcc⟩ := Kd.R_getA h z37 ((j / 2 : Nat) : Int) (by omega) (by omega)
    obtain rfl := k37_openM hM
    rw [Go.Sort.get_flatK _ _ _ _ hj2, enc_at _ _ (by omega)]
    have hx : xs.toArray[j / 2]! = xs.getD ((j / 2 : Nat) : Int).toNat z37 := by
      rw [Int.toNat_natCast, List.getElem!_toArray, List.getElem!_eq_getElem?_getD, List.getD_eq_getElem?_getD]
      rfl
    rw [hx]
    have := hcc (j % 2) (if j % 2 = 0 then .int .u8 (xs.getD ((j / 2 : Nat) : Int).toNat z37).f0 else .int .u8 (xs.getD ((j / 2 : Nat) : Int).toNat z37).f1) (by
      rcases Nat.mod_two_eq_zero_or_one j with e | e <;> rw [e] <;> rfl)
    rw [add_at, Nat.zero_add, Int.toNat_natCast] at this
    have e : j / 2 * k37.sz + j % 2 = j := half_mod j
    rw [e] at this
    rw [Nat.zero_add]
    exact this
  · obtain ⟨_, inner, ho, _⟩ := h
    rcases ho.2 with ⟨hv, _⟩ | ⟨g, cap', cur, hv, _, hg, _⟩
    · cases hv
    · injection hv with ha _ _
      injection ha with ha
      injection ha with ha
      subst ha
      exact blk_frozen hg _
theorem C_of_holds {W : World} {b : Nat} {d : Array S37} (h : Go.Sort.HoldsK encS 2 W b 0 d) (hs : d.size ≤ 9223372036854775807) : Kd.C k37 W (some ⟨b, 0, none⟩) d.toList.length d.toList := by
  refine ⟨rfl, by simpa using hs, fun _ => ⟨_, rfl, fun j p hj => ⟨[.int .u8 p.f0, .int .u8 p.f1], rfl, k37_mk _ _, fun i u hu => ?_⟩⟩⟩
  have hi : i < 2 := by
    have := (List.getElem?_eq_some_iff.1 hu).1
    exact this
  have hjl : j < d.size := by
    have := (List.getElem?_eq_some_iff.1 hj).1
    simpa using this
  have hj2 : j * 2 + i < d.size * 2 := by omega
  have := (h (j * 2 + i) (by rw [Go.Sort.size_flatK]; exact hj2)).1
  rw [Go.Sort.get_flatK _ _ _ _ hj2, show (j * 2 + i) / 2 = j by omega, show (j * 2 + i) % 2 = i by omega, enc_at _ _ hi] at this
  have hp : d[j]! = p := by
    rw [getElem!_pos d j hjl]
    have h2 := (List.getElem?_eq_some_iff.1 hj).2
    simpa using h2
  rw [hp] at this
  rw [add_at, Nat.zero_add]
  have e : j * k37.sz + i = j * 2 + i := rfl
  rw [e]
  rw [Nat.zero_add] at this
  rw [this]
  match i, hi, hu with
  | 0, _, hu => simpa using hu
  | 1, _, hu => simpa using hu
theorem sorted_C {W : World} {b : Nat} {d d' : Array S37} {n : Nat} {os : Array Obj} (h : Go.Sort.HoldsK encS 2 W b 0 d) (hb : b < W.heap.size) (hs : d'.size = d.size) (hd : d.size ≤ 9223372036854775807) : Kd.C k37 (Go.Proofs.sortWorldK encS 2 W b 0 n d' os) (some ⟨b, 0, none⟩) d'.toList.length d'.toList :=
  C_of_holds (Go.Proofs.holdsK_sortWorldK_c encS 2 W b 0 d d' n os h hb hs) (by omega)
theorem below_sort {w0 W : World} {B b n : Nat} {d' : Array S37} {os : Array Obj} (h : Below B w0 W) (hb : B ≤ b) (hB : B ≤ W.heap.size) : Below B w0 (Go.Proofs.sortWorldK encS 2 W b 0 n d' os) := by
  have h1 : Below B w0 (Go.Sort.putRowK encS 2 (Go.Sort.ahead W n) b 0 d') := Go.Lib.below_putRow h hb
  unfold Go.Proofs.sortWorldK
  refine h1.trans ⟨rfl, rfl, rfl, ?_, fun k hk => ?_⟩
  · simp [Go.Sort.grow]
  · have hs : B ≤ (Go.Sort.putRowK encS 2 (Go.Sort.ahead W n) b 0 d').heap.size := by
      unfold Go.Sort.putRowK
      rw [Go.Sort.size_putRow]
      exact hB
    simp only [Go.Sort.grow]
    rw [Array.getElem?_append_left (by omega)]
end Go.Proofs.Ytcdkooebhpfknaa.Rx
