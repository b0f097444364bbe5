/- The document's Quoted: a text's quote, byte by byte, as tok.Quoted makes it. -/
import Derived.Test.YtonbnfaleboobaaQuo
import Derived.Test.YtonbnfaleboobaaMem
import Derived.Deep.RegionHeld3
import Derived.Laws.BitsLemmas
namespace Go.Proofs.Ytonbnfaleboobaa.Quo
set_option linter.unusedVariables false
set_option linter.unusedSimpArgs false
open Go.RowKit Mem

theorem ret_strQ {a b : ByteArray} (h : a = b) : Ending.returned (.string a) = .returned (.string b) := by rw [h]
theorem below_drew' {B : Nat} {w W : World} (h : Below B w W) : Below B w W.drew := ⟨h.os, h.tape, h.output, h.size, h.block⟩
theorem quoI (c : Int) (h : 0 ≤ c ∧ c ≤ 255) : c.tdiv 16 = c / 16 := by rw [Int.tdiv_eq_ediv_of_nonneg h.1]

theorem own_str {w : World} {base n : Nat} {v : Value} {xs : List Int} (h : w.ownsRow base 5 1 v (n + 1) (nU xs ++ [.int .u8 34])) : (convert 35 9 v).run Try.prog w = .ok (.string (strOfNums (xs ++ [34]))) w := by
  have e : nU xs ++ [.int .u8 34] = nU (xs ++ [34]) := by simp [nU]
  rw [e] at h
  have hl : (xs ++ [34]).length = n + 1 := by have := h.1; rw [nU_len] at this; omega
  rcases h.2 with ⟨_, h0⟩ | ⟨g, cap, cur, rfl, _⟩
  · omega
  · refine run_convert_bytes_arg w 35 5 Try.underlying35 Try.underlying5 g 0 (n + 1) cap (xs ++ [34]) hl (fun i hi => ?_) 9 Try.underlying9
    have hc := h.cells (g := g) rfl i (.int .u8 ((xs ++ [34]).getD i 0)) (by rw [nU, List.getElem?_map, List.getElem?_eq_getElem (by omega)]; simp [List.getD_eq_getElem?_getD, List.getElem?_eq_getElem (show i < (xs ++ [34]).length by omega)])
    have ha : (⟨g, 0, none⟩ : Addr).add i = ⟨g, 0 + i, none⟩ := by unfold Addr.add; split <;> simp_all
    rwa [ha] at hc

set_option maxHeartbeats 4000000 in
set_option maxRecDepth 100000 in
theorem rquoted_any (s : ByteArray) (w : World) (hs : 4 * s.size + 2 ≤ 140737488355328) :
    Calls Try.prog 11 #[.string s] w fun e w' => e = .returned (.string (quot s)) ∧ Below w.heap.size w w' := by
  obtain ⟨i0, hi, hz0, hz1, hz2⟩ := info_parts Bld.infoByte
  have HO0 : Hid ((w.alloc (.cells #[.int .u8 34] 5)).ownsRow w.heap.size 5 1 (.slice (some ⟨w.heap.size, 0, none⟩) 1 1) 1 (nU [34])) := by
    have h := World.ownsRow_lit (base := w.heap.size) (e := 5) (size := 1) w (nU [34]).toArray 1 (Nat.le_refl _) (by decide) (by simp [nU])
    refine Lib.hid ?_
    simpa [nU] using h
  have HB0 : Hid (Below w.heap.size w (w.alloc (.cells #[.int .u8 34] 5))) := (Below.refl _ _).alloc (Nat.le_refl _) _
  go_enter Try.func11, Try.ntmps11
  go_wp2_with fail
  go_loopw [3, 4] (fun t3 t4 wr => ∃ k : Nat, k ≤ s.size ∧ t4 = .int .i64 k ∧ Hid (wr.ownsRow w.heap.size 5 1 t3 (34 :: ((bI s).take k).flatMap escI).length (nU (34 :: ((bI s).take k).flatMap escI))) ∧ Hid (Below w.heap.size w wr)) (fun _ t4 _ => s.size - (intOf t4).toNat)
  case atStart => exact ⟨0, Nat.zero_le _, rfl, HO0, HB0⟩
  case round =>
    obtain ⟨k, hk, rfl, HO, HB⟩ := hrel
    have hfl := flat_len ((bI s).take k)
    have hln : ((bI s).take k).length ≤ k := List.length_take_le _ _
    by_cases hlt : k < s.size
    · obtain ⟨u, hu⟩ : ∃ u : UInt8, s[k] = u := ⟨_, rfl⟩
      have hmore := bI_take s k hlt
      rw [hu] at hmore
      have hbl : (34 :: ((bI s).take k).flatMap escI).length + 4 ≤ 140737488355328 := by simp only [List.length_cons]; omega
      have HM := Lib.hid hmore
      have HLT := Lib.hid hlt
      clear hmore hfl hln
      obtain ⟨F, hF⟩ : ∃ F, 34 :: ((bI s).take k).flatMap escI = F := ⟨_, rfl⟩
      rw [hF] at HO hbl
      have HF : Hid (∀ es, escI (u.toNat : Int) = es → 34 :: ((bI s).take (k + 1)).flatMap escI = F ++ es) := fun es he => by rw [HM.out, List.flatMap_append, ← hF]; simp [he]
      clear hF
      have hu8 := u.toNat_lt
      by_cases h10 : (u.toNat : Int) = 10
      · have f10 : ((u.toNat : Int) == 10) = true := by simpa using h10
        have hes : escI (u.toNat : Int) = [92, 110] := by unfold escI; rw [if_pos h10]
        have HES := Lib.hid hes
        clear hes
        go_wp2_with (at_builtin; refine wpList_append_own _ rfl _ _ 35 rfl w.heap.size 5 i0 (.int .u8 0) 1 1 Try.underlying35 hi hz0 hz1 hz2 rfl (by decide) _ _ _ rfl (HO.out.alloc _) ⟨wr.heap.size, 0, none⟩ 2 2 [.int .u8 92, .int .u8 110] rfl rfl ?c1 ?c2 ?c3 ?c4 ?c5 ?_)
        case c1 => intro j v hj; rcases j with _ | _ | j <;> simp at hj <;> subst hj <;> simp [Addr.add]
        case c2 => intro v hv; simp at hv; rcases hv with rfl | rfl <;> rfl
        case c3 => unfold maxLen; omega
        case c4 => omega
        case c5 => have := HB.out.size; simp; omega
        intro v' w3 hown' hgrow _
        have HO3 := Lib.hid hown'
        have HB3 := Lib.hid ((HB.out.alloc HB.out.size _).grown hgrow (by have := HB.out.size; simp; omega) (fun q hq => (HO.out.lt q hq).1))
        clear hown' hgrow
        go_wp2_with fail
        go_roundw
        case rel => exact ⟨k + 1, by have := HLT.out; omega, by go_num, by rw [HF.out _ HES.out, nU_append, List.length_append]; exact HO3, HB3⟩
        case measure => have := HLT.out; simp [intOf]; omega
      · have f10 : ((u.toNat : Int) == 10) = false := by simpa using h10
        by_cases h9 : (u.toNat : Int) = 9
        · have f9 : ((u.toNat : Int) == 9) = true := by simpa using h9
          have hes : escI (u.toNat : Int) = [92, 116] := by unfold escI; rw [if_neg h10, if_pos h9]
          have HES := Lib.hid hes
          clear hes
          go_wp2_with (at_builtin; refine wpList_append_own _ rfl _ _ 35 rfl w.heap.size 5 i0 (.int .u8 0) 1 1 Try.underlying35 hi hz0 hz1 hz2 rfl (by decide) _ _ _ rfl (HO.out.alloc _) ⟨wr.heap.size, 0, none⟩ 2 2 [.int .u8 92, .int .u8 116] rfl rfl ?c1 ?c2 ?c3 ?c4 ?c5 ?_)
          case c1 => intro j v hj; rcases j with _ | _ | j <;> simp at hj <;> subst hj <;> simp [Addr.add]
          case c2 => intro v hv; simp at hv; rcases hv with rfl | rfl <;> rfl
          case c3 => unfold maxLen; omega
          case c4 => omega
          case c5 => have := HB.out.size; simp; omega
          intro v' w3 hown' hgrow _
          have HO3 := Lib.hid hown'
          have HB3 := Lib.hid ((HB.out.alloc HB.out.size _).grown hgrow (by have := HB.out.size; simp; omega) (fun q hq => (HO.out.lt q hq).1))
          clear hown' hgrow
          go_wp2_with fail
          go_roundw
          case rel => exact ⟨k + 1, by have := HLT.out; omega, by go_num, by rw [HF.out _ HES.out, nU_append, List.length_append]; exact HO3, HB3⟩
          case measure => have := HLT.out; simp [intOf]; omega
        · have f9 : ((u.toNat : Int) == 9) = false := by simpa using h9
          by_cases h92 : (u.toNat : Int) = 92
          · have f92 : ((u.toNat : Int) == 92) = true := by simpa using h92
            have hes : escI (u.toNat : Int) = [92, 92] := by unfold escI; rw [if_neg h10, if_neg h9, if_pos h92]
            have HES := Lib.hid hes
            clear hes
            go_wp2_with (at_builtin; refine wpList_append_own _ rfl _ _ 35 rfl w.heap.size 5 i0 (.int .u8 0) 1 1 Try.underlying35 hi hz0 hz1 hz2 rfl (by decide) _ _ _ rfl (HO.out.alloc _) ⟨wr.heap.size, 0, none⟩ 2 2 [.int .u8 92, .int .u8 92] rfl rfl ?c1 ?c2 ?c3 ?c4 ?c5 ?_)
            case c1 => intro j v hj; rcases j with _ | _ | j <;> simp at hj <;> subst hj <;> simp [Addr.add]
            case c2 => intro v hv; simp at hv; rcases hv with rfl | rfl <;> rfl
            case c3 => unfold maxLen; omega
            case c4 => omega
            case c5 => have := HB.out.size; simp; omega
            intro v' w3 hown' hgrow _
            have HO3 := Lib.hid hown'
            have HB3 := Lib.hid ((HB.out.alloc HB.out.size _).grown hgrow (by have := HB.out.size; simp; omega) (fun q hq => (HO.out.lt q hq).1))
            clear hown' hgrow
            go_wp2_with fail
            go_roundw
            case rel => exact ⟨k + 1, by have := HLT.out; omega, by go_num, by rw [HF.out _ HES.out, nU_append, List.length_append]; exact HO3, HB3⟩
            case measure => have := HLT.out; simp [intOf]; omega
          · have f92 : ((u.toNat : Int) == 92) = false := by simpa using h92
            by_cases h34 : (u.toNat : Int) = 34
            · have f34 : ((u.toNat : Int) == 34) = true := by simpa using h34
              have hes : escI (u.toNat : Int) = [92, 34] := by unfold escI; rw [if_neg h10, if_neg h9, if_neg h92, if_pos h34]
              have HES := Lib.hid hes
              clear hes
              go_wp2_with (at_builtin; refine wpList_append_own _ rfl _ _ 35 rfl w.heap.size 5 i0 (.int .u8 0) 1 1 Try.underlying35 hi hz0 hz1 hz2 rfl (by decide) _ _ _ rfl (HO.out.alloc _) ⟨wr.heap.size, 0, none⟩ 2 2 [.int .u8 92, .int .u8 34] rfl rfl ?c1 ?c2 ?c3 ?c4 ?c5 ?_)
              case c1 => intro j v hj; rcases j with _ | _ | j <;> simp at hj <;> subst hj <;> simp [Addr.add]
              case c2 => intro v hv; simp at hv; rcases hv with rfl | rfl <;> rfl
              case c3 => unfold maxLen; omega
              case c4 => omega
              case c5 => have := HB.out.size; simp; omega
              intro v' w3 hown' hgrow _
              have HO3 := Lib.hid hown'
              have HB3 := Lib.hid ((HB.out.alloc HB.out.size _).grown hgrow (by have := HB.out.size; simp; omega) (fun q hq => (HO.out.lt q hq).1))
              clear hown' hgrow
              go_wp2_with fail
              go_roundw
              case rel => exact ⟨k + 1, by have := HLT.out; omega, by go_num, by rw [HF.out _ HES.out, nU_append, List.length_append]; exact HO3, HB3⟩
              case measure => have := HLT.out; simp [intOf]; omega
            · have f34 : ((u.toNat : Int) == 34) = false := by simpa using h34
              by_cases hx : (u.toNat : Int) < 32 ∨ 126 < (u.toNat : Int)
              · have hes : escI (u.toNat : Int) = [92, 120, hexI ((u.toNat : Int) / 16), hexI ((u.toNat : Int) % 16)] := by unfold escI; rw [if_neg h10, if_neg h9, if_neg h92, if_neg h34, if_pos hx]
                have HES := Lib.hid hes
                by_cases h32 : (u.toNat : Int) < 32
                · have f32 : decide ((u.toNat : Int) < 32) = true := by simpa using h32
                  clear hes
                  go_wp2_with fail
                  have e1 : IntKind.u8.wrap ((u.toNat : Int).tdiv 16) = (u.toNat : Int) / 16 := by rw [quoI _ (by omega), IntKind.wrap_u8]; omega
                  have e2 : (u.toNat : Int).tmod 16 = (u.toNat : Int) % 16 := by rw [Int.tmod_eq_emod_of_nonneg (by omega)]
                  have e7 : IntKind.u8.wrap ((u.toNat : Int) / 16) = (u.toNat : Int) / 16 := by rw [IntKind.wrap_u8]; omega
                  have e8 : IntKind.u8.wrap ((u.toNat : Int) % 16) = (u.toNat : Int) % 16 := by rw [IntKind.wrap_u8]; omega
                  have e3 : (u.toNat : Int) / 16 < 16 := by omega
                  have e4 : (0 : Int) ≤ (u.toNat : Int) / 16 := by omega
                  have e5 : (u.toNat : Int) % 16 < 16 := by omega
                  have e6 : (0 : Int) ≤ (u.toNat : Int) % 16 := by omega
                  go_region_held3 (fun _ => True) (trivial)
                    ((refine step_append_cells _ (by rfl) _ _ 35 (by rfl) w.heap.size 5 i0 (.int .u8 0) 1 1 Try.underlying35 hi hz0 hz1 hz2 rfl (by omega) _ _ _ (by rfl) (own_drew (HO.out.alloc _)) wr.heap.size 4 4 _ 5 (by rfl) (by rfl) (Blk.drew (Blk.new _ _ _)) (by intro v hv; simp at hv; rcases hv with rfl | rfl | rfl | rfl <;> rfl) (by unfold maxLen; omega) (by omega) (by have := HB.out.size; simp; omega) ?_; intro v' w3 hown' hgrow hat))
                  all_goals
                    rw [dig_at, dig_at, Int.toNat_of_nonneg e4, Int.toNat_of_nonneg e6] at hown'
                    have HO3 := Lib.hid hown'
                    have HB3 := Lib.hid ((below_drew' (HB.out.alloc HB.out.size _)).grown hgrow (by have := HB.out.size; simp; omega) (fun q hq => (HO.out.lt q hq).1))
                    clear hown' hgrow hat
                    go_wp2_with fail
                    go_roundw
                    case rel => exact ⟨k + 1, by have := HLT.out; omega, by go_num, by rw [HF.out _ HES.out, nU_append, List.length_append]; exact HO3, HB3⟩
                    case measure => have := HLT.out; simp [intOf]; omega
                · have f32 : decide ((u.toNat : Int) < 32) = false := by simpa using h32
                  have f126 : decide ((u.toNat : Int) > 126) = true := by simp; omega
                  clear hes
                  go_wp2_with fail
                  have e1 : IntKind.u8.wrap ((u.toNat : Int).tdiv 16) = (u.toNat : Int) / 16 := by rw [quoI _ (by omega), IntKind.wrap_u8]; omega
                  have e2 : (u.toNat : Int).tmod 16 = (u.toNat : Int) % 16 := by rw [Int.tmod_eq_emod_of_nonneg (by omega)]
                  have e7 : IntKind.u8.wrap ((u.toNat : Int) / 16) = (u.toNat : Int) / 16 := by rw [IntKind.wrap_u8]; omega
                  have e8 : IntKind.u8.wrap ((u.toNat : Int) % 16) = (u.toNat : Int) % 16 := by rw [IntKind.wrap_u8]; omega
                  have e3 : (u.toNat : Int) / 16 < 16 := by omega
                  have e4 : (0 : Int) ≤ (u.toNat : Int) / 16 := by omega
                  have e5 : (u.toNat : Int) % 16 < 16 := by omega
                  have e6 : (0 : Int) ≤ (u.toNat : Int) % 16 := by omega
                  go_region_held3 (fun _ => True) (trivial)
                    ((refine step_append_cells _ (by rfl) _ _ 35 (by rfl) w.heap.size 5 i0 (.int .u8 0) 1 1 Try.underlying35 hi hz0 hz1 hz2 rfl (by omega) _ _ _ (by rfl) (own_drew (HO.out.alloc _)) wr.heap.size 4 4 _ 5 (by rfl) (by rfl) (Blk.drew (Blk.new _ _ _)) (by intro v hv; simp at hv; rcases hv with rfl | rfl | rfl | rfl <;> rfl) (by unfold maxLen; omega) (by omega) (by have := HB.out.size; simp; omega) ?_; intro v' w3 hown' hgrow hat))
                  all_goals
                    rw [dig_at, dig_at, Int.toNat_of_nonneg e4, Int.toNat_of_nonneg e6] at hown'
                    have HO3 := Lib.hid hown'
                    have HB3 := Lib.hid ((below_drew' (HB.out.alloc HB.out.size _)).grown hgrow (by have := HB.out.size; simp; omega) (fun q hq => (HO.out.lt q hq).1))
                    clear hown' hgrow hat
                    go_wp2_with fail
                    go_roundw
                    case rel => exact ⟨k + 1, by have := HLT.out; omega, by go_num, by rw [HF.out _ HES.out, nU_append, List.length_append]; exact HO3, HB3⟩
                    case measure => have := HLT.out; simp [intOf]; omega
              · have hes : escI (u.toNat : Int) = [(u.toNat : Int)] := by unfold escI; rw [if_neg h10, if_neg h9, if_neg h92, if_neg h34, if_neg hx]
                have HES := Lib.hid hes
                have f32 : decide ((u.toNat : Int) < 32) = false := by simp; omega
                have f126 : decide ((u.toNat : Int) > 126) = false := by simp; omega
                clear hes
                go_wp2_with (at_builtin; refine wpList_append_own _ rfl _ _ 35 rfl w.heap.size 5 i0 (.int .u8 0) 1 1 Try.underlying35 hi hz0 hz1 hz2 rfl (by decide) _ _ _ rfl (HO.out.alloc _) ⟨wr.heap.size, 0, none⟩ 1 1 [.int .u8 (u.toNat : Int)] rfl rfl ?c1 ?c2 ?c3 ?c4 ?c5 ?_)
                case c1 => intro j v hj; rcases j with _ | _ | j <;> simp at hj <;> subst hj <;> simp [Addr.add]
                case c2 => intro v hv; simp at hv; subst hv; rfl
                case c3 => unfold maxLen; omega
                case c4 => omega
                case c5 => have := HB.out.size; simp; omega
                intro v' w3 hown' hgrow _
                have HO3 := Lib.hid hown'
                have HB3 := Lib.hid ((HB.out.alloc HB.out.size _).grown hgrow (by have := HB.out.size; simp; omega) (fun q hq => (HO.out.lt q hq).1))
                clear hown' hgrow
                go_wp2_with fail
                go_roundw
                case rel => exact ⟨k + 1, by have := HLT.out; omega, by go_num, by rw [HF.out _ HES.out, nU_append, List.length_append]; exact HO3, HB3⟩
                case measure => have := HLT.out; simp [intOf]; omega
    · obtain rfl : k = s.size := by omega
      rw [List.take_of_length_le (by rw [bI_len]; exact Nat.le_refl _)] at HO hfl hln
      obtain ⟨F, hF⟩ : ∃ F, 34 :: (bI s).flatMap escI = F := ⟨_, rfl⟩
      have hFl : F.length + 1 ≤ 140737488355328 := by rw [← hF]; simp only [List.length_cons]; omega
      rw [hF] at HO
      have HQ : Hid (strOfNums (F ++ [34]) = quot s) := by unfold Hid; rw [← hF]; rfl
      clear hF hfl hln
      go_wp2_with (at_builtin; refine wpList_append_own _ rfl _ _ 35 rfl w.heap.size 5 i0 (.int .u8 0) 1 1 Try.underlying35 hi hz0 hz1 hz2 rfl (by decide) _ _ _ rfl (HO.out.alloc _) ⟨wr.heap.size, 0, none⟩ 1 1 [.int .u8 34] rfl rfl ?c1 ?c2 ?c3 ?c4 ?c5 ?_)
      case c1 => intro j v hj; rcases j with _ | _ | j <;> simp at hj <;> subst hj <;> simp [Addr.add]
      case c2 => intro v hv; simp at hv; subst hv; rfl
      case c3 => unfold maxLen; omega
      case c4 => omega
      case c5 => have := HB.out.size; simp; omega
      intro v' w3 hown' hgrow _
      have HB3 := Lib.hid ((HB.out.alloc HB.out.size _).grown hgrow (by have := HB.out.size; simp; omega) (fun q hq => (HO.out.lt q hq).1))
      have hcv := own_str hown'
      clear hown' hgrow
      go_wp2_with fail
      go_ret
      exact ⟨ret_strQ HQ.out, HB3.out⟩

end Go.Proofs.Ytonbnfaleboobaa.Quo
