/- A session, a buffer, clauses, in memory together; the document's example. -/
import Derived.Test.YtjnfomgehfmllaaTm
namespace Go.Proofs.Ytjnfomgehfmllaa.Tk
set_option linter.unusedVariables false
set_option linter.unusedSimpArgs false
open Go.RowKit Go.Proofs.Ytjnfomgehfmllaa.Mem Go.Proofs.Ytjnfomgehfmllaa.By Go.Proofs.YtjnfomgehfmllaaW.PrintWords Go.Proofs.YtjnfomgehfmllaaW.PrintLast Go.Proofs.YtjnfomgehfmllaaW.PrintMore

theorem Cls.up {w : World} {N N' : Nat} {v : Value} {l : List Cl} (h : Cls w N v l) (hn : N ≤ N') : Cls w N' v l := by
  obtain ⟨A, c, rfl, hc, h1000, hA, hcell⟩ := h
  refine ⟨A, c, rfl, hc, h1000, fun hne => ?_, fun g hg k hkl => ?_⟩
  · obtain ⟨g, h1, h2, h3⟩ := hA hne
    exact ⟨g, h1, by omega, h3⟩
  · obtain ⟨pv, c1, c2, c3⟩ := hcell g hg k hkl
    refine ⟨pv, c1, c2, ?_⟩
    cases ho : (l[k]).2 with
    | none => rw [ho] at c3; exact c3
    | some x =>
      rw [ho] at c3
      obtain ⟨b, kd, h1, h2, h3⟩ := c3
      exact ⟨b, kd, h1, by omega, h3⟩
/-- All together. -/
structure Ses (w0 w : World) (gL gB N most : Nat) (s : Ln) (l : List Cl) (cv : Value) (d : Ld) (b : List Int) : Prop where
  li : Li w gL N s d
  bu : ∃ bv, Bu w gB N most bv b
  cls : Cls w N cv l
  nle : N ≤ w.heap.size
  n0 : 0 < N
  glob : ∃ m, w.cell? ⟨0, 0, none⟩ = some (.int .i64 m)
  below : Below w0.heap.size w0 w
  ge : w0.heap.size ≤ N
theorem Ses.mk' {w0 w1 w2 w3 : World} {gL most : Nat} {s : Ln} {l : List Cl} {cv : Value} {m : Int} (hm : w0.cell? ⟨0, 0, none⟩ = some (.int .i64 m)) (h1 : Cls w1 w1.heap.size cv l) (b1 : Below w0.heap.size w0 w1) (b2 : Below w1.heap.size w1 w2) (hg : w1.heap.size ≤ gL) (hgl : gL < w2.heap.size) (h2 : Li w2 gL gL s ⟨0, 0, 0⟩) (b3 : Below w2.heap.size w2 w3) (h3 : ∀ N, N ≤ w2.heap.size → Bu w3 w2.heap.size N most (.slice none 0 0) []) : Ses w0 w3 gL w2.heap.size gL most s l cv ⟨0, 0, 0⟩ [] := by
  have e0 := World.block_lt_of_cell? w0 _ hm
  have s1 := b1.size
  have s2 := b2.size
  have s3 := b3.size
  have b : Below w0.heap.size w0 w3 := (b1.trans (b2.mono s1)).trans (b3.mono (Nat.le_trans s1 s2))
  exact ⟨h2.below b3 (by omega), ⟨_, h3 gL (by omega)⟩, ((h1.below b2 (Nat.le_refl _)).up hg).below b3 (by omega), by omega, Nat.lt_of_lt_of_le (Nat.lt_of_le_of_lt (Nat.zero_le _) e0) (Nat.le_trans s1 hg), ⟨m, cell_same hm (b.block 0 e0)⟩, b, Nat.le_trans s1 hg⟩
theorem Ses.wait {w0 w : World} {gL gB N most : Nat} {s : Ln} {l : List Cl} {cv : Value} {d : Ld} {b : List Int} (h : Ses w0 w gL gB N most s l cv d b) (un bo : Int) (fuel : Nat) (hf : s.chunks.length < d.at_ + fuel) {R : Out × Ld × List Int} (hR : waitP s l most un bo fuel d b false 0 = R) : Calls Try.prog 10 #[.pointer (some ⟨gL, 0, none⟩), .pointer (some ⟨gB, 0, none⟩), cv, .int .i64 un, .int .i64 bo] w fun e w' => ∃ A c, e = .returned (.agg #[.int .i64 R.1.kind, .int .i64 R.1.clause, .slice A R.1.text.length c, .int .i64 R.1.gone]) ∧ Own w' w.heap.size (.slice A R.1.text.length c) R.1.text ∧ Ses w0 w' gL gB N most s l cv R.2.1 R.2.2 ∧ w.heap.size ≤ w'.heap.size ∧ (∀ k cells t, t ≠ 60 → t ≠ 62 → t ≠ 5 → Blk w k t cells → Blk w' k t cells) := by
  obtain ⟨bv, hbu⟩ := h.bu
  obtain ⟨m, hm⟩ := h.glob
  refine (wait_any h.li hbu h.cls h.nle h.n0 hm un bo fuel hf).mono ?_
  rintro e w' ⟨A, n, c, bv', rfl, ho, hl, hb, hk, ho2⟩
  rw [hR] at ho hl hb ⊢
  have hn : n = R.1.text.length := by
    obtain ⟨A', c', he, _⟩ := q_slice ho.qb
    injection he
  subst hn
  have hex : ∀ k, (k = gL ∨ k = gB ∨ bv.ownBlock = some k) → N ≤ k := by
    intro k e
    rcases e with rfl | rfl | e
    · exact h.li.ge
    · exact hbu.ge
    · exact (q_typed hbu.row k e).1
  have hb2 : Below N w w' := hk.below h.nle hex
  have hn0 := h.n0
  refine ⟨A, c, rfl, ho, ⟨hl, ⟨bv', hb⟩, h.cls.kp hk hex, Nat.le_trans h.nle hk.size, h.n0, ⟨m, cell_same hm (hb2.block 0 hn0)⟩, h.below.trans (hb2.mono h.ge), h.ge⟩, hk.size, fun k cells t t1 t2 t3 hB => ?_⟩
  refine hB.kp hk (fun e => ?_)
  rcases e with rfl | rfl | e
  · obtain ⟨v, sent, hb', _⟩ := h.li.blk
    exact Blk.ne_ (t := t) hB hb' t1 rfl
  · obtain ⟨gn, hb'⟩ := hbu.blk
    exact Blk.ne_ (t := t) hB hb' t2 rfl
  · obtain ⟨_, cells', hb'⟩ := q_typed hbu.row k e
    exact Blk.ne_ (t := t) hB hb' t3 rfl
theorem Ses.far {w0 w w' : World} {gL gB N most : Nat} {s : Ln} {l : List Cl} {cv : Value} {d : Ld} {b : List Int} (h : Ses w0 w gL gB N most s l cv d b) (hb : Below w.heap.size w w') : Ses w0 w' gL gB N most s l cv d b := by
  obtain ⟨bv, hbu⟩ := h.bu
  obtain ⟨m, hm⟩ := h.glob
  exact ⟨h.li.below hb h.nle, ⟨bv, hbu.below hb⟩, h.cls.below hb h.nle, Nat.le_trans h.nle hb.size, h.n0, ⟨m, cell_same hm (hb.block 0 (World.block_lt_of_cell? w _ hm))⟩, h.below.trans (hb.mono h.below.size), h.ge⟩
theorem Ses.now_ {w0 w : World} {gL gB N most : Nat} {s : Ln} {l : List Cl} {cv : Value} {d : Ld} {b : List Int} (h : Ses w0 w gL gB N most s l cv d b) : Calls Try.prog 11 #[.pointer (some ⟨gL, 0, none⟩)] w fun e w' => e = .returned (.int .i64 d.now) ∧ ∃ q, w' = w.drewN q := now_any h.li
theorem Ses.bytes {w0 w : World} {gL gB N most : Nat} {s : Ln} {l : List Cl} {cv : Value} {d : Ld} {b : List Int} (h : Ses w0 w gL gB N most s l cv d b) : Calls Try.prog 12 #[.pointer (some ⟨gB, 0, none⟩)] w fun e w' => ∃ A c, e = .returned (.slice A b.length c) ∧ (convert 39 9 (.slice A b.length c)).run Try.prog w' = .ok (.string (strOfNums b)) w' ∧ Below w.heap.size w w' := by
  obtain ⟨bv, hbu⟩ := h.bu
  refine (bytes_any hbu).mono ?_
  rintro e w' ⟨v', rfl, ho, hb⟩
  obtain ⟨A, c, rfl, _⟩ := q_slice ho.qb
  refine ⟨A, c, rfl, ?_, hb⟩
  obtain ⟨A', c', he, _, _, hr⟩ := ho.rd
  simp only [Value.slice.injEq, true_and] at he
  obtain ⟨rfl, rfl⟩ := he
  have hr' : ReadsInt w' .u8 A b.length (bI (strOfNums b)) := by rw [bI_str hbu.rng]; exact hr
  exact conv_reads (w := w') (A := A) (n := b.length) (x := strOfNums b) c hr'
def apCells (cs : List (Int × ByteArray)) : List Value := cs.flatMap fun c => [.int .i64 c.1, .string c.2, .bool false, .slice none 0 0]
theorem apCells_get : ∀ (cs : List (Int × ByteArray)) (k : Nat) (h : k < cs.length), (apCells cs)[k * 4]? = some (.int .i64 (cs[k]).1) ∧ (apCells cs)[k * 4 + 1]? = some (.string (cs[k]).2) ∧ (apCells cs)[k * 4 + 2]? = some (.bool false) ∧ (apCells cs)[k * 4 + 3]? = some (.slice none 0 0)
  | [], k, h => by simp at h
  | p :: ps, 0, h => ⟨rfl, rfl, rfl, rfl⟩
  | p :: ps, k + 1, h => by
    have := apCells_get ps k (by simpa using h)
    unfold apCells at this ⊢
    rw [List.flatMap_cons]
    have e1 : (k + 1) * 4 = k * 4 + 4 := by omega
    rw [e1]
    simpa using this
theorem cin_blk {w : World} {g c : Nat} {cs : List (Int × ByteArray)} (h : Blk w g 30 (apCells cs).toArray) (hc : cs.length ≤ c) (hl : cs.length ≤ 1000) : CIn w (.slice (some ⟨g, 0, none⟩) cs.length c) cs := by
  refine ⟨_, c, rfl, hc, hl, fun _ => ⟨g, rfl, h.lt⟩, fun g' hg k hk => ?_⟩
  injection hg with hg
  injection hg with hg
  subst hg
  obtain ⟨c0, c1, c2, c3⟩ := apCells_get cs k hk
  have e0 := h.cell (k * 4); have e1 := h.cell (k * 4 + 1); have e2 := h.cell (k * 4 + 2); have e3 := h.cell (k * 4 + 3)
  rw [List.getElem?_toArray] at e0 e1 e2 e3
  exact ⟨e0.trans c0, e1.trans c1, e2.trans c2, e3.trans c3⟩
theorem rd_blk {w : World} {g c : Nat} {l : List Int} (h : Blk w g 5 (nums .u8 l).toArray) (hc : l.length ≤ c) (hl : l.length ≤ 140737488355328) : Rd w (.slice (some ⟨g, 0, none⟩) l.length c) l := by
  refine ⟨_, c, rfl, hc, (fun e => (by cases e)), rfl, by omega, fun _ => ⟨_, rfl, fun j hj => ?_⟩⟩
  rw [By.add_plain, Nat.zero_add]
  have := h.cell j
  rw [List.getElem?_toArray] at this
  exact this.trans (nums_get hj)
end Go.Proofs.Ytjnfomgehfmllaa.Tk
