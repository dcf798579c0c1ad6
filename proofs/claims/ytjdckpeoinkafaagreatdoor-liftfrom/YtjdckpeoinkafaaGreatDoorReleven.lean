/- A part of the walk through the code: contracts of functions, printed by a program of the prover. -/
import Derived.Test.YtjdckpeoinkafaaGreatDoorRd
import Derived.Test.YtjdckpeoinkafaaGreatDoorRten
import Derived.Test.YtjdckpeoinkafaaGreatDoorSimp
set_option linter.all false
namespace Wh
open Go Go.Proofs WhS
set_option maxRecDepth 100000
theorem rdo0_spec (B : Nat) (w0 w : World) (L : List Ck) (op : Int) (H : Hp B w0 w L) : Calls Tryz.prog 39 #[.int .i64 op, .int .u32 0, .int .u32 0] w fun e w' => e = .returned (.tuple #[.int .u32 (WhI.wdo op 0 0).1, .int .i64 (WhI.wdo op 0 0).2]) ∧ Hp B w0 w' L := by
  have := rdo_spec B w0 w L op 0 0 (by decide) (by decide) H
  rwa [WhR.rdo_wdo (by decide) (by decide)] at this
theorem rdo_word (B : Nat) (w0 w : World) (L : List Ck) (op a b : Int) (ha : 0 ≤ a ∧ a < 4294967296) (hb : 0 ≤ b ∧ b < 4294967296) (H : Hp B w0 w L) : Calls Tryz.prog 39 #[.int .i64 op, .int .u32 a, .int .u32 b] w fun e w' => e = .returned (.tuple #[.int .u32 (WhI.wdo op a b).1, .int .i64 (WhI.wdo op a b).2]) ∧ Hp B w0 w' L := by
  have := rdo_spec B w0 w L op a b hb.1 hb.2 H
  rwa [WhR.rdo_wdo ha hb] at this
theorem wdo_err1 {op a b : Int} (h : (WhI.wdo op a b).2 ≠ 0) : (WhI.wdo op a b).2 = 1 := by
  rw [WhM.wdo_err] at h ⊢
  split
  · rename_i h2
    rw [if_pos h2] at h
    exact absurd rfl h
  · rfl
theorem node_at_idx {D : List T} {n : Int} (h : In D n) : D[n.toNat]? = some (WhD.node D n).1 := by
  have h1 := h.1; have h2 := h.2
  have hl : n.toNat < D.length := by omega
  simp [WhD.node, h.is, List.getElem?_eq_getElem hl]
theorem op_if (D : List T) (o a b : Int) : WhD.op D o a b = if (!WhD.is D a || !WhD.is D b) = true then (0, 100, D) else if (WhI.wdo o 0 0).2 ≠ 0 then (0, (WhI.wdo o 0 0).2, D) else ((addT D ⟨2, 0, o, a, b⟩).1, 0, (addT D ⟨2, 0, o, a, b⟩).2) := by
  unfold WhD.op
  by_cases h : (!WhD.is D a || !WhD.is D b) = true
  · rw [if_pos h, if_pos (by simpa using h)]
  · rw [if_neg h, if_neg (by simpa using h)]
/-- the document's terms, laid open: a slice's header, its row -/
theorem rd_row {B : Nat} {w0 w : World} {L : List Ck} {q : Nat} {D : List T} {c : Ck} (hc : RdC q D c) (H : Hp B w0 w (c :: L)) :
    ∃ a cap, Hp B w0 w (Blk q 67 #[.slice a D.length cap] :: Row 68 5 (.slice a D.length cap) D.length (rowOf T.val D) :: L) ∧ (D ≠ [] → ∃ g, a = some ⟨g, 0, none⟩) ∧ ∀ w' L', Hp B w0 w' (Blk q 67 #[.slice a D.length cap] :: Row 68 5 (.slice a D.length cap) D.length (rowOf T.val D) :: L') → Hp B w0 w' (c :: L') := by
  obtain ⟨v, H, back⟩ := rd_open hc H
  obtain ⟨a, cap, rfl, hrow, hl⟩ := H.row (v := v)
  refine ⟨a, cap, H, fun hne => ?_, back⟩
  rcases hrow with h0 | ⟨g, h1, _⟩
  · exact absurd (List.length_eq_zero_iff.1 h0) hne
  · exact ⟨g, h1⟩
theorem rop_spec (B : Nat) (w0 w : World) (L : List Ck) (q : Nat) (D : List T) (c : Ck) (hc : RdC q D c) (op a b : Int) (hlen : D.length < 1073741824) (H : Hp B w0 w (c :: L)) :
    Calls Tryz.prog 52 #[.pointer (some ⟨q, 0, none⟩), .int .i64 op, .int .i64 a, .int .i64 b] w fun e w' => e = .returned (.tuple #[.int .i64 (WhD.op D op a b).1, .int .i64 (WhD.op D op a b).2.1]) ∧ ∃ c', RdC q (WhD.op D op a b).2.2 c' ∧ Hp B w0 w' (c' :: L) := by
  obtain ⟨sa, cap, H, _, back⟩ := rd_row hc H
  refine calls_go Tryz.func52 Tryz.ntmps52 rfl rfl ?_
  refine TW.seq ?_
  refine TW.region ?_
  refine LW.v (r_as) ?_
  refine LW.v (r_as) ?_
  refine LW.nil ?_
  refine TW.seq <| TW.seq ?_
  refine TW.join1 H [(0, .pointer (some ⟨q, 0, none⟩)), (1, .int .i64 op), (2, .int .i64 a), (3, .int .i64 b), (35, .bool (!WhD.is D a || !WhD.is D b))] (fun go => ?_) (fun f w H => ?_)
  · refine TW.region ?_
    refine LW.v (r_mv) ?_
    refine LW.v (r_bin) ?_
    refine LW.v (r_mv) ?_
    refine LW.gen fun b hb => ?_; cases b
    · have hr0 := hb.symm; have hc0 := hb.symm; try simp only [beq_iff_eq, bne_iff_ne, beq_eq_false_iff_ne, bne_eq_false_iff_eq, decide_eq_true_eq, decide_eq_false_iff_not, Bool.not_eq_true', Bool.not_eq_false', Bool.true_eq, Bool.false_eq, ge_iff_le, gt_iff_lt, Bool.not_eq_eq_eq_not, Bool.not_true, Bool.not_false, ne_eq] at hc0
      refine LW.yes (by rfl) (by rfl) (by rfl) (by rfl) (by rfl) ?_
      refine LW.v (r_mv) ?_
      refine LW.yes (by rfl) (by rfl) (by rfl) (by rfl) (by rfl) ?_
      refine LW.v (r_mv) ?_
      refine LW.yes (by rfl) (by rfl) (by rfl) (by rfl) (by rfl) ?_
      refine LW.v (r_nil) ?_
      refine LW.yes (by rfl) (by rfl) (by rfl) (by rfl) (by rfl) ?_
      refine LW.v (r_fa) ?_
      refine LW.yes (by rfl) (by rfl) (by rfl) (by rfl) (by rfl) ?_
      refine LW.v (r_ld H) ?_
      refine LW.yes (by rfl) (by rfl) (by rfl) (by rfl) (by rfl) ?_
      refine LW.v (r_len) ?_
      refine LW.yes (by rfl) (by rfl) (by rfl) (by rfl) (by rfl) ?_
      refine LW.v (r_bin) ?_
      refine LW.v (r_pick) ?_
      refine LW.v (r_mv) ?_
      refine LW.gen fun b hb => ?_; cases b
      · have hr1 := hb.symm; have hc1 := hb.symm; try simp only [beq_iff_eq, bne_iff_ne, beq_eq_false_iff_ne, bne_eq_false_iff_eq, decide_eq_true_eq, decide_eq_false_iff_not, Bool.not_eq_true', Bool.not_eq_false', Bool.true_eq, Bool.false_eq, ge_iff_le, gt_iff_lt, Bool.not_eq_eq_eq_not, Bool.not_true, Bool.not_false, ne_eq] at hc1
        refine LW.yes (by rfl) (by rfl) (by rfl) (by rfl) (by rfl) ?_
        refine LW.v (r_mv) ?_
        refine LW.yes (by rfl) (by rfl) (by rfl) (by rfl) (by rfl) ?_
        refine LW.v (r_bin) ?_
        refine LW.v (r_pick) ?_
        refine LW.v (r_mv) ?_
        refine LW.gen fun b hb => ?_; cases b
        · have hr2 := hb.symm; have hc2 := hb.symm; try simp only [beq_iff_eq, bne_iff_ne, beq_eq_false_iff_ne, bne_eq_false_iff_eq, decide_eq_true_eq, decide_eq_false_iff_not, Bool.not_eq_true', Bool.not_eq_false', Bool.true_eq, Bool.false_eq, ge_iff_le, gt_iff_lt, Bool.not_eq_eq_eq_not, Bool.not_true, Bool.not_false, ne_eq] at hc2
          refine LW.yes (by rfl) (by rfl) (by rfl) (by rfl) (by rfl) ?_
          refine LW.v (r_mv) ?_
          refine LW.yes (by rfl) (by rfl) (by rfl) (by rfl) (by rfl) ?_
          refine LW.v (r_mv) ?_
          refine LW.yes (by rfl) (by rfl) (by rfl) (by rfl) (by rfl) ?_
          refine LW.v (r_nil) ?_
          refine LW.yes (by rfl) (by rfl) (by rfl) (by rfl) (by rfl) ?_
          refine LW.v (r_fa) ?_
          refine LW.yes (by rfl) (by rfl) (by rfl) (by rfl) (by rfl) ?_
          refine LW.v (r_ld H) ?_
          refine LW.yes (by rfl) (by rfl) (by rfl) (by rfl) (by rfl) ?_
          refine LW.v (r_len) ?_
          refine LW.yes (by rfl) (by rfl) (by rfl) (by rfl) (by rfl) ?_
          refine LW.v (r_bin) ?_
          refine LW.v (r_pick) ?_
          refine LW.nil ?_
          exact go _ _ H ⟨rfl, rfl, rfl, rfl, congrArg Value.bool (by first | rfl | (simp [WhD.is, hc0, hc1, hc2]; done) | (exfalso; omega)  | exact Bool.noConfusion (hc0.symm.trans hc1) | exact Bool.noConfusion (hc0.symm.trans hc2) | exact Bool.noConfusion (hc1.symm.trans hc2) | (rw [Bool.eq_iff_iff]; simp [WhD.is]; omega)), trivial⟩
        · have hr2 := hb.symm; have hc2 := hb.symm; try simp only [beq_iff_eq, bne_iff_ne, beq_eq_false_iff_ne, bne_eq_false_iff_eq, decide_eq_true_eq, decide_eq_false_iff_not, Bool.not_eq_true', Bool.not_eq_false', Bool.true_eq, Bool.false_eq, ge_iff_le, gt_iff_lt, Bool.not_eq_eq_eq_not, Bool.not_true, Bool.not_false, ne_eq] at hc2
          refine LW.no (by rfl) (by rfl) (by rfl) (by rfl) (by rfl) (by rfl) ?_
          refine LW.no (by rfl) (by rfl) (by rfl) (by rfl) (by rfl) (by rfl) ?_
          refine LW.no (by rfl) (by rfl) (by rfl) (by rfl) (by rfl) (by rfl) ?_
          refine LW.no (by rfl) (by rfl) (by rfl) (by rfl) (by rfl) (by rfl) ?_
          refine LW.no (by rfl) (by rfl) (by rfl) (by rfl) (by rfl) (by rfl) ?_
          refine LW.no (by rfl) (by rfl) (by rfl) (by rfl) (by rfl) (by rfl) ?_
          refine LW.no (by rfl) (by rfl) (by rfl) (by rfl) (by rfl) (by rfl) ?_
          refine LW.v (r_pick) ?_
          refine LW.nil ?_
          exact go _ _ H ⟨rfl, rfl, rfl, rfl, congrArg Value.bool (by first | rfl | (simp [WhD.is, hc0, hc1, hc2]; done) | (exfalso; omega)  | exact Bool.noConfusion (hc0.symm.trans hc1) | exact Bool.noConfusion (hc0.symm.trans hc2) | exact Bool.noConfusion (hc1.symm.trans hc2) | (rw [Bool.eq_iff_iff]; simp [WhD.is]; omega)), trivial⟩
      · have hr1 := hb.symm; have hc1 := hb.symm; try simp only [beq_iff_eq, bne_iff_ne, beq_eq_false_iff_ne, bne_eq_false_iff_eq, decide_eq_true_eq, decide_eq_false_iff_not, Bool.not_eq_true', Bool.not_eq_false', Bool.true_eq, Bool.false_eq, ge_iff_le, gt_iff_lt, Bool.not_eq_eq_eq_not, Bool.not_true, Bool.not_false, ne_eq] at hc1
        refine LW.no (by rfl) (by rfl) (by rfl) (by rfl) (by rfl) (by rfl) ?_
        refine LW.no (by rfl) (by rfl) (by rfl) (by rfl) (by rfl) (by rfl) ?_
        refine LW.v (r_pick) ?_
        refine LW.v (r_mv) ?_
        refine LW.no (by rfl) (by rfl) (by rfl) (by rfl) (by rfl) (by rfl) ?_
        refine LW.no (by rfl) (by rfl) (by rfl) (by rfl) (by rfl) (by rfl) ?_
        refine LW.no (by rfl) (by rfl) (by rfl) (by rfl) (by rfl) (by rfl) ?_
        refine LW.no (by rfl) (by rfl) (by rfl) (by rfl) (by rfl) (by rfl) ?_
        refine LW.no (by rfl) (by rfl) (by rfl) (by rfl) (by rfl) (by rfl) ?_
        refine LW.no (by rfl) (by rfl) (by rfl) (by rfl) (by rfl) (by rfl) ?_
        refine LW.no (by rfl) (by rfl) (by rfl) (by rfl) (by rfl) (by rfl) ?_
        refine LW.v (r_pick) ?_
        refine LW.nil ?_
        exact go _ _ H ⟨rfl, rfl, rfl, rfl, congrArg Value.bool (by first | rfl | (simp [WhD.is, hc0, hc1]; done) | (exfalso; omega)  | exact Bool.noConfusion (hc0.symm.trans hc1) | (rw [Bool.eq_iff_iff]; simp [WhD.is]; omega)), trivial⟩
    · have hr0 := hb.symm; have hc0 := hb.symm; try simp only [beq_iff_eq, bne_iff_ne, beq_eq_false_iff_ne, bne_eq_false_iff_eq, decide_eq_true_eq, decide_eq_false_iff_not, Bool.not_eq_true', Bool.not_eq_false', Bool.true_eq, Bool.false_eq, ge_iff_le, gt_iff_lt, Bool.not_eq_eq_eq_not, Bool.not_true, Bool.not_false, ne_eq] at hc0
      refine LW.no (by rfl) (by rfl) (by rfl) (by rfl) (by rfl) (by rfl) ?_
      refine LW.no (by rfl) (by rfl) (by rfl) (by rfl) (by rfl) (by rfl) ?_
      refine LW.no (by rfl) (by rfl) (by rfl) (by rfl) (by rfl) (by rfl) ?_
      refine LW.no (by rfl) (by rfl) (by rfl) (by rfl) (by rfl) (by rfl) ?_
      refine LW.no (by rfl) (by rfl) (by rfl) (by rfl) (by rfl) (by rfl) ?_
      refine LW.no (by rfl) (by rfl) (by rfl) (by rfl) (by rfl) (by rfl) ?_
      refine LW.no (by rfl) (by rfl) (by rfl) (by rfl) (by rfl) (by rfl) ?_
      refine LW.v (r_pick) ?_
      refine LW.v (r_mv) ?_
      refine LW.no (by rfl) (by rfl) (by rfl) (by rfl) (by rfl) (by rfl) ?_
      refine LW.no (by rfl) (by rfl) (by rfl) (by rfl) (by rfl) (by rfl) ?_
      refine LW.v (r_pick) ?_
      refine LW.v (r_mv) ?_
      refine LW.no (by rfl) (by rfl) (by rfl) (by rfl) (by rfl) (by rfl) ?_
      refine LW.no (by rfl) (by rfl) (by rfl) (by rfl) (by rfl) (by rfl) ?_
      refine LW.no (by rfl) (by rfl) (by rfl) (by rfl) (by rfl) (by rfl) ?_
      refine LW.no (by rfl) (by rfl) (by rfl) (by rfl) (by rfl) (by rfl) ?_
      refine LW.no (by rfl) (by rfl) (by rfl) (by rfl) (by rfl) (by rfl) ?_
      refine LW.no (by rfl) (by rfl) (by rfl) (by rfl) (by rfl) (by rfl) ?_
      refine LW.no (by rfl) (by rfl) (by rfl) (by rfl) (by rfl) (by rfl) ?_
      refine LW.v (r_pick) ?_
      refine LW.nil ?_
      exact go _ _ H ⟨rfl, rfl, rfl, rfl, congrArg Value.bool (by first | rfl | (simp [WhD.is, hc0]; done) | (exfalso; omega)  | (rw [Bool.eq_iff_iff]; simp [WhD.is]; omega)), trivial⟩
  refine TW.c rfl (fun hb => ?_) (fun hb => ?_)
  · have hr0 := hb; have hc0 := hb; try simp only [beq_iff_eq, bne_iff_ne, beq_eq_false_iff_ne, bne_eq_false_iff_eq, decide_eq_true_eq, decide_eq_false_iff_not, Bool.not_eq_true', Bool.not_eq_false', Bool.true_eq, Bool.false_eq, ge_iff_le, gt_iff_lt, Bool.not_eq_eq_eq_not, Bool.not_true, Bool.not_false, ne_eq] at hc0
    refine TW.seq ?_
    refine TW.region ?_
    refine LW.v (r_as) ?_
    refine LW.v (r_as) ?_
    refine LW.nil ?_
    refine TW.ret (ret2 (by rfl) rT rT ?_)
    first
    | exact ⟨by rw [op_if, if_pos hr0], c, by rw [op_if, if_pos hr0]; exact hc, back _ _ H⟩
    | exact ⟨by rw [op_if, if_neg (by rw [hr0]; exact Bool.noConfusion), if_pos (by simpa using hr0), wdo_err1 (by simpa using hr0)], c, by rw [op_if, if_neg (by rw [hr0]; exact Bool.noConfusion), if_pos (by simpa using hr0)]; exact hc, back _ _ H⟩
    | exact ⟨by rw [op_if, if_neg (by rw [hr0]; exact Bool.noConfusion), if_neg (by simpa using hr0)], c', by rw [op_if, if_neg (by rw [hr0]; exact Bool.noConfusion), if_neg (by simpa using hr0)]; exact hc', H⟩
  · have hr0 := hb; have hc0 := hb; try simp only [beq_iff_eq, bne_iff_ne, beq_eq_false_iff_ne, bne_eq_false_iff_eq, decide_eq_true_eq, decide_eq_false_iff_not, Bool.not_eq_true', Bool.not_eq_false', Bool.true_eq, Bool.false_eq, ge_iff_le, gt_iff_lt, Bool.not_eq_eq_eq_not, Bool.not_true, Bool.not_false, ne_eq] at hc0
    refine TW.skip <| TW.seq ?_
    refine TW.region ?_
    refine LW.v (r_mv) ?_
    refine LW.c r_c3 ((rdo0_spec _ _ _ _ op H).mono ?_)
    rintro _ w ⟨rfl, H⟩
    refine ⟨_, rfl, ?_⟩
    refine LW.v (r_mv) ?_
    refine LW.v (r_ext) ?_
    refine LW.v (r_ext) ?_
    refine LW.v (r_as) ?_
    refine LW.v (r_as) ?_
    refine LW.nil ?_
    refine TW.seq <| TW.seq ?_
    refine TW.region ?_
    refine LW.v (r_mv) ?_
    refine LW.v (r_bin) ?_
    refine LW.nil ?_
    refine TW.c rfl (fun hb => ?_) (fun hb => ?_)
    · have hr1 := hb; have hc1 := hb; try simp only [beq_iff_eq, bne_iff_ne, beq_eq_false_iff_ne, bne_eq_false_iff_eq, decide_eq_true_eq, decide_eq_false_iff_not, Bool.not_eq_true', Bool.not_eq_false', Bool.true_eq, Bool.false_eq, ge_iff_le, gt_iff_lt, Bool.not_eq_eq_eq_not, Bool.not_true, Bool.not_false, ne_eq] at hc1
      refine TW.seq ?_
      refine TW.region ?_
      refine LW.v (r_as) ?_
      refine LW.v (r_as) ?_
      refine LW.nil ?_
      refine TW.ret (ret2 (by rfl) rT rT ?_)
      first
      | exact ⟨by rw [op_if, if_pos hr0], c, by rw [op_if, if_pos hr0]; exact hc, back _ _ H⟩
      | exact ⟨by rw [op_if, if_neg (by rw [hr0]; exact Bool.noConfusion), if_pos (by simpa using hr1), wdo_err1 (by simpa using hr1)], c, by rw [op_if, if_neg (by rw [hr0]; exact Bool.noConfusion), if_pos (by simpa using hr1)]; exact hc, back _ _ H⟩
      | exact ⟨by rw [op_if, if_neg (by rw [hr0]; exact Bool.noConfusion), if_neg (by simpa using hr1)], c', by rw [op_if, if_neg (by rw [hr0]; exact Bool.noConfusion), if_neg (by simpa using hr1)]; exact hc', H⟩
    · have hr1 := hb; have hc1 := hb; try simp only [beq_iff_eq, bne_iff_ne, beq_eq_false_iff_ne, bne_eq_false_iff_eq, decide_eq_true_eq, decide_eq_false_iff_not, Bool.not_eq_true', Bool.not_eq_false', Bool.true_eq, Bool.false_eq, ge_iff_le, gt_iff_lt, Bool.not_eq_eq_eq_not, Bool.not_true, Bool.not_false, ne_eq] at hc1
      refine TW.skip <| TW.seq ?_
      refine TW.region ?_
      refine LW.v (r_mv) ?_
      refine LW.v (r_mv) ?_
      refine LW.v (r_mv) ?_
      refine LW.v (r_mv) ?_
      refine LW.v (r_bd) ?_
      have H := back _ _ H
      refine LW.c r_c2 ((radd_at q D ⟨2, 0, op, a, b⟩ hc hlen H).mono ?_)
      rintro _ w ⟨rfl, c', hc', H⟩
      refine ⟨_, rfl, ?_⟩
      refine LW.v (r_as) ?_
      refine LW.v (r_as) ?_
      refine LW.nil ?_
      refine TW.ret (ret2 (by rfl) rT rT ?_)
      first
      | exact ⟨by rw [op_if, if_pos hr0], c, by rw [op_if, if_pos hr0]; exact hc, back _ _ H⟩
      | exact ⟨by rw [op_if, if_neg (by rw [hr0]; exact Bool.noConfusion), if_pos (by simpa using hr1), wdo_err1 (by simpa using hr1)], c, by rw [op_if, if_neg (by rw [hr0]; exact Bool.noConfusion), if_pos (by simpa using hr1)]; exact hc, back _ _ H⟩
      | exact ⟨by rw [op_if, if_neg (by rw [hr0]; exact Bool.noConfusion), if_neg (by simpa using hr1)], c', by rw [op_if, if_neg (by rw [hr0]; exact Bool.noConfusion), if_neg (by simpa using hr1)]; exact hc', H⟩
theorem rop_at {B : Nat} {w0 w : World} {Ls : List Ck} {c : Ck} {mk : Ck → List Ck} (q : Nat) (D : List T) (op a b : Int) (hc : RdC q D c) (hlen : D.length < 1073741824) (H : Hp B w0 w Ls) (hb : HasC Ls c mk := by infer_instance) :
    Calls Tryz.prog 52 #[.pointer (some ⟨q, 0, none⟩), .int .i64 op, .int .i64 a, .int .i64 b] w fun e w' => e = .returned (.tuple #[.int .i64 (WhD.op D op a b).1, .int .i64 (WhD.op D op a b).2.1]) ∧ ∃ c', RdC q (WhD.op D op a b).2.2 c' ∧ Hp B w0 w' (mk c') := by
  obtain ⟨R, H1, back⟩ := H.pick (h := hb)
  exact (rop_spec _ _ _ _ q D c hc op a b hlen H1).mono fun e w' ⟨h1, c', h2, h3⟩ => ⟨h1, c', h2, back _ _ h3⟩
theorem logN_step {v : Int} {i : Nat} (h1 : 1 ≤ i) (h2 : i < 32) (hn : v ≠ 2 ^ i) : logN (32 - i) v = logN (32 - (i + 1)) v := by
  have e : 32 - i = (31 - i) + 1 := by omega
  have e2 : 31 - (31 - i) = i := by omega
  rw [e]
  simp only [logN]
  rw [e2, if_neg hn]
  congr 1
  omega
theorem rlog_spec (B : Nat) (w0 w : World) (L : List Ck) (v : Int) (H : Hp B w0 w L) : Calls Tryz.prog 88 #[.int .u32 v] w fun e w' => e = .returned (.int .i64 (logI v)) ∧ Hp B w0 w' L := by
  refine calls_go Tryz.func88 Tryz.ntmps88 rfl rfl ?_
  refine TW.seq ?_
  refine TW.region ?_
  refine LW.v (r_as) ?_
  refine LW.nil ?_
  refine TW.seq <| TW.seq ?_
  refine TW.region ?_
  refine LW.v (r_as) ?_
  refine LW.nil ?_
  refine TW.block ?_
  refine TW.lp (σ := Nat) (fun i w' => 1 ≤ i ∧ i ≤ 32 ∧ logI v = logN (32 - i) v ∧ Hp B w0 w' L) (fun i => [(0, .int .u32 v), (3, .int .i64 (i : Int))]) (fun i => 32 - i) (1) (⟨Nat.le_refl _, by omega, rfl, H⟩) (⟨rfl, rfl, trivial⟩) ?_
  rintro i f w ⟨h1, hi, hl, H⟩ again
  refine TW.seq <| TW.seq ?_
  refine TW.region ?_
  refine LW.v (r_mv) ?_
  refine LW.v (r_bin) ?_
  refine LW.nil ?_
  refine TW.c rfl (fun hb => ?_) (fun hb => ?_)
  · have hi3 : (i : Int) < 32 := by simpa using hb
    have hi2 : i < 32 := by omega
    have hmin : min ((i : Int)).toNat 32 = i := by simp; omega
    have hp : IntKind.u32.wrap (1 * 2 ^ min ((i : Int)).toNat 32) = 2 ^ i := by
      have h2 : 2 ^ i < 4294967296 := Nat.pow_lt_pow_right (by decide) (m := i) (n := 32) hi2
      have e1 : ((2 ^ i : Nat) : Int) = (2 : Int) ^ i := by simp
      rw [hmin, Int.one_mul, ← e1]
      exact WhB.wrap_nat h2
    refine TW.skip <| TW.seq <| TW.block <| TW.seq ?_
    refine TW.region ?_
    refine LW.v (r_mv) ?_
    refine LW.v (r_mv) ?_
    refine LW.v (r_shl (hb := by first | omega | exact WhI.bits_nn _ _ _ | exact WhI.u32_nn _)) ?_
    refine LW.v (r_bin) ?_
    refine LW.nil ?_
    refine TW.c rfl (fun hb => ?_) (fun hb => ?_)
    · refine TW.seq ?_
      refine TW.region ?_
      refine LW.v (r_mv) ?_
      refine LW.v (r_as) ?_
      refine LW.nil ?_
      refine TW.ret (ret1 (by rfl) rT ?_)
      have hv : v = 2 ^ i := by
        have h : v = IntKind.u32.wrap (1 * 2 ^ min ((i : Int)).toNat 32) := of_decide_eq_true hb
        rw [h, hp]
      have e : logN (32 - i) v = i := by rw [hv]; exact logN_hit (32 - i) i (by omega) (by omega) (by omega)
      exact ⟨by rw [hl, e], H⟩
    · refine TW.skip <| TW.inBlock ?_
      refine TW.region ?_
      refine LW.v (r_mv) ?_
      first | refine LW.v (r_add (hk := w64 (by omega) (by omega))) ?_ | refine LW.v (r_bin) ?_
      refine LW.v (r_as) ?_
      refine LW.nil ?_
      have hv : v ≠ 2 ^ i := by
        have h : ¬ v = IntKind.u32.wrap (1 * 2 ^ min ((i : Int)).toNat 32) := of_decide_eq_false hb
        rwa [hp] at h
      exact again (i + 1) _ _ ⟨by omega, by omega, by rw [hl, logN_step h1 hi2 hv], H⟩ ⟨rfl, rfl, trivial⟩ (by omega)
  · refine TW.exit rfl <| TW.seq ?_
    refine TW.region ?_
    refine LW.v (r_as) ?_
    refine LW.nil ?_
    refine TW.ret (ret1 (by rfl) rT ?_)
    have hi3 : ¬ (i : Int) < 32 := by simpa using hb
    obtain rfl : i = 32 := by omega
    exact ⟨by rw [hl]; rfl, H⟩
theorem rin_spec (w : World) (a : Addr) (cap : Nat) (op : Int) (l : List Int) (hr : RowAt w a (rowOf i64v l)) (hl : l.length < 1073741824) : Calls Tryz.prog 64 #[.int .i64 op, .slice (some a) l.length cap] w fun e w' => e = .returned (.bool (WhS.among op l)) ∧ w' = w := by
  refine calls_go Tryz.func64 Tryz.ntmps64 rfl rfl ?_
  refine TW.seq ?_
  refine TW.region ?_
  refine LW.v (r_as) ?_
  refine LW.nil ?_
  refine TW.seq <| TW.seq ?_
  refine TW.region ?_
  refine LW.v (r_as) ?_
  refine LW.nil ?_
  refine TW.block ?_
  refine TW.lp (σ := Nat) (fun i w' => w' = w ∧ i ≤ l.length ∧ ∀ j, j < i → l[j]? ≠ some op) (fun i => [(0, .int .i64 op), (1, .slice (some a) l.length cap), (5, .int .i64 (i : Int))]) (fun i => l.length - i) (0) (⟨rfl, by omega, fun j hj => absurd hj (by omega)⟩) (⟨rfl, rfl, rfl, trivial⟩) ?_
  rintro i f w ⟨rfl, hi, hn⟩ again
  refine TW.seq <| TW.seq ?_
  refine TW.region ?_
  refine LW.v (r_mv) ?_
  refine LW.v (r_mv) ?_
  refine LW.v (r_len) ?_
  refine LW.v (r_bin) ?_
  refine LW.nil ?_
  refine TW.c rfl (fun hb => ?_) (fun hb => ?_)
  · have hi2 : i < l.length := by simpa using hb
    have hg : l[i]? = some l[i] := List.getElem?_eq_getElem hi2
    refine TW.skip <| TW.seq <| TW.block <| TW.seq ?_
    refine TW.region ?_
    refine LW.v (r_mv) ?_
    refine LW.v (r_mv) ?_
    refine LW.v (r_iaS (h0 := by omega) (h1 := by omega)) ?_
    refine LW.v (r_ldR1 (i := i) (enc := i64v) hr hg (fun _ => rfl)) ?_
    refine LW.v (r_mv) ?_
    refine LW.v (r_bin) ?_
    refine LW.nil ?_
    refine TW.c rfl (fun hb => ?_) (fun hb => ?_)
    · refine TW.seq ?_
      refine TW.region ?_
      refine LW.v (r_as) ?_
      refine LW.nil ?_
      refine TW.ret (ret1 (by rfl) rT ?_)
      have he : l[i] = op := by simpa using hb
      have : WhS.among op l = true := by simp [WhS.among]; exact he ▸ List.getElem_mem hi2
      exact ⟨by rw [this], rfl⟩
    · refine TW.skip <| TW.inBlock ?_
      refine TW.region ?_
      refine LW.v (r_mv) ?_
      first | refine LW.v (r_add (hk := w64 (by omega) (by omega))) ?_ | refine LW.v (r_bin) ?_
      refine LW.v (r_as) ?_
      refine LW.nil ?_
      have he : ¬ l[i] = op := by simpa using hb
      exact again (i + 1) _ _ ⟨rfl, by omega, fun j hj => by
        by_cases e : j = i
        · subst e; rw [hg]; simpa using he
        · exact hn j (by omega)⟩ ⟨rfl, rfl, rfl, trivial⟩ (by omega)
  · refine TW.exit rfl <| TW.seq ?_
    refine TW.region ?_
    refine LW.v (r_as) ?_
    refine LW.nil ?_
    refine TW.ret (ret1 (by rfl) rT ?_)
    have hi2 : i = l.length := by have : ¬ i < l.length := by simpa using hb
                                  omega
    have : WhS.among op l = false := by
      simp only [WhS.among, List.contains_eq_mem, decide_eq_false_iff_not]
      intro hm
      obtain ⟨j, hj, e⟩ := List.getElem_of_mem hm
      exact hn j (by omega) (by rw [List.getElem?_eq_getElem hj, e])
    exact ⟨by rw [this], rfl⟩
theorem rin_lit {B : Nat} {w0 w : World} {L : List Ck} {gb cap : Nat} {bt : TypeId} {cs : Array Value} (op : Int) (l : List Int) (H : Hp B w0 w (Blk gb bt cs :: L)) (hcs : cs.toList = rowOf i64v l) (hl : l.length < 1073741824) : Calls Tryz.prog 64 #[.int .i64 op, .slice (some ⟨gb, 0, none⟩) l.length cap] w fun e w' => e = .returned (.bool (WhS.among op l)) ∧ Hp B w0 w' L := by
  have hr : RowAt w ⟨gb, 0, none⟩ (rowOf i64v l) := by rw [← hcs]; exact rowAt_blk H
  exact (rin_spec w ⟨gb, 0, none⟩ cap op l hr hl).mono fun e w' ⟨h1, h2⟩ => ⟨h1, by rw [h2]; exact H.drop⟩
def RopOK (B : Nat) (w0 : World) (q n : Nat) (rec : Rec) : Prop := ∀ (D : List T) (c : Ck) (L : List Ck) (op a b : Int) (r : Int × List T) (w : World), RdC q D c → Wf D → Rng D → In D a → In D b → WhP.isOp op = true → D.length + n < 1073741824 → rec D op a b = some r → Hp B w0 w (c :: L) →
  Calls Tryz.prog 37 #[.pointer (some ⟨q, 0, none⟩), .int .i64 op, .int .i64 a, .int .i64 b] w fun e w' => e = .returned (.tuple #[.int .i64 r.1, .int .i64 0]) ∧ ∃ c', RdC q r.2 c' ∧ Hp B w0 w' (c' :: L)
theorem RopOK.at {B : Nat} {w0 : World} {q n : Nat} {rec : Rec} (h : RopOK B w0 q n rec) {D : List T} {c : Ck} {Ls : List Ck} {mk : Ck → List Ck} {op a b : Int} {r : Int × List T} {w : World} (hc : RdC q D c) (hD : Wf D) (hg : Rng D) (ha : In D a) (hb : In D b) (ho : WhP.isOp op = true) (hlen : D.length + n < 1073741824) (hr : rec D op a b = some r) (H : Hp B w0 w Ls) (hbc : HasC Ls c mk := by infer_instance) :
  Calls Tryz.prog 37 #[.pointer (some ⟨q, 0, none⟩), .int .i64 op, .int .i64 a, .int .i64 b] w fun e w' => e = .returned (.tuple #[.int .i64 r.1, .int .i64 0]) ∧ ∃ c', RdC q r.2 c' ∧ Hp B w0 w' (mk c') := by
  obtain ⟨R, H1, back⟩ := H.pick (h := hbc)
  exact (h D c R op a b r w hc hD hg ha hb ho hlen hr H1).mono fun e w' ⟨h1, c', h2, h3⟩ => ⟨h1, c', h2, back _ _ h3⟩
theorem rgoes_spec {B : Nat} {w0 w : World} {q n : Nat} {rec : Rec} (h : RopOK B w0 q n rec) {D : List T} {c : Ck} {Ls : List Ck} {mk : Ck → List Ck} {op a v : Int} {r : Int × List T} (hc : RdC q D c) (hD : Wf D) (hg : Rng D) (ha : In D a) (ho : WhP.isOp op = true) (hlen : D.length + (n + 1) < 1073741824) (hv : 0 ≤ v ∧ v < 4294967296)
    (hr : rec (addT D (K v)).2 op a (addT D (K v)).1 = some r) (H : Hp B w0 w Ls) (hbc : HasC Ls c mk := by infer_instance) :
    Calls Tryz.prog 87 #[.pointer (some ⟨q, 0, none⟩), .int .i64 op, .int .i64 a, .int .u32 v] w fun e w' => e = .returned (.tuple #[.int .i64 r.1, .bool true]) ∧ ∃ c', RdC q r.2 c' ∧ Hp B w0 w' (mk c') := by
  obtain ⟨R, H, back⟩ := H.pick (h := hbc)
  have hl := addT_len D (K v)
  refine calls_go Tryz.func87 Tryz.ntmps87 rfl rfl ?_
  refine TW.seq ?_
  refine TW.region ?_
  refine LW.v (r_as) ?_
  refine LW.v (r_as) ?_
  refine LW.nil ?_
  refine TW.seq ?_
  refine TW.region ?_
  refine LW.v (r_mv) ?_
  refine LW.v (r_mv) ?_
  refine LW.v (r_mv) ?_
  refine LW.v (r_mv) ?_
  refine LW.v (r_mv) ?_
  refine LW.c r_c2 ((rconst_at q D v hc (by omega) H).mono ?_)
  rintro _ w ⟨rfl, c', hc', H⟩
  refine ⟨_, rfl, ?_⟩
  refine LW.c r_c4 ((h.at (op := op) (a := a) hc' (hD.add (K_ok _ v)) (hg.add hv) (ha.ext (addT_ext D (K v))) (addT_in D (K v)).1 ho (by unfold K at hl; omega) hr H).mono ?_)
  rintro _ w ⟨rfl, c2, hc2, H⟩
  refine ⟨_, rfl, ?_⟩
  refine LW.v (r_mv) ?_
  refine LW.v (r_ext) ?_
  refine LW.v (r_ext) ?_
  refine LW.v (r_as) ?_
  refine LW.v (r_as) ?_
  refine LW.nil ?_
  refine TW.seq ?_
  refine TW.region ?_
  refine LW.v (r_mv) ?_
  refine LW.v (r_as) ?_
  refine LW.v (r_as) ?_
  refine LW.nil ?_
  refine TW.ret (ret2 (by rfl) rT rT ?_)
  exact ⟨rfl, c2, hc2, back _ _ H⟩
theorem rplain2_spec {B : Nat} {w0 w : World} {q n : Nat} {rec : Rec} (h : RopOK B w0 q n rec) {D : List T} {c : Ck} {L : List Ck} {op a b v : Int} {r : Int × List T} (hc : RdC q D c) (hD : Wf D) (hg : Rng D) (hlen : D.length + (n + 1) < 1073741824) (ha : In D a) (hb0 : In D b) (hv0 : v = (known D b).1) (ho : WhP.isOp op = true)
    (hr : (rplain op a b v).isNo = false → exec rec D op a b (rplain op a b v) = some r) (H : Hp B w0 w (c :: L)) :
    Calls Tryz.prog 65 #[.pointer (some ⟨q, 0, none⟩), .int .i64 op, .int .i64 a, .int .i64 b] w fun e w' => e = .returned (.tuple #[.int .i64 (outS D r (rplain op a b v)).1, .bool (outS D r (rplain op a b v)).2.1]) ∧ ∃ c', RdC q (outS D r (rplain op a b v)).2.2 c' ∧ Hp B w0 w' (c' :: L) := by
  have hv : 0 ≤ v ∧ v < 4294967296 := by rw [hv0]; exact hg.known b
  have hne : D ≠ [] := by intro e; have := hb0.1; have := hb0.2; subst e; simp at this; omega
  obtain ⟨sa, cap, H, hsa, back⟩ := rd_row hc H
  obtain ⟨g, rfl⟩ := hsa hne
  have hb1 := hb0.1
  have hb2 := hb0.2
  have hrow := rowR (g := g) (cap := cap) (m := D.length) H
  refine calls_go Tryz.func65 Tryz.ntmps65 rfl rfl ?_
  refine TW.seq ?_
  refine TW.region ?_
  refine LW.v (r_as) ?_
  refine LW.v (r_as) ?_
  refine LW.nil ?_
  refine TW.seq ?_
  refine TW.region ?_
  refine LW.v (r_mv) ?_
  refine LW.v (r_nil) ?_
  refine LW.v (r_fa) ?_
  refine LW.v (r_ld H) ?_
  refine LW.v (r_mv) ?_
  refine LW.v (r_iaS (h0 := hb1) (h1 := hb2)) ?_
  refine LW.v (r_faG) ?_
  refine LW.v (r_ldc (rowAt_cell (enc := T.val) (size := 5) (k := 1) (u := .int .u32 v) hrow (node_at_idx hb0) (fun _ => rfl) (by rw [hv0]; rfl))) ?_
  have H := back _ _ H
  refine LW.v (r_as) ?_
  refine LW.nil ?_
  refine TW.seq ?_
  refine TW.region ?_
  refine LW.v (r_as) ?_
  refine LW.nil ?_
  refine TW.seq ?_
  refine TW.region ?_
  refine LW.v (r_mv) ?_
  refine LW.new (r_bsl H [.int .i64 29, .int .i64 33, .int .i64 34] [.int .i64 29, .int .i64 33, .int .i64 34] rfl rfl (hv := by simp [Value.cells])) ?_; intro gb w H
  refine LW.c r_c2 ((rin_lit op [29, 33, 34] H rfl (by decide)).mono ?_)
  rintro _ w ⟨rfl, H⟩
  refine ⟨_, rfl, ?_⟩
  refine LW.v (r_as) ?_
  refine LW.nil ?_
  refine TW.seq <| TW.seq ?_
  refine TW.join1 H [(0, .pointer (some ⟨q, 0, none⟩)), (1, .int .i64 op), (2, .int .i64 a), (3, .int .i64 b), (10, .int .u32 v), (11, .int .u32 4294967295), (12, .bool (among op [29, 33, 34])), (49, .bool ((decide (v = 0) && among op [27, 35, 32]) || (decide (v = 1) && among op [37, 41, 42]) || (decide (v = 4294967295) && decide (op = 36))))] (fun go => ?_) (fun f w H => ?_)
  · refine TW.region ?_
    refine LW.v (r_mv) ?_
    refine LW.v (r_bin) ?_
    refine LW.v (r_mv) ?_
    refine LW.gen fun b hb => ?_; cases b
    · have hr0 := hb.symm; have hc0 := hb.symm; try simp only [beq_iff_eq, bne_iff_ne, beq_eq_false_iff_ne, bne_eq_false_iff_eq, decide_eq_true_eq, decide_eq_false_iff_not, Bool.not_eq_true', Bool.not_eq_false', Bool.true_eq, Bool.false_eq, ge_iff_le, gt_iff_lt, Bool.not_eq_eq_eq_not, Bool.not_true, Bool.not_false, ne_eq] at hc0
      refine LW.no (by rfl) (by rfl) (by rfl) (by rfl) (by rfl) (by rfl) ?_
      refine LW.no (by rfl) (by rfl) (by rfl) (by rfl) (by rfl) (by rfl) ?_
      refine LW.no (by rfl) (by rfl) (by rfl) (by rfl) (by rfl) (by rfl) ?_
      refine LW.v (r_pick) ?_
      refine LW.v (r_mv) ?_
      refine LW.yes (by rfl) (by rfl) (by rfl) (by rfl) (by rfl) ?_
      refine LW.v (r_mv) ?_
      refine LW.yes (by rfl) (by rfl) (by rfl) (by rfl) (by rfl) ?_
      refine LW.v (r_bin) ?_
      refine LW.yes (by rfl) (by rfl) (by rfl) (by rfl) (by rfl) ?_
      refine LW.v (r_mv) ?_
      refine LW.gen fun b hb => ?_; cases b
      · have hr1 := hb.symm; have hc1 := hb.symm; try simp only [beq_iff_eq, bne_iff_ne, beq_eq_false_iff_ne, bne_eq_false_iff_eq, decide_eq_true_eq, decide_eq_false_iff_not, Bool.not_eq_true', Bool.not_eq_false', Bool.true_eq, Bool.false_eq, ge_iff_le, gt_iff_lt, Bool.not_eq_eq_eq_not, Bool.not_true, Bool.not_false, ne_eq] at hc1
        refine LW.no (by rfl) (by rfl) (by rfl) (by rfl) (by rfl) (by rfl) ?_
        refine LW.no (by rfl) (by rfl) (by rfl) (by rfl) (by rfl) (by rfl) ?_
        refine LW.no (by rfl) (by rfl) (by rfl) (by rfl) (by rfl) (by rfl) ?_
        refine LW.yes (by rfl) (by rfl) (by rfl) (by rfl) (by rfl) ?_
        refine LW.v (r_pick) ?_
        refine LW.v (r_pick) ?_
        refine LW.v (r_mv) ?_
        refine LW.yes (by rfl) (by rfl) (by rfl) (by rfl) (by rfl) ?_
        refine LW.v (r_mv) ?_
        refine LW.yes (by rfl) (by rfl) (by rfl) (by rfl) (by rfl) ?_
        refine LW.v (r_mv) ?_
        refine LW.yes (by rfl) (by rfl) (by rfl) (by rfl) (by rfl) ?_
        refine LW.v (r_bin) ?_
        refine LW.yes (by rfl) (by rfl) (by rfl) (by rfl) (by rfl) ?_
        refine LW.v (r_mv) ?_
        refine LW.gen fun b hb => ?_; cases b
        · have hr2 := hb.symm; have hc2 := hb.symm; try simp only [beq_iff_eq, bne_iff_ne, beq_eq_false_iff_ne, bne_eq_false_iff_eq, decide_eq_true_eq, decide_eq_false_iff_not, Bool.not_eq_true', Bool.not_eq_false', Bool.true_eq, Bool.false_eq, ge_iff_le, gt_iff_lt, Bool.not_eq_eq_eq_not, Bool.not_true, Bool.not_false, ne_eq] at hc2
          refine LW.no (by rfl) (by rfl) (by rfl) (by rfl) (by rfl) (by rfl) ?_
          refine LW.no (by rfl) (by rfl) (by rfl) (by rfl) (by rfl) (by rfl) ?_
          refine LW.yes (by rfl) (by rfl) (by rfl) (by rfl) (by rfl) ?_
          refine LW.v (r_pick) ?_
          refine LW.v (r_pick) ?_
          refine LW.nil ?_
          exact go _ _ H ⟨rfl, rfl, rfl, rfl, rfl, rfl, rfl, congrArg Value.bool (by first | rfl | (simp [hc0, hc1, hc2]; done) | (exfalso; omega)  | exact Bool.noConfusion (hc0.symm.trans hc1) | exact Bool.noConfusion (hc0.symm.trans hc2) | exact Bool.noConfusion (hc1.symm.trans hc2)), trivial⟩
        · have hr2 := hb.symm; have hc2 := hb.symm; try simp only [beq_iff_eq, bne_iff_ne, beq_eq_false_iff_ne, bne_eq_false_iff_eq, decide_eq_true_eq, decide_eq_false_iff_not, Bool.not_eq_true', Bool.not_eq_false', Bool.true_eq, Bool.false_eq, ge_iff_le, gt_iff_lt, Bool.not_eq_eq_eq_not, Bool.not_true, Bool.not_false, ne_eq] at hc2
          refine LW.yes (by rfl) (by rfl) (by rfl) (by rfl) (by rfl) ?_
          refine LW.v (r_mv) ?_
          refine LW.yes (by rfl) (by rfl) (by rfl) (by rfl) (by rfl) ?_
          refine LW.v (r_bin) ?_
          refine LW.yes (by rfl) (by rfl) (by rfl) (by rfl) (by rfl) ?_
          refine LW.v (r_pick) ?_
          refine LW.v (r_pick) ?_
          refine LW.nil ?_
          exact go _ _ H ⟨rfl, rfl, rfl, rfl, rfl, rfl, rfl, congrArg Value.bool (by first | rfl | (simp [hc0, hc1, hc2]; done) | (exfalso; omega)  | exact Bool.noConfusion (hc0.symm.trans hc1) | exact Bool.noConfusion (hc0.symm.trans hc2) | exact Bool.noConfusion (hc1.symm.trans hc2)), trivial⟩
      · have hr1 := hb.symm; have hc1 := hb.symm; try simp only [beq_iff_eq, bne_iff_ne, beq_eq_false_iff_ne, bne_eq_false_iff_eq, decide_eq_true_eq, decide_eq_false_iff_not, Bool.not_eq_true', Bool.not_eq_false', Bool.true_eq, Bool.false_eq, ge_iff_le, gt_iff_lt, Bool.not_eq_eq_eq_not, Bool.not_true, Bool.not_false, ne_eq] at hc1
        refine LW.yes (by rfl) (by rfl) (by rfl) (by rfl) (by rfl) ?_
        refine LW.v (r_mv) ?_
        refine LW.yes (by rfl) (by rfl) (by rfl) (by rfl) (by rfl) ?_
        refine LW.new (r_bsl H [.int .i64 37, .int .i64 41, .int .i64 42] [.int .i64 37, .int .i64 41, .int .i64 42] rfl rfl (hv := by simp [Value.cells])) ?_; intro gb w H
        refine LW.yes (by rfl) (by rfl) (by rfl) (by rfl) (by rfl) ?_
        refine LW.c r_c2 ((rin_lit op [37, 41, 42] H rfl (by decide)).mono ?_)
        rintro _ w ⟨rfl, H⟩
        refine ⟨_, rfl, ?_⟩
        refine LW.yes (by rfl) (by rfl) (by rfl) (by rfl) (by rfl) ?_
        refine LW.v (r_pick) ?_
        refine LW.v (r_pick) ?_
        refine LW.v (r_mv) ?_
        refine LW.gen fun b hb => ?_; cases b
        · have hr2 := hb.symm; have hc2 := hb.symm; try simp only [beq_iff_eq, bne_iff_ne, beq_eq_false_iff_ne, bne_eq_false_iff_eq, decide_eq_true_eq, decide_eq_false_iff_not, Bool.not_eq_true', Bool.not_eq_false', Bool.true_eq, Bool.false_eq, ge_iff_le, gt_iff_lt, Bool.not_eq_eq_eq_not, Bool.not_true, Bool.not_false, ne_eq] at hc2
          refine LW.yes (by rfl) (by rfl) (by rfl) (by rfl) (by rfl) ?_
          refine LW.v (r_mv) ?_
          refine LW.yes (by rfl) (by rfl) (by rfl) (by rfl) (by rfl) ?_
          refine LW.v (r_mv) ?_
          refine LW.yes (by rfl) (by rfl) (by rfl) (by rfl) (by rfl) ?_
          refine LW.v (r_bin) ?_
          refine LW.yes (by rfl) (by rfl) (by rfl) (by rfl) (by rfl) ?_
          refine LW.v (r_mv) ?_
          refine LW.gen fun b hb => ?_; cases b
          · have hr3 := hb.symm; have hc3 := hb.symm; try simp only [beq_iff_eq, bne_iff_ne, beq_eq_false_iff_ne, bne_eq_false_iff_eq, decide_eq_true_eq, decide_eq_false_iff_not, Bool.not_eq_true', Bool.not_eq_false', Bool.true_eq, Bool.false_eq, ge_iff_le, gt_iff_lt, Bool.not_eq_eq_eq_not, Bool.not_true, Bool.not_false, ne_eq] at hc3
            refine LW.no (by rfl) (by rfl) (by rfl) (by rfl) (by rfl) (by rfl) ?_
            refine LW.no (by rfl) (by rfl) (by rfl) (by rfl) (by rfl) (by rfl) ?_
            refine LW.yes (by rfl) (by rfl) (by rfl) (by rfl) (by rfl) ?_
            refine LW.v (r_pick) ?_
            refine LW.v (r_pick) ?_
            refine LW.nil ?_
            exact go _ _ H ⟨rfl, rfl, rfl, rfl, rfl, rfl, rfl, congrArg Value.bool (by first | rfl | (simp [hc0, hc1, hc2, hc3]; done) | (exfalso; omega)  | exact Bool.noConfusion (hc0.symm.trans hc1) | exact Bool.noConfusion (hc0.symm.trans hc2) | exact Bool.noConfusion (hc0.symm.trans hc3) | exact Bool.noConfusion (hc1.symm.trans hc2) | exact Bool.noConfusion (hc1.symm.trans hc3) | exact Bool.noConfusion (hc2.symm.trans hc3)), trivial⟩
          · have hr3 := hb.symm; have hc3 := hb.symm; try simp only [beq_iff_eq, bne_iff_ne, beq_eq_false_iff_ne, bne_eq_false_iff_eq, decide_eq_true_eq, decide_eq_false_iff_not, Bool.not_eq_true', Bool.not_eq_false', Bool.true_eq, Bool.false_eq, ge_iff_le, gt_iff_lt, Bool.not_eq_eq_eq_not, Bool.not_true, Bool.not_false, ne_eq] at hc3
            refine LW.yes (by rfl) (by rfl) (by rfl) (by rfl) (by rfl) ?_
            refine LW.v (r_mv) ?_
            refine LW.yes (by rfl) (by rfl) (by rfl) (by rfl) (by rfl) ?_
            refine LW.v (r_bin) ?_
            refine LW.yes (by rfl) (by rfl) (by rfl) (by rfl) (by rfl) ?_
            refine LW.v (r_pick) ?_
            refine LW.v (r_pick) ?_
            refine LW.nil ?_
            exact go _ _ H ⟨rfl, rfl, rfl, rfl, rfl, rfl, rfl, congrArg Value.bool (by first | rfl | (simp [hc0, hc1, hc2, hc3]; done) | (exfalso; omega)  | exact Bool.noConfusion (hc0.symm.trans hc1) | exact Bool.noConfusion (hc0.symm.trans hc2) | exact Bool.noConfusion (hc0.symm.trans hc3) | exact Bool.noConfusion (hc1.symm.trans hc2) | exact Bool.noConfusion (hc1.symm.trans hc3) | exact Bool.noConfusion (hc2.symm.trans hc3)), trivial⟩
        · have hr2 := hb.symm; have hc2 := hb.symm; try simp only [beq_iff_eq, bne_iff_ne, beq_eq_false_iff_ne, bne_eq_false_iff_eq, decide_eq_true_eq, decide_eq_false_iff_not, Bool.not_eq_true', Bool.not_eq_false', Bool.true_eq, Bool.false_eq, ge_iff_le, gt_iff_lt, Bool.not_eq_eq_eq_not, Bool.not_true, Bool.not_false, ne_eq] at hc2
          refine LW.no (by rfl) (by rfl) (by rfl) (by rfl) (by rfl) (by rfl) ?_
          refine LW.no (by rfl) (by rfl) (by rfl) (by rfl) (by rfl) (by rfl) ?_
          refine LW.no (by rfl) (by rfl) (by rfl) (by rfl) (by rfl) (by rfl) ?_
          refine LW.no (by rfl) (by rfl) (by rfl) (by rfl) (by rfl) (by rfl) ?_
          refine LW.nou (by rfl) (by rfl) (by rfl) (by rfl) (by rfl) ?_
          refine LW.nou (by rfl) (by rfl) (by rfl) (by rfl) (by rfl) ?_
          refine LW.no (by rfl) (by rfl) (by rfl) (by rfl) (by rfl) (by rfl) ?_
          refine LW.v (r_pick) ?_
          refine LW.nil ?_
          exact go _ _ H ⟨rfl, rfl, rfl, rfl, rfl, rfl, rfl, congrArg Value.bool (by first | rfl | (simp [hc0, hc1, hc2]; done) | (exfalso; omega)  | exact Bool.noConfusion (hc0.symm.trans hc1) | exact Bool.noConfusion (hc0.symm.trans hc2) | exact Bool.noConfusion (hc1.symm.trans hc2)), trivial⟩
    · have hr0 := hb.symm; have hc0 := hb.symm; try simp only [beq_iff_eq, bne_iff_ne, beq_eq_false_iff_ne, bne_eq_false_iff_eq, decide_eq_true_eq, decide_eq_false_iff_not, Bool.not_eq_true', Bool.not_eq_false', Bool.true_eq, Bool.false_eq, ge_iff_le, gt_iff_lt, Bool.not_eq_eq_eq_not, Bool.not_true, Bool.not_false, ne_eq] at hc0
      refine LW.yes (by rfl) (by rfl) (by rfl) (by rfl) (by rfl) ?_
      refine LW.v (r_mv) ?_
      refine LW.yes (by rfl) (by rfl) (by rfl) (by rfl) (by rfl) ?_
      refine LW.new (r_bsl H [.int .i64 27, .int .i64 35, .int .i64 32] [.int .i64 27, .int .i64 35, .int .i64 32] rfl rfl (hv := by simp [Value.cells])) ?_; intro gb w H
      refine LW.yes (by rfl) (by rfl) (by rfl) (by rfl) (by rfl) ?_
      refine LW.c r_c2 ((rin_lit op [27, 35, 32] H rfl (by decide)).mono ?_)
      rintro _ w ⟨rfl, H⟩
      refine ⟨_, rfl, ?_⟩
      refine LW.v (r_pick) ?_
      refine LW.v (r_mv) ?_
      refine LW.gen fun b hb => ?_; cases b
      · have hr1 := hb.symm; have hc1 := hb.symm; try simp only [beq_iff_eq, bne_iff_ne, beq_eq_false_iff_ne, bne_eq_false_iff_eq, decide_eq_true_eq, decide_eq_false_iff_not, Bool.not_eq_true', Bool.not_eq_false', Bool.true_eq, Bool.false_eq, ge_iff_le, gt_iff_lt, Bool.not_eq_eq_eq_not, Bool.not_true, Bool.not_false, ne_eq] at hc1
        refine LW.yes (by rfl) (by rfl) (by rfl) (by rfl) (by rfl) ?_
        refine LW.v (r_mv) ?_
        refine LW.yes (by rfl) (by rfl) (by rfl) (by rfl) (by rfl) ?_
        refine LW.v (r_bin) ?_
        refine LW.yes (by rfl) (by rfl) (by rfl) (by rfl) (by rfl) ?_
        refine LW.v (r_mv) ?_
        refine LW.gen fun b hb => ?_; cases b
        · have hr2 := hb.symm; have hc2 := hb.symm; try simp only [beq_iff_eq, bne_iff_ne, beq_eq_false_iff_ne, bne_eq_false_iff_eq, decide_eq_true_eq, decide_eq_false_iff_not, Bool.not_eq_true', Bool.not_eq_false', Bool.true_eq, Bool.false_eq, ge_iff_le, gt_iff_lt, Bool.not_eq_eq_eq_not, Bool.not_true, Bool.not_false, ne_eq] at hc2
          refine LW.no (by rfl) (by rfl) (by rfl) (by rfl) (by rfl) (by rfl) ?_
          refine LW.no (by rfl) (by rfl) (by rfl) (by rfl) (by rfl) (by rfl) ?_
          refine LW.no (by rfl) (by rfl) (by rfl) (by rfl) (by rfl) (by rfl) ?_
          refine LW.yes (by rfl) (by rfl) (by rfl) (by rfl) (by rfl) ?_
          refine LW.v (r_pick) ?_
          refine LW.v (r_pick) ?_
          refine LW.v (r_mv) ?_
          refine LW.yes (by rfl) (by rfl) (by rfl) (by rfl) (by rfl) ?_
          refine LW.v (r_mv) ?_
          refine LW.yes (by rfl) (by rfl) (by rfl) (by rfl) (by rfl) ?_
          refine LW.v (r_mv) ?_
          refine LW.yes (by rfl) (by rfl) (by rfl) (by rfl) (by rfl) ?_
          refine LW.v (r_bin) ?_
          refine LW.yes (by rfl) (by rfl) (by rfl) (by rfl) (by rfl) ?_
          refine LW.v (r_mv) ?_
          refine LW.gen fun b hb => ?_; cases b
          · have hr3 := hb.symm; have hc3 := hb.symm; try simp only [beq_iff_eq, bne_iff_ne, beq_eq_false_iff_ne, bne_eq_false_iff_eq, decide_eq_true_eq, decide_eq_false_iff_not, Bool.not_eq_true', Bool.not_eq_false', Bool.true_eq, Bool.false_eq, ge_iff_le, gt_iff_lt, Bool.not_eq_eq_eq_not, Bool.not_true, Bool.not_false, ne_eq] at hc3
            refine LW.no (by rfl) (by rfl) (by rfl) (by rfl) (by rfl) (by rfl) ?_
            refine LW.no (by rfl) (by rfl) (by rfl) (by rfl) (by rfl) (by rfl) ?_
            refine LW.yes (by rfl) (by rfl) (by rfl) (by rfl) (by rfl) ?_
            refine LW.v (r_pick) ?_
            refine LW.v (r_pick) ?_
            refine LW.nil ?_
            exact go _ _ H ⟨rfl, rfl, rfl, rfl, rfl, rfl, rfl, congrArg Value.bool (by first | rfl | (simp [hc0, hc1, hc2, hc3]; done) | (exfalso; omega)  | exact Bool.noConfusion (hc0.symm.trans hc1) | exact Bool.noConfusion (hc0.symm.trans hc2) | exact Bool.noConfusion (hc0.symm.trans hc3) | exact Bool.noConfusion (hc1.symm.trans hc2) | exact Bool.noConfusion (hc1.symm.trans hc3) | exact Bool.noConfusion (hc2.symm.trans hc3)), trivial⟩
          · have hr3 := hb.symm; have hc3 := hb.symm; try simp only [beq_iff_eq, bne_iff_ne, beq_eq_false_iff_ne, bne_eq_false_iff_eq, decide_eq_true_eq, decide_eq_false_iff_not, Bool.not_eq_true', Bool.not_eq_false', Bool.true_eq, Bool.false_eq, ge_iff_le, gt_iff_lt, Bool.not_eq_eq_eq_not, Bool.not_true, Bool.not_false, ne_eq] at hc3
            refine LW.yes (by rfl) (by rfl) (by rfl) (by rfl) (by rfl) ?_
            refine LW.v (r_mv) ?_
            refine LW.yes (by rfl) (by rfl) (by rfl) (by rfl) (by rfl) ?_
            refine LW.v (r_bin) ?_
            refine LW.yes (by rfl) (by rfl) (by rfl) (by rfl) (by rfl) ?_
            refine LW.v (r_pick) ?_
            refine LW.v (r_pick) ?_
            refine LW.nil ?_
            exact go _ _ H ⟨rfl, rfl, rfl, rfl, rfl, rfl, rfl, congrArg Value.bool (by first | rfl | (simp [hc0, hc1, hc2, hc3]; done) | (exfalso; omega)  | exact Bool.noConfusion (hc0.symm.trans hc1) | exact Bool.noConfusion (hc0.symm.trans hc2) | exact Bool.noConfusion (hc0.symm.trans hc3) | exact Bool.noConfusion (hc1.symm.trans hc2) | exact Bool.noConfusion (hc1.symm.trans hc3) | exact Bool.noConfusion (hc2.symm.trans hc3)), trivial⟩
        · have hr2 := hb.symm; have hc2 := hb.symm; try simp only [beq_iff_eq, bne_iff_ne, beq_eq_false_iff_ne, bne_eq_false_iff_eq, decide_eq_true_eq, decide_eq_false_iff_not, Bool.not_eq_true', Bool.not_eq_false', Bool.true_eq, Bool.false_eq, ge_iff_le, gt_iff_lt, Bool.not_eq_eq_eq_not, Bool.not_true, Bool.not_false, ne_eq] at hc2
          refine LW.yes (by rfl) (by rfl) (by rfl) (by rfl) (by rfl) ?_
          refine LW.v (r_mv) ?_
          refine LW.yes (by rfl) (by rfl) (by rfl) (by rfl) (by rfl) ?_
          refine LW.new (r_bsl H [.int .i64 37, .int .i64 41, .int .i64 42] [.int .i64 37, .int .i64 41, .int .i64 42] rfl rfl (hv := by simp [Value.cells])) ?_; intro gb w H
          refine LW.yes (by rfl) (by rfl) (by rfl) (by rfl) (by rfl) ?_
          refine LW.c r_c2 ((rin_lit op [37, 41, 42] H rfl (by decide)).mono ?_)
          rintro _ w ⟨rfl, H⟩
          refine ⟨_, rfl, ?_⟩
          refine LW.yes (by rfl) (by rfl) (by rfl) (by rfl) (by rfl) ?_
          refine LW.v (r_pick) ?_
          refine LW.v (r_pick) ?_
          refine LW.v (r_mv) ?_
          refine LW.gen fun b hb => ?_; cases b
          · have hr3 := hb.symm; have hc3 := hb.symm; try simp only [beq_iff_eq, bne_iff_ne, beq_eq_false_iff_ne, bne_eq_false_iff_eq, decide_eq_true_eq, decide_eq_false_iff_not, Bool.not_eq_true', Bool.not_eq_false', Bool.true_eq, Bool.false_eq, ge_iff_le, gt_iff_lt, Bool.not_eq_eq_eq_not, Bool.not_true, Bool.not_false, ne_eq] at hc3
            refine LW.yes (by rfl) (by rfl) (by rfl) (by rfl) (by rfl) ?_
            refine LW.v (r_mv) ?_
            refine LW.yes (by rfl) (by rfl) (by rfl) (by rfl) (by rfl) ?_
            refine LW.v (r_mv) ?_
            refine LW.yes (by rfl) (by rfl) (by rfl) (by rfl) (by rfl) ?_
            refine LW.v (r_bin) ?_
            refine LW.yes (by rfl) (by rfl) (by rfl) (by rfl) (by rfl) ?_
            refine LW.v (r_mv) ?_
            refine LW.gen fun b hb => ?_; cases b
            · have hr4 := hb.symm; have hc4 := hb.symm; try simp only [beq_iff_eq, bne_iff_ne, beq_eq_false_iff_ne, bne_eq_false_iff_eq, decide_eq_true_eq, decide_eq_false_iff_not, Bool.not_eq_true', Bool.not_eq_false', Bool.true_eq, Bool.false_eq, ge_iff_le, gt_iff_lt, Bool.not_eq_eq_eq_not, Bool.not_true, Bool.not_false, ne_eq] at hc4
              refine LW.no (by rfl) (by rfl) (by rfl) (by rfl) (by rfl) (by rfl) ?_
              refine LW.no (by rfl) (by rfl) (by rfl) (by rfl) (by rfl) (by rfl) ?_
              refine LW.yes (by rfl) (by rfl) (by rfl) (by rfl) (by rfl) ?_
              refine LW.v (r_pick) ?_
              refine LW.v (r_pick) ?_
              refine LW.nil ?_
              exact go _ _ H ⟨rfl, rfl, rfl, rfl, rfl, rfl, rfl, congrArg Value.bool (by first | rfl | (simp [hc0, hc1, hc2, hc3, hc4]; done) | (exfalso; omega)  | exact Bool.noConfusion (hc0.symm.trans hc1) | exact Bool.noConfusion (hc0.symm.trans hc2) | exact Bool.noConfusion (hc0.symm.trans hc3) | exact Bool.noConfusion (hc0.symm.trans hc4) | exact Bool.noConfusion (hc1.symm.trans hc2) | exact Bool.noConfusion (hc1.symm.trans hc3) | exact Bool.noConfusion (hc1.symm.trans hc4) | exact Bool.noConfusion (hc2.symm.trans hc3) | exact Bool.noConfusion (hc2.symm.trans hc4) | exact Bool.noConfusion (hc3.symm.trans hc4)), trivial⟩
            · have hr4 := hb.symm; have hc4 := hb.symm; try simp only [beq_iff_eq, bne_iff_ne, beq_eq_false_iff_ne, bne_eq_false_iff_eq, decide_eq_true_eq, decide_eq_false_iff_not, Bool.not_eq_true', Bool.not_eq_false', Bool.true_eq, Bool.false_eq, ge_iff_le, gt_iff_lt, Bool.not_eq_eq_eq_not, Bool.not_true, Bool.not_false, ne_eq] at hc4
              refine LW.yes (by rfl) (by rfl) (by rfl) (by rfl) (by rfl) ?_
              refine LW.v (r_mv) ?_
              refine LW.yes (by rfl) (by rfl) (by rfl) (by rfl) (by rfl) ?_
              refine LW.v (r_bin) ?_
              refine LW.yes (by rfl) (by rfl) (by rfl) (by rfl) (by rfl) ?_
              refine LW.v (r_pick) ?_
              refine LW.v (r_pick) ?_
              refine LW.nil ?_
              exact go _ _ H ⟨rfl, rfl, rfl, rfl, rfl, rfl, rfl, congrArg Value.bool (by first | rfl | (simp [hc0, hc1, hc2, hc3, hc4]; done) | (exfalso; omega)  | exact Bool.noConfusion (hc0.symm.trans hc1) | exact Bool.noConfusion (hc0.symm.trans hc2) | exact Bool.noConfusion (hc0.symm.trans hc3) | exact Bool.noConfusion (hc0.symm.trans hc4) | exact Bool.noConfusion (hc1.symm.trans hc2) | exact Bool.noConfusion (hc1.symm.trans hc3) | exact Bool.noConfusion (hc1.symm.trans hc4) | exact Bool.noConfusion (hc2.symm.trans hc3) | exact Bool.noConfusion (hc2.symm.trans hc4) | exact Bool.noConfusion (hc3.symm.trans hc4)), trivial⟩
          · have hr3 := hb.symm; have hc3 := hb.symm; try simp only [beq_iff_eq, bne_iff_ne, beq_eq_false_iff_ne, bne_eq_false_iff_eq, decide_eq_true_eq, decide_eq_false_iff_not, Bool.not_eq_true', Bool.not_eq_false', Bool.true_eq, Bool.false_eq, ge_iff_le, gt_iff_lt, Bool.not_eq_eq_eq_not, Bool.not_true, Bool.not_false, ne_eq] at hc3
            refine LW.no (by rfl) (by rfl) (by rfl) (by rfl) (by rfl) (by rfl) ?_
            refine LW.no (by rfl) (by rfl) (by rfl) (by rfl) (by rfl) (by rfl) ?_
            refine LW.no (by rfl) (by rfl) (by rfl) (by rfl) (by rfl) (by rfl) ?_
            refine LW.no (by rfl) (by rfl) (by rfl) (by rfl) (by rfl) (by rfl) ?_
            refine LW.nou (by rfl) (by rfl) (by rfl) (by rfl) (by rfl) ?_
            refine LW.nou (by rfl) (by rfl) (by rfl) (by rfl) (by rfl) ?_
            refine LW.no (by rfl) (by rfl) (by rfl) (by rfl) (by rfl) (by rfl) ?_
            refine LW.v (r_pick) ?_
            refine LW.nil ?_
            exact go _ _ H ⟨rfl, rfl, rfl, rfl, rfl, rfl, rfl, congrArg Value.bool (by first | rfl | (simp [hc0, hc1, hc2, hc3]; done) | (exfalso; omega)  | exact Bool.noConfusion (hc0.symm.trans hc1) | exact Bool.noConfusion (hc0.symm.trans hc2) | exact Bool.noConfusion (hc0.symm.trans hc3) | exact Bool.noConfusion (hc1.symm.trans hc2) | exact Bool.noConfusion (hc1.symm.trans hc3) | exact Bool.noConfusion (hc2.symm.trans hc3)), trivial⟩
      · have hr1 := hb.symm; have hc1 := hb.symm; try simp only [beq_iff_eq, bne_iff_ne, beq_eq_false_iff_ne, bne_eq_false_iff_eq, decide_eq_true_eq, decide_eq_false_iff_not, Bool.not_eq_true', Bool.not_eq_false', Bool.true_eq, Bool.false_eq, ge_iff_le, gt_iff_lt, Bool.not_eq_eq_eq_not, Bool.not_true, Bool.not_false, ne_eq] at hc1
        refine LW.no (by rfl) (by rfl) (by rfl) (by rfl) (by rfl) (by rfl) ?_
        refine LW.no (by rfl) (by rfl) (by rfl) (by rfl) (by rfl) (by rfl) ?_
        refine LW.no (by rfl) (by rfl) (by rfl) (by rfl) (by rfl) (by rfl) ?_
        refine LW.nou (by rfl) (by rfl) (by rfl) (by rfl) (by rfl) ?_
        refine LW.nou (by rfl) (by rfl) (by rfl) (by rfl) (by rfl) ?_
        refine LW.nou (by rfl) (by rfl) (by rfl) (by rfl) (by rfl) ?_
        refine LW.no (by rfl) (by rfl) (by rfl) (by rfl) (by rfl) (by rfl) ?_
        refine LW.v (r_pick) ?_
        refine LW.v (r_mv) ?_
        refine LW.no (by rfl) (by rfl) (by rfl) (by rfl) (by rfl) (by rfl) ?_
        refine LW.no (by rfl) (by rfl) (by rfl) (by rfl) (by rfl) (by rfl) ?_
        refine LW.no (by rfl) (by rfl) (by rfl) (by rfl) (by rfl) (by rfl) ?_
        refine LW.no (by rfl) (by rfl) (by rfl) (by rfl) (by rfl) (by rfl) ?_
        refine LW.nou (by rfl) (by rfl) (by rfl) (by rfl) (by rfl) ?_
        refine LW.nou (by rfl) (by rfl) (by rfl) (by rfl) (by rfl) ?_
        refine LW.no (by rfl) (by rfl) (by rfl) (by rfl) (by rfl) (by rfl) ?_
        refine LW.v (r_pick) ?_
        refine LW.nil ?_
        exact go _ _ H ⟨rfl, rfl, rfl, rfl, rfl, rfl, rfl, congrArg Value.bool (by first | rfl | (simp [hc0, hc1]; done) | (exfalso; omega)  | exact Bool.noConfusion (hc0.symm.trans hc1)), trivial⟩
  refine TW.c rfl (fun hb => ?_) (fun hb => ?_)
  · have hr0 := hb; have hc0 := hb; try simp only [beq_iff_eq, bne_iff_ne, beq_eq_false_iff_ne, bne_eq_false_iff_eq, decide_eq_true_eq, decide_eq_false_iff_not, Bool.not_eq_true', Bool.not_eq_false', Bool.true_eq, Bool.false_eq, ge_iff_le, gt_iff_lt, Bool.not_eq_eq_eq_not, Bool.not_true, Bool.not_false, ne_eq] at hc0
    refine TW.seq ?_
    have hs : rplain op a b v = .ret a := by
      unfold rplain
      rw [if_pos hr0]
    rw [hs] at hr ⊢
    refine TW.region ?_
    refine LW.v (r_mv) ?_
    refine LW.v (r_as) ?_
    refine LW.v (r_as) ?_
    refine LW.nil ?_
    refine TW.ret (ret2 (by rfl) rT rT ?_)
    obtain rfl : (a, D) = r := Option.some.inj (hr rfl)
    exact ⟨rfl, c, hc, by first | exact H | exact H.drop⟩
  · have hr0 := hb; have hc0 := hb; try simp only [beq_iff_eq, bne_iff_ne, beq_eq_false_iff_ne, bne_eq_false_iff_eq, decide_eq_true_eq, decide_eq_false_iff_not, Bool.not_eq_true', Bool.not_eq_false', Bool.true_eq, Bool.false_eq, ge_iff_le, gt_iff_lt, Bool.not_eq_eq_eq_not, Bool.not_true, Bool.not_false, ne_eq] at hc0
    refine TW.skip <| TW.seq <| TW.seq ?_
    refine TW.join1 H [(0, .pointer (some ⟨q, 0, none⟩)), (1, .int .i64 op), (2, .int .i64 a), (3, .int .i64 b), (10, .int .u32 v), (11, .int .u32 4294967295), (12, .bool (among op [29, 33, 34])), (66, .bool ((decide (v = 0) && among op [36, 37, 31]) || (decide (v = 1) && among op [43, 44])))] (fun go => ?_) (fun f w H => ?_)
    · refine TW.region ?_
      refine LW.v (r_mv) ?_
      refine LW.v (r_bin) ?_
      refine LW.v (r_mv) ?_
      refine LW.gen fun b hb => ?_; cases b
      · have hr1 := hb.symm; have hc1 := hb.symm; try simp only [beq_iff_eq, bne_iff_ne, beq_eq_false_iff_ne, bne_eq_false_iff_eq, decide_eq_true_eq, decide_eq_false_iff_not, Bool.not_eq_true', Bool.not_eq_false', Bool.true_eq, Bool.false_eq, ge_iff_le, gt_iff_lt, Bool.not_eq_eq_eq_not, Bool.not_true, Bool.not_false, ne_eq] at hc1
        refine LW.no (by rfl) (by rfl) (by rfl) (by rfl) (by rfl) (by rfl) ?_
        refine LW.no (by rfl) (by rfl) (by rfl) (by rfl) (by rfl) (by rfl) ?_
        refine LW.no (by rfl) (by rfl) (by rfl) (by rfl) (by rfl) (by rfl) ?_
        refine LW.v (r_pick) ?_
        refine LW.v (r_mv) ?_
        refine LW.yes (by rfl) (by rfl) (by rfl) (by rfl) (by rfl) ?_
        refine LW.v (r_mv) ?_
        refine LW.yes (by rfl) (by rfl) (by rfl) (by rfl) (by rfl) ?_
        refine LW.v (r_bin) ?_
        refine LW.yes (by rfl) (by rfl) (by rfl) (by rfl) (by rfl) ?_
        refine LW.v (r_mv) ?_
        refine LW.gen fun b hb => ?_; cases b
        · have hr2 := hb.symm; have hc2 := hb.symm; try simp only [beq_iff_eq, bne_iff_ne, beq_eq_false_iff_ne, bne_eq_false_iff_eq, decide_eq_true_eq, decide_eq_false_iff_not, Bool.not_eq_true', Bool.not_eq_false', Bool.true_eq, Bool.false_eq, ge_iff_le, gt_iff_lt, Bool.not_eq_eq_eq_not, Bool.not_true, Bool.not_false, ne_eq] at hc2
          refine LW.no (by rfl) (by rfl) (by rfl) (by rfl) (by rfl) (by rfl) ?_
          refine LW.no (by rfl) (by rfl) (by rfl) (by rfl) (by rfl) (by rfl) ?_
          refine LW.no (by rfl) (by rfl) (by rfl) (by rfl) (by rfl) (by rfl) ?_
          refine LW.yes (by rfl) (by rfl) (by rfl) (by rfl) (by rfl) ?_
          refine LW.v (r_pick) ?_
          refine LW.v (r_pick) ?_
          refine LW.nil ?_
          exact go _ _ H ⟨rfl, rfl, rfl, rfl, rfl, rfl, rfl, congrArg Value.bool (by first | rfl | (simp [hc0, hc1, hc2]; done) | (exfalso; omega)  | exact Bool.noConfusion (hc0.symm.trans hc1) | exact Bool.noConfusion (hc0.symm.trans hc2) | exact Bool.noConfusion (hc1.symm.trans hc2)), trivial⟩
        · have hr2 := hb.symm; have hc2 := hb.symm; try simp only [beq_iff_eq, bne_iff_ne, beq_eq_false_iff_ne, bne_eq_false_iff_eq, decide_eq_true_eq, decide_eq_false_iff_not, Bool.not_eq_true', Bool.not_eq_false', Bool.true_eq, Bool.false_eq, ge_iff_le, gt_iff_lt, Bool.not_eq_eq_eq_not, Bool.not_true, Bool.not_false, ne_eq] at hc2
          refine LW.yes (by rfl) (by rfl) (by rfl) (by rfl) (by rfl) ?_
          refine LW.v (r_mv) ?_
          refine LW.yes (by rfl) (by rfl) (by rfl) (by rfl) (by rfl) ?_
          refine LW.new (r_bsl H [.int .i64 43, .int .i64 44] [.int .i64 43, .int .i64 44] rfl rfl (hv := by simp [Value.cells])) ?_; intro gb w H
          refine LW.yes (by rfl) (by rfl) (by rfl) (by rfl) (by rfl) ?_
          refine LW.c r_c2 ((rin_lit op [43, 44] H rfl (by decide)).mono ?_)
          rintro _ w ⟨rfl, H⟩
          refine ⟨_, rfl, ?_⟩
          refine LW.yes (by rfl) (by rfl) (by rfl) (by rfl) (by rfl) ?_
          refine LW.v (r_pick) ?_
          refine LW.v (r_pick) ?_
          refine LW.nil ?_
          exact go _ _ H ⟨rfl, rfl, rfl, rfl, rfl, rfl, rfl, congrArg Value.bool (by first | rfl | (simp [hc0, hc1, hc2]; done) | (exfalso; omega)  | exact Bool.noConfusion (hc0.symm.trans hc1) | exact Bool.noConfusion (hc0.symm.trans hc2) | exact Bool.noConfusion (hc1.symm.trans hc2)), trivial⟩
      · have hr1 := hb.symm; have hc1 := hb.symm; try simp only [beq_iff_eq, bne_iff_ne, beq_eq_false_iff_ne, bne_eq_false_iff_eq, decide_eq_true_eq, decide_eq_false_iff_not, Bool.not_eq_true', Bool.not_eq_false', Bool.true_eq, Bool.false_eq, ge_iff_le, gt_iff_lt, Bool.not_eq_eq_eq_not, Bool.not_true, Bool.not_false, ne_eq] at hc1
        refine LW.yes (by rfl) (by rfl) (by rfl) (by rfl) (by rfl) ?_
        refine LW.v (r_mv) ?_
        refine LW.yes (by rfl) (by rfl) (by rfl) (by rfl) (by rfl) ?_
        refine LW.new (r_bsl H [.int .i64 36, .int .i64 37, .int .i64 31] [.int .i64 36, .int .i64 37, .int .i64 31] rfl rfl (hv := by simp [Value.cells])) ?_; intro gb w H
        refine LW.yes (by rfl) (by rfl) (by rfl) (by rfl) (by rfl) ?_
        refine LW.c r_c2 ((rin_lit op [36, 37, 31] H rfl (by decide)).mono ?_)
        rintro _ w ⟨rfl, H⟩
        refine ⟨_, rfl, ?_⟩
        refine LW.v (r_pick) ?_
        refine LW.v (r_mv) ?_
        refine LW.gen fun b hb => ?_; cases b
        · have hr2 := hb.symm; have hc2 := hb.symm; try simp only [beq_iff_eq, bne_iff_ne, beq_eq_false_iff_ne, bne_eq_false_iff_eq, decide_eq_true_eq, decide_eq_false_iff_not, Bool.not_eq_true', Bool.not_eq_false', Bool.true_eq, Bool.false_eq, ge_iff_le, gt_iff_lt, Bool.not_eq_eq_eq_not, Bool.not_true, Bool.not_false, ne_eq] at hc2
          refine LW.yes (by rfl) (by rfl) (by rfl) (by rfl) (by rfl) ?_
          refine LW.v (r_mv) ?_
          refine LW.yes (by rfl) (by rfl) (by rfl) (by rfl) (by rfl) ?_
          refine LW.v (r_bin) ?_
          refine LW.yes (by rfl) (by rfl) (by rfl) (by rfl) (by rfl) ?_
          refine LW.v (r_mv) ?_
          refine LW.gen fun b hb => ?_; cases b
          · have hr3 := hb.symm; have hc3 := hb.symm; try simp only [beq_iff_eq, bne_iff_ne, beq_eq_false_iff_ne, bne_eq_false_iff_eq, decide_eq_true_eq, decide_eq_false_iff_not, Bool.not_eq_true', Bool.not_eq_false', Bool.true_eq, Bool.false_eq, ge_iff_le, gt_iff_lt, Bool.not_eq_eq_eq_not, Bool.not_true, Bool.not_false, ne_eq] at hc3
            refine LW.no (by rfl) (by rfl) (by rfl) (by rfl) (by rfl) (by rfl) ?_
            refine LW.no (by rfl) (by rfl) (by rfl) (by rfl) (by rfl) (by rfl) ?_
            refine LW.no (by rfl) (by rfl) (by rfl) (by rfl) (by rfl) (by rfl) ?_
            refine LW.yes (by rfl) (by rfl) (by rfl) (by rfl) (by rfl) ?_
            refine LW.v (r_pick) ?_
            refine LW.v (r_pick) ?_
            refine LW.nil ?_
            exact go _ _ H ⟨rfl, rfl, rfl, rfl, rfl, rfl, rfl, congrArg Value.bool (by first | rfl | (simp [hc0, hc1, hc2, hc3]; done) | (exfalso; omega)  | exact Bool.noConfusion (hc0.symm.trans hc1) | exact Bool.noConfusion (hc0.symm.trans hc2) | exact Bool.noConfusion (hc0.symm.trans hc3) | exact Bool.noConfusion (hc1.symm.trans hc2) | exact Bool.noConfusion (hc1.symm.trans hc3) | exact Bool.noConfusion (hc2.symm.trans hc3)), trivial⟩
          · have hr3 := hb.symm; have hc3 := hb.symm; try simp only [beq_iff_eq, bne_iff_ne, beq_eq_false_iff_ne, bne_eq_false_iff_eq, decide_eq_true_eq, decide_eq_false_iff_not, Bool.not_eq_true', Bool.not_eq_false', Bool.true_eq, Bool.false_eq, ge_iff_le, gt_iff_lt, Bool.not_eq_eq_eq_not, Bool.not_true, Bool.not_false, ne_eq] at hc3
            refine LW.yes (by rfl) (by rfl) (by rfl) (by rfl) (by rfl) ?_
            refine LW.v (r_mv) ?_
            refine LW.yes (by rfl) (by rfl) (by rfl) (by rfl) (by rfl) ?_
            refine LW.new (r_bsl H [.int .i64 43, .int .i64 44] [.int .i64 43, .int .i64 44] rfl rfl (hv := by simp [Value.cells])) ?_; intro gb w H
            refine LW.yes (by rfl) (by rfl) (by rfl) (by rfl) (by rfl) ?_
            refine LW.c r_c2 ((rin_lit op [43, 44] H rfl (by decide)).mono ?_)
            rintro _ w ⟨rfl, H⟩
            refine ⟨_, rfl, ?_⟩
            refine LW.yes (by rfl) (by rfl) (by rfl) (by rfl) (by rfl) ?_
            refine LW.v (r_pick) ?_
            refine LW.v (r_pick) ?_
            refine LW.nil ?_
            exact go _ _ H ⟨rfl, rfl, rfl, rfl, rfl, rfl, rfl, congrArg Value.bool (by first | rfl | (simp [hc0, hc1, hc2, hc3]; done) | (exfalso; omega)  | exact Bool.noConfusion (hc0.symm.trans hc1) | exact Bool.noConfusion (hc0.symm.trans hc2) | exact Bool.noConfusion (hc0.symm.trans hc3) | exact Bool.noConfusion (hc1.symm.trans hc2) | exact Bool.noConfusion (hc1.symm.trans hc3) | exact Bool.noConfusion (hc2.symm.trans hc3)), trivial⟩
        · have hr2 := hb.symm; have hc2 := hb.symm; try simp only [beq_iff_eq, bne_iff_ne, beq_eq_false_iff_ne, bne_eq_false_iff_eq, decide_eq_true_eq, decide_eq_false_iff_not, Bool.not_eq_true', Bool.not_eq_false', Bool.true_eq, Bool.false_eq, ge_iff_le, gt_iff_lt, Bool.not_eq_eq_eq_not, Bool.not_true, Bool.not_false, ne_eq] at hc2
          refine LW.no (by rfl) (by rfl) (by rfl) (by rfl) (by rfl) (by rfl) ?_
          refine LW.no (by rfl) (by rfl) (by rfl) (by rfl) (by rfl) (by rfl) ?_
          refine LW.no (by rfl) (by rfl) (by rfl) (by rfl) (by rfl) (by rfl) ?_
          refine LW.nou (by rfl) (by rfl) (by rfl) (by rfl) (by rfl) ?_
          refine LW.nou (by rfl) (by rfl) (by rfl) (by rfl) (by rfl) ?_
          refine LW.nou (by rfl) (by rfl) (by rfl) (by rfl) (by rfl) ?_
          refine LW.no (by rfl) (by rfl) (by rfl) (by rfl) (by rfl) (by rfl) ?_
          refine LW.v (r_pick) ?_
          refine LW.nil ?_
          exact go _ _ H ⟨rfl, rfl, rfl, rfl, rfl, rfl, rfl, congrArg Value.bool (by first | rfl | (simp [hc0, hc1, hc2]; done) | (exfalso; omega)  | exact Bool.noConfusion (hc0.symm.trans hc1) | exact Bool.noConfusion (hc0.symm.trans hc2) | exact Bool.noConfusion (hc1.symm.trans hc2)), trivial⟩
    refine TW.c rfl (fun hb => ?_) (fun hb => ?_)
    · have hr1 := hb; have hc1 := hb; try simp only [beq_iff_eq, bne_iff_ne, beq_eq_false_iff_ne, bne_eq_false_iff_eq, decide_eq_true_eq, decide_eq_false_iff_not, Bool.not_eq_true', Bool.not_eq_false', Bool.true_eq, Bool.false_eq, ge_iff_le, gt_iff_lt, Bool.not_eq_eq_eq_not, Bool.not_true, Bool.not_false, ne_eq] at hc1
      refine TW.seq ?_
      have hs : rplain op a b v = .const 0 := by
        unfold rplain
        rw [if_neg (by rw [hr0]; exact Bool.noConfusion), if_pos hr1]
      rw [hs] at hr ⊢
      refine TW.region ?_
      refine LW.v (r_mv) ?_
      refine LW.c r_c2 ((rconst_at q D _ hc (by omega) H).mono ?_)
      rintro _ w ⟨rfl, c', hc', H⟩
      refine ⟨_, rfl, ?_⟩
      refine LW.v (r_as) ?_
      refine LW.v (r_as) ?_
      refine LW.nil ?_
      refine TW.ret (ret2 (by rfl) rT rT ?_)
      obtain rfl : addT D (K (0)) = r := Option.some.inj (hr rfl)
      exact ⟨rfl, c', hc', by first | exact H | exact H.drop⟩
    · have hr1 := hb; have hc1 := hb; try simp only [beq_iff_eq, bne_iff_ne, beq_eq_false_iff_ne, bne_eq_false_iff_eq, decide_eq_true_eq, decide_eq_false_iff_not, Bool.not_eq_true', Bool.not_eq_false', Bool.true_eq, Bool.false_eq, ge_iff_le, gt_iff_lt, Bool.not_eq_eq_eq_not, Bool.not_true, Bool.not_false, ne_eq] at hc1
      refine TW.skip <| TW.seq <| TW.seq ?_
      refine TW.join1 H [(0, .pointer (some ⟨q, 0, none⟩)), (1, .int .i64 op), (2, .int .i64 a), (3, .int .i64 b), (10, .int .u32 v), (11, .int .u32 4294967295), (12, .bool (among op [29, 33, 34])), (75, .bool (decide (v = 4294967295) && decide (op = 35)))] (fun go => ?_) (fun f w H => ?_)
      · refine TW.region ?_
        refine LW.v (r_mv) ?_
        refine LW.v (r_mv) ?_
        refine LW.v (r_bin) ?_
        refine LW.v (r_mv) ?_
        refine LW.gen fun b hb => ?_; cases b
        · have hr2 := hb.symm; have hc2 := hb.symm; try simp only [beq_iff_eq, bne_iff_ne, beq_eq_false_iff_ne, bne_eq_false_iff_eq, decide_eq_true_eq, decide_eq_false_iff_not, Bool.not_eq_true', Bool.not_eq_false', Bool.true_eq, Bool.false_eq, ge_iff_le, gt_iff_lt, Bool.not_eq_eq_eq_not, Bool.not_true, Bool.not_false, ne_eq] at hc2
          refine LW.no (by rfl) (by rfl) (by rfl) (by rfl) (by rfl) (by rfl) ?_
          refine LW.no (by rfl) (by rfl) (by rfl) (by rfl) (by rfl) (by rfl) ?_
          refine LW.v (r_pick) ?_
          refine LW.nil ?_
          exact go _ _ H ⟨rfl, rfl, rfl, rfl, rfl, rfl, rfl, congrArg Value.bool (by first | rfl | (simp [hc0, hc1, hc2]; done) | (exfalso; omega)  | exact Bool.noConfusion (hc0.symm.trans hc1) | exact Bool.noConfusion (hc0.symm.trans hc2) | exact Bool.noConfusion (hc1.symm.trans hc2)), trivial⟩
        · have hr2 := hb.symm; have hc2 := hb.symm; try simp only [beq_iff_eq, bne_iff_ne, beq_eq_false_iff_ne, bne_eq_false_iff_eq, decide_eq_true_eq, decide_eq_false_iff_not, Bool.not_eq_true', Bool.not_eq_false', Bool.true_eq, Bool.false_eq, ge_iff_le, gt_iff_lt, Bool.not_eq_eq_eq_not, Bool.not_true, Bool.not_false, ne_eq] at hc2
          refine LW.yes (by rfl) (by rfl) (by rfl) (by rfl) (by rfl) ?_
          refine LW.v (r_mv) ?_
          refine LW.yes (by rfl) (by rfl) (by rfl) (by rfl) (by rfl) ?_
          refine LW.v (r_bin) ?_
          refine LW.v (r_pick) ?_
          refine LW.nil ?_
          exact go _ _ H ⟨rfl, rfl, rfl, rfl, rfl, rfl, rfl, congrArg Value.bool (by first | rfl | (simp [hc0, hc1, hc2]; done) | (exfalso; omega)  | exact Bool.noConfusion (hc0.symm.trans hc1) | exact Bool.noConfusion (hc0.symm.trans hc2) | exact Bool.noConfusion (hc1.symm.trans hc2)), trivial⟩
      refine TW.c rfl (fun hb => ?_) (fun hb => ?_)
      · have hr2 := hb; have hc2 := hb; try simp only [beq_iff_eq, bne_iff_ne, beq_eq_false_iff_ne, bne_eq_false_iff_eq, decide_eq_true_eq, decide_eq_false_iff_not, Bool.not_eq_true', Bool.not_eq_false', Bool.true_eq, Bool.false_eq, ge_iff_le, gt_iff_lt, Bool.not_eq_eq_eq_not, Bool.not_true, Bool.not_false, ne_eq] at hc2
        refine TW.seq ?_
        have hs : rplain op a b v = .ret b := by
          unfold rplain
          rw [if_neg (by rw [hr0]; exact Bool.noConfusion), if_neg (by rw [hr1]; exact Bool.noConfusion), if_pos hr2]
        rw [hs] at hr ⊢
        refine TW.region ?_
        refine LW.v (r_mv) ?_
        refine LW.v (r_as) ?_
        refine LW.v (r_as) ?_
        refine LW.nil ?_
        refine TW.ret (ret2 (by rfl) rT rT ?_)
        obtain rfl : (b, D) = r := Option.some.inj (hr rfl)
        exact ⟨rfl, c, hc, by first | exact H | exact H.drop⟩
      · have hr2 := hb; have hc2 := hb; try simp only [beq_iff_eq, bne_iff_ne, beq_eq_false_iff_ne, bne_eq_false_iff_eq, decide_eq_true_eq, decide_eq_false_iff_not, Bool.not_eq_true', Bool.not_eq_false', Bool.true_eq, Bool.false_eq, ge_iff_le, gt_iff_lt, Bool.not_eq_eq_eq_not, Bool.not_true, Bool.not_false, ne_eq] at hc2
        refine TW.skip <| TW.seq <| TW.seq ?_
        refine TW.join1 H [(0, .pointer (some ⟨q, 0, none⟩)), (1, .int .i64 op), (2, .int .i64 a), (3, .int .i64 b), (10, .int .u32 v), (11, .int .u32 4294967295), (12, .bool (among op [29, 33, 34])), (82, .bool (among op [29, 33, 34] && decide (v.tmod 32 = 0)))] (fun go => ?_) (fun f w H => ?_)
        · refine TW.region ?_
          refine LW.v (r_mv) ?_
          refine LW.v (r_mv) ?_
          refine LW.gen fun b hb => ?_; cases b
          · have hr3 := hb.symm; have hc3 := hb.symm; try simp only [beq_iff_eq, bne_iff_ne, beq_eq_false_iff_ne, bne_eq_false_iff_eq, decide_eq_true_eq, decide_eq_false_iff_not, Bool.not_eq_true', Bool.not_eq_false', Bool.true_eq, Bool.false_eq, ge_iff_le, gt_iff_lt, Bool.not_eq_eq_eq_not, Bool.not_true, Bool.not_false, ne_eq] at hc3
            refine LW.no (by rfl) (by rfl) (by rfl) (by rfl) (by rfl) (by rfl) ?_
            refine LW.no (by rfl) (by rfl) (by rfl) (by rfl) (by rfl) (by rfl) ?_
            refine LW.no (by rfl) (by rfl) (by rfl) (by rfl) (by rfl) (by rfl) ?_
            refine LW.v (r_pick) ?_
            refine LW.nil ?_
            exact go _ _ H ⟨rfl, rfl, rfl, rfl, rfl, rfl, rfl, congrArg Value.bool (by first | rfl | (simp [hc0, hc1, hc2, hc3]; done) | (exfalso; omega)  | exact Bool.noConfusion (hc0.symm.trans hc1) | exact Bool.noConfusion (hc0.symm.trans hc2) | exact Bool.noConfusion (hc0.symm.trans hc3) | exact Bool.noConfusion (hc1.symm.trans hc2) | exact Bool.noConfusion (hc1.symm.trans hc3) | exact Bool.noConfusion (hc2.symm.trans hc3)), trivial⟩
          · have hr3 := hb.symm; have hc3 := hb.symm; try simp only [beq_iff_eq, bne_iff_ne, beq_eq_false_iff_ne, bne_eq_false_iff_eq, decide_eq_true_eq, decide_eq_false_iff_not, Bool.not_eq_true', Bool.not_eq_false', Bool.true_eq, Bool.false_eq, ge_iff_le, gt_iff_lt, Bool.not_eq_eq_eq_not, Bool.not_true, Bool.not_false, ne_eq] at hc3
            refine LW.yes (by rfl) (by rfl) (by rfl) (by rfl) (by rfl) ?_
            refine LW.v (r_mv) ?_
            refine LW.yes (by rfl) (by rfl) (by rfl) (by rfl) (by rfl) ?_
            refine LW.v (r_rem (hb := by omega)) ?_
            refine LW.yes (by rfl) (by rfl) (by rfl) (by rfl) (by rfl) ?_
            refine LW.v (r_bin) ?_
            refine LW.v (r_pick) ?_
            refine LW.nil ?_
            exact go _ _ H ⟨rfl, rfl, rfl, rfl, rfl, rfl, rfl, congrArg Value.bool (by first | rfl | (simp [hc0, hc1, hc2, hc3]; done) | (exfalso; omega)  | exact Bool.noConfusion (hc0.symm.trans hc1) | exact Bool.noConfusion (hc0.symm.trans hc2) | exact Bool.noConfusion (hc0.symm.trans hc3) | exact Bool.noConfusion (hc1.symm.trans hc2) | exact Bool.noConfusion (hc1.symm.trans hc3) | exact Bool.noConfusion (hc2.symm.trans hc3)), trivial⟩
        refine TW.c rfl (fun hb => ?_) (fun hb => ?_)
        · have hr3 := hb; have hc3 := hb; try simp only [beq_iff_eq, bne_iff_ne, beq_eq_false_iff_ne, bne_eq_false_iff_eq, decide_eq_true_eq, decide_eq_false_iff_not, Bool.not_eq_true', Bool.not_eq_false', Bool.true_eq, Bool.false_eq, ge_iff_le, gt_iff_lt, Bool.not_eq_eq_eq_not, Bool.not_true, Bool.not_false, ne_eq] at hc3
          refine TW.seq ?_
          have hs : rplain op a b v = .ret a := by
            unfold rplain
            rw [if_neg (by rw [hr0]; exact Bool.noConfusion), if_neg (by rw [hr1]; exact Bool.noConfusion), if_neg (by rw [hr2]; exact Bool.noConfusion), if_pos hr3]
          rw [hs] at hr ⊢
          refine TW.region ?_
          refine LW.v (r_mv) ?_
          refine LW.v (r_as) ?_
          refine LW.v (r_as) ?_
          refine LW.nil ?_
          refine TW.ret (ret2 (by rfl) rT rT ?_)
          obtain rfl : (a, D) = r := Option.some.inj (hr rfl)
          exact ⟨rfl, c, hc, by first | exact H | exact H.drop⟩
        · have hr3 := hb; have hc3 := hb; try simp only [beq_iff_eq, bne_iff_ne, beq_eq_false_iff_ne, bne_eq_false_iff_eq, decide_eq_true_eq, decide_eq_false_iff_not, Bool.not_eq_true', Bool.not_eq_false', Bool.true_eq, Bool.false_eq, ge_iff_le, gt_iff_lt, Bool.not_eq_eq_eq_not, Bool.not_true, Bool.not_false, ne_eq] at hc3
          refine TW.skip <| TW.seq <| TW.seq ?_
          refine TW.join1 H [(0, .pointer (some ⟨q, 0, none⟩)), (1, .int .i64 op), (2, .int .i64 a), (3, .int .i64 b), (10, .int .u32 v), (11, .int .u32 4294967295), (12, .bool (among op [29, 33, 34])), (88, .bool (among op [29, 33, 34] && decide (31 < v)))] (fun go => ?_) (fun f w H => ?_)
          · refine TW.region ?_
            refine LW.v (r_mv) ?_
            refine LW.v (r_mv) ?_
            refine LW.gen fun b hb => ?_; cases b
            · have hr4 := hb.symm; have hc4 := hb.symm; try simp only [beq_iff_eq, bne_iff_ne, beq_eq_false_iff_ne, bne_eq_false_iff_eq, decide_eq_true_eq, decide_eq_false_iff_not, Bool.not_eq_true', Bool.not_eq_false', Bool.true_eq, Bool.false_eq, ge_iff_le, gt_iff_lt, Bool.not_eq_eq_eq_not, Bool.not_true, Bool.not_false, ne_eq] at hc4
              refine LW.no (by rfl) (by rfl) (by rfl) (by rfl) (by rfl) (by rfl) ?_
              refine LW.no (by rfl) (by rfl) (by rfl) (by rfl) (by rfl) (by rfl) ?_
              refine LW.v (r_pick) ?_
              refine LW.nil ?_
              exact go _ _ H ⟨rfl, rfl, rfl, rfl, rfl, rfl, rfl, congrArg Value.bool (by first | rfl | (simp [hc0, hc1, hc2, hc3, hc4]; done) | (exfalso; omega)  | exact Bool.noConfusion (hc0.symm.trans hc1) | exact Bool.noConfusion (hc0.symm.trans hc2) | exact Bool.noConfusion (hc0.symm.trans hc3) | exact Bool.noConfusion (hc0.symm.trans hc4) | exact Bool.noConfusion (hc1.symm.trans hc2) | exact Bool.noConfusion (hc1.symm.trans hc3) | exact Bool.noConfusion (hc1.symm.trans hc4) | exact Bool.noConfusion (hc2.symm.trans hc3) | exact Bool.noConfusion (hc2.symm.trans hc4) | exact Bool.noConfusion (hc3.symm.trans hc4)), trivial⟩
            · have hr4 := hb.symm; have hc4 := hb.symm; try simp only [beq_iff_eq, bne_iff_ne, beq_eq_false_iff_ne, bne_eq_false_iff_eq, decide_eq_true_eq, decide_eq_false_iff_not, Bool.not_eq_true', Bool.not_eq_false', Bool.true_eq, Bool.false_eq, ge_iff_le, gt_iff_lt, Bool.not_eq_eq_eq_not, Bool.not_true, Bool.not_false, ne_eq] at hc4
              refine LW.yes (by rfl) (by rfl) (by rfl) (by rfl) (by rfl) ?_
              refine LW.v (r_mv) ?_
              refine LW.yes (by rfl) (by rfl) (by rfl) (by rfl) (by rfl) ?_
              refine LW.v (r_bin) ?_
              refine LW.v (r_pick) ?_
              refine LW.nil ?_
              exact go _ _ H ⟨rfl, rfl, rfl, rfl, rfl, rfl, rfl, congrArg Value.bool (by first | rfl | (simp [hc0, hc1, hc2, hc3, hc4]; done) | (exfalso; omega)  | exact Bool.noConfusion (hc0.symm.trans hc1) | exact Bool.noConfusion (hc0.symm.trans hc2) | exact Bool.noConfusion (hc0.symm.trans hc3) | exact Bool.noConfusion (hc0.symm.trans hc4) | exact Bool.noConfusion (hc1.symm.trans hc2) | exact Bool.noConfusion (hc1.symm.trans hc3) | exact Bool.noConfusion (hc1.symm.trans hc4) | exact Bool.noConfusion (hc2.symm.trans hc3) | exact Bool.noConfusion (hc2.symm.trans hc4) | exact Bool.noConfusion (hc3.symm.trans hc4)), trivial⟩
          refine TW.c rfl (fun hb => ?_) (fun hb => ?_)
          · have hr4 := hb; have hc4 := hb; try simp only [beq_iff_eq, bne_iff_ne, beq_eq_false_iff_ne, bne_eq_false_iff_eq, decide_eq_true_eq, decide_eq_false_iff_not, Bool.not_eq_true', Bool.not_eq_false', Bool.true_eq, Bool.false_eq, ge_iff_le, gt_iff_lt, Bool.not_eq_eq_eq_not, Bool.not_true, Bool.not_false, ne_eq] at hc4
            refine TW.seq ?_
            have hs : rplain op a b v = .goes op a (v.tmod 32) := by
              unfold rplain
              rw [if_neg (by rw [hr0]; exact Bool.noConfusion), if_neg (by rw [hr1]; exact Bool.noConfusion), if_neg (by rw [hr2]; exact Bool.noConfusion), if_neg (by rw [hr3]; exact Bool.noConfusion), if_pos hr4]
            rw [hs] at hr ⊢
            refine TW.region ?_
            refine LW.v (r_mv) ?_
            refine LW.v (r_mv) ?_
            refine LW.v (r_mv) ?_
            refine LW.v (r_mv) ?_
            refine LW.v (r_rem (hb := by decide)) ?_
            refine LW.c r_c4 ((rgoes_spec h hc hD hg ha ho hlen (tmod_rng hv) (hr rfl) H).mono ?_)
            rintro _ w ⟨rfl, c2, hc2, H⟩
            refine ⟨_, rfl, ?_⟩
            refine LW.v (r_ext) ?_
            refine LW.v (r_ext) ?_
            refine LW.v (r_as) ?_
            refine LW.v (r_as) ?_
            refine LW.nil ?_
            refine TW.ret (ret2 (by rfl) rT rT ?_)
            exact ⟨rfl, c2, hc2, by first | exact H | exact H.drop⟩
          · have hr4 := hb; have hc4 := hb; try simp only [beq_iff_eq, bne_iff_ne, beq_eq_false_iff_ne, bne_eq_false_iff_eq, decide_eq_true_eq, decide_eq_false_iff_not, Bool.not_eq_true', Bool.not_eq_false', Bool.true_eq, Bool.false_eq, ge_iff_le, gt_iff_lt, Bool.not_eq_eq_eq_not, Bool.not_true, Bool.not_false, ne_eq] at hc4
            refine TW.skip <| TW.seq ?_
            refine TW.region ?_
            refine LW.v (r_mv) ?_
            refine LW.c r_c1 ((rlog_spec _ _ _ _ v H).mono ?_)
            rintro _ w ⟨rfl, H⟩
            refine ⟨_, rfl, ?_⟩
            refine LW.v (r_as) ?_
            refine LW.nil ?_
            refine TW.seq <| TW.seq ?_
            refine TW.region ?_
            refine LW.v (r_mv) ?_
            refine LW.v (r_bin) ?_
            refine LW.nil ?_
            refine TW.c rfl (fun hb => ?_) (fun hb => ?_)
            · have hr5 := hb; have hc5 := hb; try simp only [beq_iff_eq, bne_iff_ne, beq_eq_false_iff_ne, bne_eq_false_iff_eq, decide_eq_true_eq, decide_eq_false_iff_not, Bool.not_eq_true', Bool.not_eq_false', Bool.true_eq, Bool.false_eq, ge_iff_le, gt_iff_lt, Bool.not_eq_eq_eq_not, Bool.not_true, Bool.not_false, ne_eq] at hc5
              refine TW.seq ?_
              have hs : rplain op a b v = .no := by
                unfold rplain
                rw [if_neg (by rw [hr0]; exact Bool.noConfusion), if_neg (by rw [hr1]; exact Bool.noConfusion), if_neg (by rw [hr2]; exact Bool.noConfusion), if_neg (by rw [hr3]; exact Bool.noConfusion), if_neg (by rw [hr4]; exact Bool.noConfusion), if_pos hc5]
              rw [hs] at hr ⊢
              refine TW.region ?_
              refine LW.v (r_as) ?_
              refine LW.v (r_as) ?_
              refine LW.nil ?_
              refine TW.ret (ret2 (by rfl) rT rT ?_)
              exact ⟨rfl, c, hc, by first | exact H | exact H.drop⟩
            · have hr5 := hb; have hc5 := hb; try simp only [beq_iff_eq, bne_iff_ne, beq_eq_false_iff_ne, bne_eq_false_iff_eq, decide_eq_true_eq, decide_eq_false_iff_not, Bool.not_eq_true', Bool.not_eq_false', Bool.true_eq, Bool.false_eq, ge_iff_le, gt_iff_lt, Bool.not_eq_eq_eq_not, Bool.not_true, Bool.not_false, ne_eq] at hc5
              refine TW.skip <| TW.seq <| TW.seq ?_
              refine TW.region ?_
              refine LW.v (r_mv) ?_
              refine LW.nil ?_
              refine TW.block <| TW.seq ?_
              refine TW.region ?_
              refine LW.v (r_bin) ?_
              refine LW.v (r_as) ?_
              refine LW.nil ?_
              refine TW.c rfl (fun hb => ?_) (fun hb => ?_)
              · have hr6 := hb; have hc6 := hb; try simp only [beq_iff_eq, bne_iff_ne, beq_eq_false_iff_ne, bne_eq_false_iff_eq, decide_eq_true_eq, decide_eq_false_iff_not, Bool.not_eq_true', Bool.not_eq_false', Bool.true_eq, Bool.false_eq, ge_iff_le, gt_iff_lt, Bool.not_eq_eq_eq_not, Bool.not_true, Bool.not_false, ne_eq] at hc6
                refine TW.seq ?_
                have hs : rplain op a b v = .goes 29 a (IntKind.u32.wrap (logI v)) := by
                  unfold rplain
                  rw [if_neg (by rw [hr0]; exact Bool.noConfusion), if_neg (by rw [hr1]; exact Bool.noConfusion), if_neg (by rw [hr2]; exact Bool.noConfusion), if_neg (by rw [hr3]; exact Bool.noConfusion), if_neg (by rw [hr4]; exact Bool.noConfusion), if_neg hc5, if_pos hc6]
                rw [hs] at hr ⊢
                refine TW.region ?_
                refine LW.v (r_mv) ?_
                refine LW.v (r_mv) ?_
                refine LW.v (r_mv) ?_
                refine LW.v (r_cv) ?_
                refine LW.c r_c4 ((rgoes_spec h hc hD hg ha (by decide) hlen (u32_rng _) (hr rfl) H).mono ?_)
                rintro _ w ⟨rfl, c2, hc2, H⟩
                refine ⟨_, rfl, ?_⟩
                refine LW.v (r_ext) ?_
                refine LW.v (r_ext) ?_
                refine LW.v (r_as) ?_
                refine LW.v (r_as) ?_
                refine LW.nil ?_
                refine TW.ret (ret2 (by rfl) rT rT ?_)
                exact ⟨rfl, c2, hc2, by first | exact H | exact H.drop⟩
              · have hr6 := hb; have hc6 := hb; try simp only [beq_iff_eq, bne_iff_ne, beq_eq_false_iff_ne, bne_eq_false_iff_eq, decide_eq_true_eq, decide_eq_false_iff_not, Bool.not_eq_true', Bool.not_eq_false', Bool.true_eq, Bool.false_eq, ge_iff_le, gt_iff_lt, Bool.not_eq_eq_eq_not, Bool.not_true, Bool.not_false, ne_eq] at hc6
                refine TW.seq ?_
                refine TW.region ?_
                refine LW.v (r_bin) ?_
                refine LW.v (r_as) ?_
                refine LW.nil ?_
                refine TW.c rfl (fun hb => ?_) (fun hb => ?_)
                · have hr7 := hb; have hc7 := hb; try simp only [beq_iff_eq, bne_iff_ne, beq_eq_false_iff_ne, bne_eq_false_iff_eq, decide_eq_true_eq, decide_eq_false_iff_not, Bool.not_eq_true', Bool.not_eq_false', Bool.true_eq, Bool.false_eq, ge_iff_le, gt_iff_lt, Bool.not_eq_eq_eq_not, Bool.not_true, Bool.not_false, ne_eq] at hc7
                  refine TW.seq ?_
                  have hs : rplain op a b v = .goes 33 a (IntKind.u32.wrap (logI v)) := by
                    unfold rplain
                    rw [if_neg (by rw [hr0]; exact Bool.noConfusion), if_neg (by rw [hr1]; exact Bool.noConfusion), if_neg (by rw [hr2]; exact Bool.noConfusion), if_neg (by rw [hr3]; exact Bool.noConfusion), if_neg (by rw [hr4]; exact Bool.noConfusion), if_neg hc5, if_neg hc6, if_pos hc7]
                  rw [hs] at hr ⊢
                  refine TW.region ?_
                  refine LW.v (r_mv) ?_
                  refine LW.v (r_mv) ?_
                  refine LW.v (r_mv) ?_
                  refine LW.v (r_cv) ?_
                  refine LW.c r_c4 ((rgoes_spec h hc hD hg ha (by decide) hlen (u32_rng _) (hr rfl) H).mono ?_)
                  rintro _ w ⟨rfl, c2, hc2, H⟩
                  refine ⟨_, rfl, ?_⟩
                  refine LW.v (r_ext) ?_
                  refine LW.v (r_ext) ?_
                  refine LW.v (r_as) ?_
                  refine LW.v (r_as) ?_
                  refine LW.nil ?_
                  refine TW.ret (ret2 (by rfl) rT rT ?_)
                  exact ⟨rfl, c2, hc2, by first | exact H | exact H.drop⟩
                · have hr7 := hb; have hc7 := hb; try simp only [beq_iff_eq, bne_iff_ne, beq_eq_false_iff_ne, bne_eq_false_iff_eq, decide_eq_true_eq, decide_eq_false_iff_not, Bool.not_eq_true', Bool.not_eq_false', Bool.true_eq, Bool.false_eq, ge_iff_le, gt_iff_lt, Bool.not_eq_eq_eq_not, Bool.not_true, Bool.not_false, ne_eq] at hc7
                  refine TW.seq ?_
                  refine TW.region ?_
                  refine LW.v (r_bin) ?_
                  refine LW.v (r_as) ?_
                  refine LW.nil ?_
                  refine TW.c rfl (fun hb => ?_) (fun hb => ?_)
                  · have hr8 := hb; have hc8 := hb; try simp only [beq_iff_eq, bne_iff_ne, beq_eq_false_iff_ne, bne_eq_false_iff_eq, decide_eq_true_eq, decide_eq_false_iff_not, Bool.not_eq_true', Bool.not_eq_false', Bool.true_eq, Bool.false_eq, ge_iff_le, gt_iff_lt, Bool.not_eq_eq_eq_not, Bool.not_true, Bool.not_false, ne_eq] at hc8
                    refine TW.seq ?_
                    have hs : rplain op a b v = .goes 36 a (IntKind.u32.wrap (v - 1)) := by
                      unfold rplain
                      rw [if_neg (by rw [hr0]; exact Bool.noConfusion), if_neg (by rw [hr1]; exact Bool.noConfusion), if_neg (by rw [hr2]; exact Bool.noConfusion), if_neg (by rw [hr3]; exact Bool.noConfusion), if_neg (by rw [hr4]; exact Bool.noConfusion), if_neg hc5, if_neg hc6, if_neg hc7, if_pos hc8]
                    rw [hs] at hr ⊢
                    refine TW.region ?_
                    refine LW.v (r_mv) ?_
                    refine LW.v (r_mv) ?_
                    refine LW.v (r_mv) ?_
                    refine LW.v (r_bin) ?_
                    refine LW.c r_c4 ((rgoes_spec h hc hD hg ha (by decide) hlen (u32_rng _) (hr rfl) H).mono ?_)
                    rintro _ w ⟨rfl, c2, hc2, H⟩
                    refine ⟨_, rfl, ?_⟩
                    refine LW.v (r_ext) ?_
                    refine LW.v (r_ext) ?_
                    refine LW.v (r_as) ?_
                    refine LW.v (r_as) ?_
                    refine LW.nil ?_
                    refine TW.ret (ret2 (by rfl) rT rT ?_)
                    exact ⟨rfl, c2, hc2, by first | exact H | exact H.drop⟩
                  · have hr8 := hb; have hc8 := hb; try simp only [beq_iff_eq, bne_iff_ne, beq_eq_false_iff_ne, bne_eq_false_iff_eq, decide_eq_true_eq, decide_eq_false_iff_not, Bool.not_eq_true', Bool.not_eq_false', Bool.true_eq, Bool.false_eq, ge_iff_le, gt_iff_lt, Bool.not_eq_eq_eq_not, Bool.not_true, Bool.not_false, ne_eq] at hc8
                    refine TW.skip <| TW.inBlock <| TW.seq ?_
                    have hs : rplain op a b v = .no := by
                      unfold rplain
                      rw [if_neg (by rw [hr0]; exact Bool.noConfusion), if_neg (by rw [hr1]; exact Bool.noConfusion), if_neg (by rw [hr2]; exact Bool.noConfusion), if_neg (by rw [hr3]; exact Bool.noConfusion), if_neg (by rw [hr4]; exact Bool.noConfusion), if_neg hc5, if_neg hc6, if_neg hc7, if_neg hc8]
                    rw [hs] at hr ⊢
                    refine TW.region ?_
                    refine LW.v (r_as) ?_
                    refine LW.v (r_as) ?_
                    refine LW.nil ?_
                    refine TW.ret (ret2 (by rfl) rT rT ?_)
                    exact ⟨rfl, c, hc, by first | exact H | exact H.drop⟩
theorem rdeep_spec {B : Nat} {w0 w : World} {q n : Nat} {rec : Rec} (h : RopOK B w0 q n rec) {D : List T} {c : Ck} {L : List Ck} {op a b v : Int} {r : Int × List T} (hc : RdC q D c) (hD : Wf D) (hg : Rng D) (hlen : D.length + (n + 1) < 1073741824) (ha : In D a) (hv : 0 ≤ v ∧ v < 4294967296) (ho : WhP.isOp op = true)
    (hr : (rdeep D op a v).isNo = false → exec rec D op a b (rdeep D op a v) = some r) (H : Hp B w0 w (c :: L)) :
    Calls Tryz.prog 66 #[.pointer (some ⟨q, 0, none⟩), .int .i64 op, .int .i64 a, .int .u32 v] w fun e w' => e = .returned (.tuple #[.int .i64 (outS D r (rdeep D op a v)).1, .bool (outS D r (rdeep D op a v)).2.1]) ∧ ∃ c', RdC q (outS D r (rdeep D op a v)).2.2 c' ∧ Hp B w0 w' (c' :: L) := by
  have hne : D ≠ [] := by intro e; have := ha.1; have := ha.2; subst e; simp at this; omega
  obtain ⟨sa, cap, H, hsa, back⟩ := rd_row hc H
  obtain ⟨g, rfl⟩ := hsa hne
  have ha1 := ha.1
  have ha2 := ha.2
  have hrow := rowR (g := g) (cap := cap) (m := D.length) H
  have hnd := node_at_idx ha
  have hin : (WhD.node D a).1.kind = 2 → In D (WhD.node D a).1.a ∧ In D (WhD.node D a).1.b := by
    intro hk
    rcases hD.node ha with h1 | ⟨h1, _⟩ | ⟨_, _, h1, h2, h3, h4⟩
    · omega
    · omega
    · exact ⟨⟨h1, by omega⟩, ⟨h3, by omega⟩⟩
  have hkn : (known D (WhD.node D a).1.b).2 = decide ((WhD.node D (WhD.node D a).1.b).1.kind = 0) := rfl
  have hkv : (known D (WhD.node D a).1.b).1 = (WhD.node D (WhD.node D a).1.b).1.v := rfl
  have hkr := hg.known (WhD.node D a).1.b
  generalize ht : (WhD.node D a).1 = t at *
  refine calls_go Tryz.func66 Tryz.ntmps66 rfl rfl ?_
  refine TW.seq ?_
  refine TW.region ?_
  refine LW.v (r_as) ?_
  refine LW.v (r_as) ?_
  refine LW.nil ?_
  refine TW.seq ?_
  refine TW.region ?_
  refine LW.v (r_mv) ?_
  refine LW.v (r_nil) ?_
  refine LW.v (r_fa) ?_
  refine LW.v (r_ld H) ?_
  refine LW.v (r_mv) ?_
  refine LW.v (r_iaS (h0 := ha1) (h1 := ha2)) ?_
  refine LW.v (r_ldR (i := a.toNat) (enc := T.val) hrow hnd (fun _ => rfl) (size := 5)) ?_
  refine LW.new (r_al H) ?_; intro g10 w H
  refine LW.sto (r_stW H (vs := t.cells.toArray)) ?_; intro w H
  refine LW.nil ?_
  refine TW.seq <| TW.seq ?_
  refine TW.join1 H [(0, .pointer (some ⟨q, 0, none⟩)), (1, .int .i64 op), (2, .int .i64 a), (3, .int .u32 v), (10, .pointer (some ⟨g10, 0, none⟩)), (41, .bool (!decide (t.kind = 2) || !decide (t.op = op) || !(known D t.b).2))] (fun go => ?_) (fun f w H => ?_)
  · refine TW.draw [(0, some 0), (1, some 0), (2, some 0), (3, some 0), (4, some 0), (5, some 0), (6, some 0), (7, some 0), (8, some 0), (9, some 0), (10, some 0), (11, some 0), (12, some 0), (13, some 0), (14, some 0), (15, some 0), (16, some 0), (17, some 0), (18, some 0), (19, some 0), (20, some 0)] [] hmix (by kernel_rfl) (fun _ _ _ _ _ h => h) H (fun m w => (m = 0 → Hp _ _ w _)) (fun _ h _ => h) ?_
    intro w H
    refine DW.v (by rfl) (Quiet.y (fun _ _ => r_fa)) ?_
    refine DW.hm (by rfl) (Quiet.y (fun _ h => r_ld (h rfl))) ?_
    refine DW.v (by rfl) (Quiet.y (fun _ _ => r_bin)) ?_
    refine DW.v (by rfl) (Quiet.y (fun _ _ => r_mv)) ?_
    refine DW.gen fun b hb => ?_; cases b
    · have hr0 := hb.symm; have hc0 := hb.symm; try simp only [beq_iff_eq, bne_iff_ne, beq_eq_false_iff_ne, bne_eq_false_iff_eq, decide_eq_true_eq, decide_eq_false_iff_not, Bool.not_eq_true', Bool.not_eq_false', Bool.true_eq, Bool.false_eq, ge_iff_le, gt_iff_lt, Bool.not_eq_eq_eq_not, Bool.not_true, Bool.not_false, ne_eq] at hc0
      refine DW.v (by rfl) (Quiet.gy (by rfl) (by rfl) (by rfl) (by rfl) (by rfl) (fun _ _ => r_fa)) ?_
      refine DW.hm (by rfl) (Quiet.gy (by rfl) (by rfl) (by rfl) (by rfl) (by rfl) (fun _ h => r_ld (h rfl))) ?_
      refine DW.v (by rfl) (Quiet.gy (by rfl) (by rfl) (by rfl) (by rfl) (by rfl) (fun _ _ => r_mv)) ?_
      refine DW.v (by rfl) (Quiet.gy (by rfl) (by rfl) (by rfl) (by rfl) (by rfl) (fun _ _ => r_bin)) ?_
      refine DW.v (by rfl) (Quiet.y (fun _ _ => r_pick)) ?_
      refine DW.v (by rfl) (Quiet.y (fun _ _ => r_mv)) ?_
      refine DW.gen fun b hb => ?_; cases b
      · have hr1 := hb.symm; have hc1 := hb.symm; try simp only [beq_iff_eq, bne_iff_ne, beq_eq_false_iff_ne, bne_eq_false_iff_eq, decide_eq_true_eq, decide_eq_false_iff_not, Bool.not_eq_true', Bool.not_eq_false', Bool.true_eq, Bool.false_eq, ge_iff_le, gt_iff_lt, Bool.not_eq_eq_eq_not, Bool.not_true, Bool.not_false, ne_eq] at hc1
        refine DW.v (by rfl) (Quiet.gy (by rfl) (by rfl) (by rfl) (by rfl) (by rfl) (fun _ _ => r_mv)) ?_
        refine DW.v (by rfl) (Quiet.gy (by rfl) (by rfl) (by rfl) (by rfl) (by rfl) (fun _ _ => r_nil)) ?_
        refine DW.v (by rfl) (Quiet.gy (by rfl) (by rfl) (by rfl) (by rfl) (by rfl) (fun _ _ => r_fa)) ?_
        refine DW.hm (by rfl) (Quiet.gy (by rfl) (by rfl) (by rfl) (by rfl) (by rfl) (fun _ h => r_ld (h rfl))) ?_
        refine DW.v (by rfl) (Quiet.gy (by rfl) (by rfl) (by rfl) (by rfl) (by rfl) (fun _ _ => r_fa)) ?_
        refine DW.hm (by rfl) (Quiet.gy (by rfl) (by rfl) (by rfl) (by rfl) (by rfl) (fun _ h => r_ld (h rfl))) ?_
        refine DW.v (by rfl) (Quiet.gy (by rfl) (by rfl) (by rfl) (by rfl) (by rfl) (fun _ _ => r_iaS (h0 := (hin (by assumption)).2.1) (h1 := (hin (by assumption)).2.2))) ?_
        refine DW.v (by rfl) (Quiet.gy (by rfl) (by rfl) (by rfl) (by rfl) (by rfl) (fun _ _ => r_faG)) ?_
        refine DW.hm (by rfl) (Quiet.gy (by rfl) (by rfl) (by rfl) (by rfl) (by rfl) (fun _ h => r_ldc (rowAt_cell (enc := T.val) (size := 5) (k := 0) (i := t.b.toNat) (rowR (g := g) (cap := cap) (m := D.length) (h rfl)) (node_at_idx (hin (by assumption)).2) (fun _ => rfl) rfl))) ?_
        refine DW.v (by rfl) (Quiet.gy (by rfl) (by rfl) (by rfl) (by rfl) (by rfl) (fun _ _ => r_bin)) ?_
        refine DW.v (by rfl) (Quiet.y (fun _ _ => r_pick)) ?_
        refine DW.nil (fun _ => ?_)
        exact go _ _ H ⟨rfl, rfl, rfl, rfl, rfl, congrArg Value.bool (by first | rfl | (simp [hkn, hc0, hc1]; done) | (exfalso; omega)  | exact Bool.noConfusion (hc0.symm.trans hc1)), trivial⟩
      · have hr1 := hb.symm; have hc1 := hb.symm; try simp only [beq_iff_eq, bne_iff_ne, beq_eq_false_iff_ne, bne_eq_false_iff_eq, decide_eq_true_eq, decide_eq_false_iff_not, Bool.not_eq_true', Bool.not_eq_false', Bool.true_eq, Bool.false_eq, ge_iff_le, gt_iff_lt, Bool.not_eq_eq_eq_not, Bool.not_true, Bool.not_false, ne_eq] at hc1
        refine DW.v (by rfl) (Quiet.gn (by rfl) (by rfl) (by rfl) (by rfl) (by rfl)) ?_
        refine DW.v (by rfl) (Quiet.gn (by rfl) (by rfl) (by rfl) (by rfl) (by rfl)) ?_
        refine DW.v (by rfl) (Quiet.gn (by rfl) (by rfl) (by rfl) (by rfl) (by rfl)) ?_
        refine DW.v (by rfl) (Quiet.gn (by rfl) (by rfl) (by rfl) (by rfl) (by rfl)) ?_
        refine DW.v (by rfl) (Quiet.gn (by rfl) (by rfl) (by rfl) (by rfl) (by rfl)) ?_
        refine DW.v (by rfl) (Quiet.gn (by rfl) (by rfl) (by rfl) (by rfl) (by rfl)) ?_
        refine DW.v (by rfl) (Quiet.gn (by rfl) (by rfl) (by rfl) (by rfl) (by rfl)) ?_
        refine DW.v (by rfl) (Quiet.gn (by rfl) (by rfl) (by rfl) (by rfl) (by rfl)) ?_
        refine DW.v (by rfl) (Quiet.gn (by rfl) (by rfl) (by rfl) (by rfl) (by rfl)) ?_
        refine DW.v (by rfl) (Quiet.gn (by rfl) (by rfl) (by rfl) (by rfl) (by rfl)) ?_
        refine DW.v (by rfl) (Quiet.y (fun _ _ => r_pick)) ?_
        refine DW.nil (fun _ => ?_)
        exact go _ _ H ⟨rfl, rfl, rfl, rfl, rfl, congrArg Value.bool (by first | rfl | (simp [hkn, hc0, hc1]; done) | (exfalso; omega)  | exact Bool.noConfusion (hc0.symm.trans hc1)), trivial⟩
    · have hr0 := hb.symm; have hc0 := hb.symm; try simp only [beq_iff_eq, bne_iff_ne, beq_eq_false_iff_ne, bne_eq_false_iff_eq, decide_eq_true_eq, decide_eq_false_iff_not, Bool.not_eq_true', Bool.not_eq_false', Bool.true_eq, Bool.false_eq, ge_iff_le, gt_iff_lt, Bool.not_eq_eq_eq_not, Bool.not_true, Bool.not_false, ne_eq] at hc0
      refine DW.v (by rfl) (Quiet.gn (by rfl) (by rfl) (by rfl) (by rfl) (by rfl)) ?_
      refine DW.v (by rfl) (Quiet.gn (by rfl) (by rfl) (by rfl) (by rfl) (by rfl)) ?_
      refine DW.v (by rfl) (Quiet.gn (by rfl) (by rfl) (by rfl) (by rfl) (by rfl)) ?_
      refine DW.v (by rfl) (Quiet.gn (by rfl) (by rfl) (by rfl) (by rfl) (by rfl)) ?_
      refine DW.v (by rfl) (Quiet.y (fun _ _ => r_pick)) ?_
      refine DW.v (by rfl) (Quiet.y (fun _ _ => r_mv)) ?_
      refine DW.v (by rfl) (Quiet.gn (by rfl) (by rfl) (by rfl) (by rfl) (by rfl)) ?_
      refine DW.v (by rfl) (Quiet.gn (by rfl) (by rfl) (by rfl) (by rfl) (by rfl)) ?_
      refine DW.v (by rfl) (Quiet.gn (by rfl) (by rfl) (by rfl) (by rfl) (by rfl)) ?_
      refine DW.v (by rfl) (Quiet.gn (by rfl) (by rfl) (by rfl) (by rfl) (by rfl)) ?_
      refine DW.v (by rfl) (Quiet.gn (by rfl) (by rfl) (by rfl) (by rfl) (by rfl)) ?_
      refine DW.v (by rfl) (Quiet.gn (by rfl) (by rfl) (by rfl) (by rfl) (by rfl)) ?_
      refine DW.v (by rfl) (Quiet.gn (by rfl) (by rfl) (by rfl) (by rfl) (by rfl)) ?_
      refine DW.v (by rfl) (Quiet.gn (by rfl) (by rfl) (by rfl) (by rfl) (by rfl)) ?_
      refine DW.v (by rfl) (Quiet.gn (by rfl) (by rfl) (by rfl) (by rfl) (by rfl)) ?_
      refine DW.v (by rfl) (Quiet.gn (by rfl) (by rfl) (by rfl) (by rfl) (by rfl)) ?_
      refine DW.v (by rfl) (Quiet.y (fun _ _ => r_pick)) ?_
      refine DW.nil (fun _ => ?_)
      exact go _ _ H ⟨rfl, rfl, rfl, rfl, rfl, congrArg Value.bool (by first | rfl | (simp [hkn, hc0]; done) | (exfalso; omega) ), trivial⟩
  refine TW.c rfl (fun hb => ?_) (fun hb => ?_)
  · have hr0 := hb; have hc0 := hb; try simp only [beq_iff_eq, bne_iff_ne, beq_eq_false_iff_ne, bne_eq_false_iff_eq, decide_eq_true_eq, decide_eq_false_iff_not, Bool.not_eq_true', Bool.not_eq_false', Bool.true_eq, Bool.false_eq, ge_iff_le, gt_iff_lt, Bool.not_eq_eq_eq_not, Bool.not_true, Bool.not_false, ne_eq] at hc0
    refine TW.seq ?_
    have hs : rdeep D op a v = .no := by
      unfold rdeep
      rw [ht, if_pos hr0]
    rw [hs] at hr ⊢
    refine TW.region ?_
    refine LW.v (r_as) ?_
    refine LW.v (r_as) ?_
    refine LW.nil ?_
    refine TW.ret (ret2 (by rfl) rT rT ?_)
    exact ⟨rfl, c, hc, by first | exact H.drop | exact back _ _ H.drop⟩
  · have hr0 := hb; have hc0 := hb; try simp only [beq_iff_eq, bne_iff_ne, beq_eq_false_iff_ne, bne_eq_false_iff_eq, decide_eq_true_eq, decide_eq_false_iff_not, Bool.not_eq_true', Bool.not_eq_false', Bool.true_eq, Bool.false_eq, ge_iff_le, gt_iff_lt, Bool.not_eq_eq_eq_not, Bool.not_true, Bool.not_false, ne_eq] at hc0
    refine TW.skip <| TW.seq ?_
    have hk3 : t.kind = 2 ∧ t.op = op ∧ (known D t.b).2 = true := by simpa [and_assoc] using hr0
    have hk2 := hk3.1
    obtain ⟨hIa, hIb⟩ := hin hk2
    refine TW.draw [(0, some 0), (1, some 0), (2, some 0), (3, some 0), (4, some 0), (5, some 0), (6, some 0), (7, some 0), (8, some 0), (9, some 0)] [] hmix (by kernel_rfl) (fun _ _ _ _ _ h => h) H (fun m w => (m = 0 → Hp _ _ w _)) (fun _ h _ => h) ?_
    intro w H
    refine DW.v (by rfl) (Quiet.y (fun _ _ => r_mv)) ?_
    refine DW.v (by rfl) (Quiet.y (fun _ _ => r_nil)) ?_
    refine DW.v (by rfl) (Quiet.y (fun _ _ => r_fa)) ?_
    refine DW.hm (by rfl) (Quiet.y (fun _ h => r_ld (h rfl))) ?_
    refine DW.v (by rfl) (Quiet.y (fun _ _ => r_fa)) ?_
    refine DW.hm (by rfl) (Quiet.y (fun _ h => r_ld (h rfl))) ?_
    refine DW.v (by rfl) (Quiet.y (fun _ _ => r_iaS (h0 := (hin hk2).2.1) (h1 := (hin hk2).2.2))) ?_
    refine DW.v (by rfl) (Quiet.y (fun _ _ => r_faG)) ?_
    refine DW.hm (by rfl) (Quiet.y (fun _ h => r_ldc (rowAt_cell (enc := T.val) (size := 5) (k := 1) (i := t.b.toNat) (rowR (g := g) (cap := cap) (m := D.length) (h rfl)) (node_at_idx (hin (hk2)).2) (fun _ => rfl) rfl))) ?_
    refine DW.v (by rfl) (Quiet.y (fun _ _ => r_as)) ?_
    refine DW.nil (fun _ => ?_)
    refine TW.seq <| TW.seq ?_
    have H := (back _ _ (H.perm ((List.Perm.swap _ _ _).trans (List.Perm.cons _ (List.Perm.swap _ _ _))))).swap
    refine TW.region ?_
    refine LW.v (r_mv) ?_
    refine LW.new (r_bsl H [.int .i64 27, .int .i64 36, .int .i64 35, .int .i64 32] [.int .i64 27, .int .i64 36, .int .i64 35, .int .i64 32] rfl rfl (hv := by simp [Value.cells])) ?_; intro gb w H
    refine LW.c r_c2 ((rin_lit op [27, 36, 35, 32] H rfl (by decide)).mono ?_)
    rintro _ w ⟨rfl, H⟩
    refine ⟨_, rfl, ?_⟩
    refine LW.nil ?_
    refine TW.c rfl (fun hb => ?_) (fun hb => ?_)
    · have hr1 := hb; have hc1 := hb; try simp only [beq_iff_eq, bne_iff_ne, beq_eq_false_iff_ne, bne_eq_false_iff_eq, decide_eq_true_eq, decide_eq_false_iff_not, Bool.not_eq_true', Bool.not_eq_false', Bool.true_eq, Bool.false_eq, ge_iff_le, gt_iff_lt, Bool.not_eq_eq_eq_not, Bool.not_true, Bool.not_false, ne_eq] at hc1
      refine TW.seq ?_
      refine TW.region ?_
      refine LW.v (r_mv) ?_
      refine LW.v (r_mv) ?_
      refine LW.v (r_mv) ?_
      refine LW.c r_c3 ((rdo_word _ _ _ _ op (known D t.b).1 v hkr hv H).mono ?_)
      rintro _ w ⟨rfl, H⟩
      refine ⟨_, rfl, ?_⟩
      refine LW.v (r_mv) ?_
      refine LW.v (r_ext) ?_
      refine LW.v (r_ext) ?_
      refine LW.v (r_as) ?_
      refine LW.v (r_as) ?_
      refine LW.nil ?_
      refine TW.seq ?_
      have hs : rdeep D op a v = .goes op t.a (WhI.wdo op (known D t.b).1 v).1 := by
        unfold rdeep
        rw [ht, if_neg (by rw [hr0]; exact Bool.noConfusion), if_pos hr1]
      rw [hs] at hr ⊢
      refine TW.region ?_
      refine LW.v (r_mv) ?_
      refine LW.v (r_mv) ?_
      refine LW.v (r_fa) ?_
      refine LW.v (r_ld H) ?_
      refine LW.v (r_mv) ?_
      refine LW.c r_c4 ((rgoes_spec h hc hD hg hIa ho hlen (wdo_rng hkr hv) (hr rfl) H).mono ?_)
      rintro _ w ⟨rfl, c2, hc2, H⟩
      refine ⟨_, rfl, ?_⟩
      refine LW.v (r_ext) ?_
      refine LW.v (r_ext) ?_
      refine LW.v (r_as) ?_
      refine LW.v (r_as) ?_
      refine LW.nil ?_
      refine TW.ret (ret2 (by rfl) rT rT ?_)
      exact ⟨rfl, c2, hc2, H.drop⟩
    · have hr1 := hb; have hc1 := hb; try simp only [beq_iff_eq, bne_iff_ne, beq_eq_false_iff_ne, bne_eq_false_iff_eq, decide_eq_true_eq, decide_eq_false_iff_not, Bool.not_eq_true', Bool.not_eq_false', Bool.true_eq, Bool.false_eq, ge_iff_le, gt_iff_lt, Bool.not_eq_eq_eq_not, Bool.not_true, Bool.not_false, ne_eq] at hc1
      refine TW.skip <| TW.seq <| TW.seq ?_
      refine TW.join1 H [(0, .pointer (some ⟨q, 0, none⟩)), (1, .int .i64 op), (2, .int .i64 a), (3, .int .u32 v), (10, .pointer (some ⟨g10, 0, none⟩)), (11, .int .u32 (known D t.b).1), (80, .bool (!among op [29, 33, 34] || decide ((known D t.b).1 < 1) || decide (31 < (known D t.b).1)))] (fun go => ?_) (fun f w H => ?_)
      · refine TW.region ?_
        refine LW.v (r_mv) ?_
        refine LW.new (r_bsl H [.int .i64 29, .int .i64 33, .int .i64 34] [.int .i64 29, .int .i64 33, .int .i64 34] rfl rfl (hv := by simp [Value.cells])) ?_; intro gb w H
        refine LW.c r_c2 ((rin_lit op [29, 33, 34] H rfl (by decide)).mono ?_)
        rintro _ w ⟨rfl, H⟩
        refine ⟨_, rfl, ?_⟩
        refine LW.v (r_not) ?_
        refine LW.v (r_mv) ?_
        refine LW.gen fun b hb => ?_; cases b
        · have hr2 := hb.symm; have hc2 := hb.symm; try simp only [beq_iff_eq, bne_iff_ne, beq_eq_false_iff_ne, bne_eq_false_iff_eq, decide_eq_true_eq, decide_eq_false_iff_not, Bool.not_eq_true', Bool.not_eq_false', Bool.true_eq, Bool.false_eq, ge_iff_le, gt_iff_lt, Bool.not_eq_eq_eq_not, Bool.not_true, Bool.not_false, ne_eq] at hc2
          refine LW.yes (by rfl) (by rfl) (by rfl) (by rfl) (by rfl) ?_
          refine LW.v (r_mv) ?_
          refine LW.yes (by rfl) (by rfl) (by rfl) (by rfl) (by rfl) ?_
          refine LW.v (r_bin) ?_
          refine LW.v (r_pick) ?_
          refine LW.v (r_mv) ?_
          refine LW.gen fun b hb => ?_; cases b
          · have hr3 := hb.symm; have hc3 := hb.symm; try simp only [beq_iff_eq, bne_iff_ne, beq_eq_false_iff_ne, bne_eq_false_iff_eq, decide_eq_true_eq, decide_eq_false_iff_not, Bool.not_eq_true', Bool.not_eq_false', Bool.true_eq, Bool.false_eq, ge_iff_le, gt_iff_lt, Bool.not_eq_eq_eq_not, Bool.not_true, Bool.not_false, ne_eq] at hc3
            refine LW.yes (by rfl) (by rfl) (by rfl) (by rfl) (by rfl) ?_
            refine LW.v (r_mv) ?_
            refine LW.yes (by rfl) (by rfl) (by rfl) (by rfl) (by rfl) ?_
            refine LW.v (r_bin) ?_
            refine LW.v (r_pick) ?_
            refine LW.nil ?_
            exact go _ _ H ⟨rfl, rfl, rfl, rfl, rfl, rfl, congrArg Value.bool (by first | rfl | (simp [hkv, hc0, hc1, hc2, hc3]; done) | (exfalso; omega)  | exact Bool.noConfusion (hc0.symm.trans hc1) | exact Bool.noConfusion (hc0.symm.trans hc2) | exact Bool.noConfusion (hc0.symm.trans hc3) | exact Bool.noConfusion (hc1.symm.trans hc2) | exact Bool.noConfusion (hc1.symm.trans hc3) | exact Bool.noConfusion (hc2.symm.trans hc3)), trivial⟩
          · have hr3 := hb.symm; have hc3 := hb.symm; try simp only [beq_iff_eq, bne_iff_ne, beq_eq_false_iff_ne, bne_eq_false_iff_eq, decide_eq_true_eq, decide_eq_false_iff_not, Bool.not_eq_true', Bool.not_eq_false', Bool.true_eq, Bool.false_eq, ge_iff_le, gt_iff_lt, Bool.not_eq_eq_eq_not, Bool.not_true, Bool.not_false, ne_eq] at hc3
            refine LW.no (by rfl) (by rfl) (by rfl) (by rfl) (by rfl) (by rfl) ?_
            refine LW.no (by rfl) (by rfl) (by rfl) (by rfl) (by rfl) (by rfl) ?_
            refine LW.v (r_pick) ?_
            refine LW.nil ?_
            exact go _ _ H ⟨rfl, rfl, rfl, rfl, rfl, rfl, congrArg Value.bool (by first | rfl | (simp [hkv, hc0, hc1, hc2, hc3]; done) | (exfalso; omega)  | exact Bool.noConfusion (hc0.symm.trans hc1) | exact Bool.noConfusion (hc0.symm.trans hc2) | exact Bool.noConfusion (hc0.symm.trans hc3) | exact Bool.noConfusion (hc1.symm.trans hc2) | exact Bool.noConfusion (hc1.symm.trans hc3) | exact Bool.noConfusion (hc2.symm.trans hc3)), trivial⟩
        · have hr2 := hb.symm; have hc2 := hb.symm; try simp only [beq_iff_eq, bne_iff_ne, beq_eq_false_iff_ne, bne_eq_false_iff_eq, decide_eq_true_eq, decide_eq_false_iff_not, Bool.not_eq_true', Bool.not_eq_false', Bool.true_eq, Bool.false_eq, ge_iff_le, gt_iff_lt, Bool.not_eq_eq_eq_not, Bool.not_true, Bool.not_false, ne_eq] at hc2
          refine LW.no (by rfl) (by rfl) (by rfl) (by rfl) (by rfl) (by rfl) ?_
          refine LW.no (by rfl) (by rfl) (by rfl) (by rfl) (by rfl) (by rfl) ?_
          refine LW.v (r_pick) ?_
          refine LW.v (r_mv) ?_
          refine LW.no (by rfl) (by rfl) (by rfl) (by rfl) (by rfl) (by rfl) ?_
          refine LW.no (by rfl) (by rfl) (by rfl) (by rfl) (by rfl) (by rfl) ?_
          refine LW.v (r_pick) ?_
          refine LW.nil ?_
          exact go _ _ H ⟨rfl, rfl, rfl, rfl, rfl, rfl, congrArg Value.bool (by first | rfl | (simp [hkv, hc0, hc1, hc2]; done) | (exfalso; omega)  | exact Bool.noConfusion (hc0.symm.trans hc1) | exact Bool.noConfusion (hc0.symm.trans hc2) | exact Bool.noConfusion (hc1.symm.trans hc2)), trivial⟩
      refine TW.c rfl (fun hb => ?_) (fun hb => ?_)
      · have hr2 := hb; have hc2 := hb; try simp only [beq_iff_eq, bne_iff_ne, beq_eq_false_iff_ne, bne_eq_false_iff_eq, decide_eq_true_eq, decide_eq_false_iff_not, Bool.not_eq_true', Bool.not_eq_false', Bool.true_eq, Bool.false_eq, ge_iff_le, gt_iff_lt, Bool.not_eq_eq_eq_not, Bool.not_true, Bool.not_false, ne_eq] at hc2
        refine TW.seq ?_
        have hs : rdeep D op a v = .no := by
          unfold rdeep
          rw [ht, if_neg (by rw [hr0]; exact Bool.noConfusion), if_neg (by rw [hr1]; exact Bool.noConfusion), if_pos hr2]
        rw [hs] at hr ⊢
        refine TW.region ?_
        refine LW.v (r_as) ?_
        refine LW.v (r_as) ?_
        refine LW.nil ?_
        refine TW.ret (ret2 (by rfl) rT rT ?_)
        exact ⟨rfl, c, hc, by first | exact H.drop | exact back _ _ H.drop⟩
      · have hr2 := hb; have hc2 := hb; try simp only [beq_iff_eq, bne_iff_ne, beq_eq_false_iff_ne, bne_eq_false_iff_eq, decide_eq_true_eq, decide_eq_false_iff_not, Bool.not_eq_true', Bool.not_eq_false', Bool.true_eq, Bool.false_eq, ge_iff_le, gt_iff_lt, Bool.not_eq_eq_eq_not, Bool.not_true, Bool.not_false, ne_eq] at hc2
        refine TW.skip <| TW.seq <| TW.seq ?_
        refine TW.region ?_
        refine LW.v (r_mv) ?_
        refine LW.v (r_mv) ?_
        refine LW.v (r_bin) ?_
        refine LW.v (r_bin) ?_
        refine LW.nil ?_
        refine TW.c rfl (fun hb => ?_) (fun hb => ?_)
        · have hr3 := hb; have hc3 := hb; try simp only [beq_iff_eq, bne_iff_ne, beq_eq_false_iff_ne, bne_eq_false_iff_eq, decide_eq_true_eq, decide_eq_false_iff_not, Bool.not_eq_true', Bool.not_eq_false', Bool.true_eq, Bool.false_eq, ge_iff_le, gt_iff_lt, Bool.not_eq_eq_eq_not, Bool.not_true, Bool.not_false, ne_eq] at hc3
          refine TW.seq ?_
          have hs : rdeep D op a v = .goes op t.a (IntKind.u32.wrap ((known D t.b).1 + v)) := by
            unfold rdeep
            rw [ht, if_neg (by rw [hr0]; exact Bool.noConfusion), if_neg (by rw [hr1]; exact Bool.noConfusion), if_neg (by rw [hr2]; exact Bool.noConfusion), if_pos hc3]
          rw [hs] at hr ⊢
          refine TW.region ?_
          refine LW.v (r_mv) ?_
          refine LW.v (r_mv) ?_
          refine LW.v (r_fa) ?_
          refine LW.v (r_ld H) ?_
          refine LW.v (r_mv) ?_
          refine LW.v (r_mv) ?_
          refine LW.v (r_bin) ?_
          refine LW.c r_c4 ((rgoes_spec h hc hD hg hIa ho hlen (u32_rng _) (hr rfl) H).mono ?_)
          rintro _ w ⟨rfl, c2, hc2, H⟩
          refine ⟨_, rfl, ?_⟩
          refine LW.v (r_ext) ?_
          refine LW.v (r_ext) ?_
          refine LW.v (r_as) ?_
          refine LW.v (r_as) ?_
          refine LW.nil ?_
          refine TW.ret (ret2 (by rfl) rT rT ?_)
          exact ⟨rfl, c2, hc2, H.drop⟩
        · have hr3 := hb; have hc3 := hb; try simp only [beq_iff_eq, bne_iff_ne, beq_eq_false_iff_ne, bne_eq_false_iff_eq, decide_eq_true_eq, decide_eq_false_iff_not, Bool.not_eq_true', Bool.not_eq_false', Bool.true_eq, Bool.false_eq, ge_iff_le, gt_iff_lt, Bool.not_eq_eq_eq_not, Bool.not_true, Bool.not_false, ne_eq] at hc3
          refine TW.skip <| TW.seq <| TW.seq ?_
          refine TW.region ?_
          refine LW.v (r_mv) ?_
          refine LW.v (r_bin) ?_
          refine LW.nil ?_
          refine TW.c rfl (fun hb => ?_) (fun hb => ?_)
          · have hr4 := hb; have hc4 := hb; try simp only [beq_iff_eq, bne_iff_ne, beq_eq_false_iff_ne, bne_eq_false_iff_eq, decide_eq_true_eq, decide_eq_false_iff_not, Bool.not_eq_true', Bool.not_eq_false', Bool.true_eq, Bool.false_eq, ge_iff_le, gt_iff_lt, Bool.not_eq_eq_eq_not, Bool.not_true, Bool.not_false, ne_eq] at hc4
            refine TW.seq ?_
            have hs : rdeep D op a v = .goes op t.a 31 := by
              unfold rdeep
              rw [ht, if_neg (by rw [hr0]; exact Bool.noConfusion), if_neg (by rw [hr1]; exact Bool.noConfusion), if_neg (by rw [hr2]; exact Bool.noConfusion), if_neg hc3, if_pos hc4]
            rw [hs] at hr ⊢
            refine TW.region ?_
            refine LW.v (r_mv) ?_
            refine LW.v (r_mv) ?_
            refine LW.v (r_fa) ?_
            refine LW.v (r_ld H) ?_
            refine LW.c r_c4 ((rgoes_spec h hc hD hg hIa ho hlen (⟨by decide, by decide⟩) (hr rfl) H).mono ?_)
            rintro _ w ⟨rfl, c2, hc2, H⟩
            refine ⟨_, rfl, ?_⟩
            refine LW.v (r_ext) ?_
            refine LW.v (r_ext) ?_
            refine LW.v (r_as) ?_
            refine LW.v (r_as) ?_
            refine LW.nil ?_
            refine TW.ret (ret2 (by rfl) rT rT ?_)
            exact ⟨rfl, c2, hc2, H.drop⟩
          · have hr4 := hb; have hc4 := hb; try simp only [beq_iff_eq, bne_iff_ne, beq_eq_false_iff_ne, bne_eq_false_iff_eq, decide_eq_true_eq, decide_eq_false_iff_not, Bool.not_eq_true', Bool.not_eq_false', Bool.true_eq, Bool.false_eq, ge_iff_le, gt_iff_lt, Bool.not_eq_eq_eq_not, Bool.not_true, Bool.not_false, ne_eq] at hc4
            refine TW.skip <| TW.seq ?_
            have hs : rdeep D op a v = .const 0 := by
              unfold rdeep
              rw [ht, if_neg (by rw [hr0]; exact Bool.noConfusion), if_neg (by rw [hr1]; exact Bool.noConfusion), if_neg (by rw [hr2]; exact Bool.noConfusion), if_neg hc3, if_neg hc4]
            rw [hs] at hr ⊢
            refine TW.region ?_
            refine LW.v (r_mv) ?_
            refine LW.c r_c2 ((rconst_at q D _ hc (by omega) H).mono ?_)
            rintro _ w ⟨rfl, c', hc', H⟩
            refine ⟨_, rfl, ?_⟩
            refine LW.v (r_as) ?_
            refine LW.v (r_as) ?_
            refine LW.nil ?_
            refine TW.ret (ret2 (by rfl) rT rT ?_)
            obtain rfl : addT D (K (0)) = r := Option.some.inj (hr rfl)
            exact ⟨rfl, c', hc', H.drop⟩
end Wh
