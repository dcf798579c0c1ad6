/- A part of the walk through the code: contracts of functions, printed by a program of the prover. -/
import Derived.Test.YtjdckpeoinkafaaGreatDoorSp
import Derived.Test.YtjdckpeoinkafaaGreatDoorDag
set_option linter.all false
namespace Wh
open Go Go.Proofs
set_option maxRecDepth 100000
def kindsV : List Value := [.agg #[.int .u8 85, .int .u32 55, .int .u32 0, .int .u32 0], .agg #[.int .u8 85, .int .u32 23, .int .u32 0, .int .u32 0], .agg #[.int .u8 74, .int .u32 111, .int .u32 0, .int .u32 0], .agg #[.int .u8 73, .int .u32 103, .int .u32 0, .int .u32 0], .agg #[.int .u8 66, .int .u32 99, .int .u32 0, .int .u32 0], .agg #[.int .u8 66, .int .u32 99, .int .u32 1, .int .u32 0], .agg #[.int .u8 66, .int .u32 99, .int .u32 4, .int .u32 0], .agg #[.int .u8 66, .int .u32 99, .int .u32 5, .int .u32 0], .agg #[.int .u8 66, .int .u32 99, .int .u32 6, .int .u32 0], .agg #[.int .u8 66, .int .u32 99, .int .u32 7, .int .u32 0], .agg #[.int .u8 73, .int .u32 3, .int .u32 0, .int .u32 0], .agg #[.int .u8 73, .int .u32 3, .int .u32 1, .int .u32 0], .agg #[.int .u8 73, .int .u32 3, .int .u32 2, .int .u32 0], .agg #[.int .u8 73, .int .u32 3, .int .u32 4, .int .u32 0], .agg #[.int .u8 73, .int .u32 3, .int .u32 5, .int .u32 0], .agg #[.int .u8 83, .int .u32 35, .int .u32 0, .int .u32 0], .agg #[.int .u8 83, .int .u32 35, .int .u32 1, .int .u32 0], .agg #[.int .u8 83, .int .u32 35, .int .u32 2, .int .u32 0], .agg #[.int .u8 73, .int .u32 19, .int .u32 0, .int .u32 0], .agg #[.int .u8 73, .int .u32 19, .int .u32 2, .int .u32 0], .agg #[.int .u8 73, .int .u32 19, .int .u32 3, .int .u32 0], .agg #[.int .u8 73, .int .u32 19, .int .u32 4, .int .u32 0], .agg #[.int .u8 73, .int .u32 19, .int .u32 6, .int .u32 0], .agg #[.int .u8 73, .int .u32 19, .int .u32 7, .int .u32 0], .agg #[.int .u8 72, .int .u32 19, .int .u32 1, .int .u32 0], .agg #[.int .u8 72, .int .u32 19, .int .u32 5, .int .u32 0], .agg #[.int .u8 72, .int .u32 19, .int .u32 5, .int .u32 32], .agg #[.int .u8 82, .int .u32 51, .int .u32 0, .int .u32 0], .agg #[.int .u8 82, .int .u32 51, .int .u32 0, .int .u32 32], .agg #[.int .u8 82, .int .u32 51, .int .u32 1, .int .u32 0], .agg #[.int .u8 82, .int .u32 51, .int .u32 2, .int .u32 0], .agg #[.int .u8 82, .int .u32 51, .int .u32 3, .int .u32 0], .agg #[.int .u8 82, .int .u32 51, .int .u32 4, .int .u32 0], .agg #[.int .u8 82, .int .u32 51, .int .u32 5, .int .u32 0], .agg #[.int .u8 82, .int .u32 51, .int .u32 5, .int .u32 32], .agg #[.int .u8 82, .int .u32 51, .int .u32 6, .int .u32 0], .agg #[.int .u8 82, .int .u32 51, .int .u32 7, .int .u32 0], .agg #[.int .u8 82, .int .u32 51, .int .u32 0, .int .u32 1], .agg #[.int .u8 82, .int .u32 51, .int .u32 1, .int .u32 1], .agg #[.int .u8 82, .int .u32 51, .int .u32 2, .int .u32 1], .agg #[.int .u8 82, .int .u32 51, .int .u32 3, .int .u32 1], .agg #[.int .u8 82, .int .u32 51, .int .u32 4, .int .u32 1], .agg #[.int .u8 82, .int .u32 51, .int .u32 5, .int .u32 1], .agg #[.int .u8 82, .int .u32 51, .int .u32 6, .int .u32 1], .agg #[.int .u8 82, .int .u32 51, .int .u32 7, .int .u32 1], .agg #[.int .u8 69, .int .u32 115, .int .u32 0, .int .u32 0], .agg #[.int .u8 69, .int .u32 115, .int .u32 0, .int .u32 0]]
def kindsC : List Value := [.int .u8 85, .int .u32 55, .int .u32 0, .int .u32 0, .int .u8 85, .int .u32 23, .int .u32 0, .int .u32 0, .int .u8 74, .int .u32 111, .int .u32 0, .int .u32 0, .int .u8 73, .int .u32 103, .int .u32 0, .int .u32 0, .int .u8 66, .int .u32 99, .int .u32 0, .int .u32 0, .int .u8 66, .int .u32 99, .int .u32 1, .int .u32 0, .int .u8 66, .int .u32 99, .int .u32 4, .int .u32 0, .int .u8 66, .int .u32 99, .int .u32 5, .int .u32 0, .int .u8 66, .int .u32 99, .int .u32 6, .int .u32 0, .int .u8 66, .int .u32 99, .int .u32 7, .int .u32 0, .int .u8 73, .int .u32 3, .int .u32 0, .int .u32 0, .int .u8 73, .int .u32 3, .int .u32 1, .int .u32 0, .int .u8 73, .int .u32 3, .int .u32 2, .int .u32 0, .int .u8 73, .int .u32 3, .int .u32 4, .int .u32 0, .int .u8 73, .int .u32 3, .int .u32 5, .int .u32 0, .int .u8 83, .int .u32 35, .int .u32 0, .int .u32 0, .int .u8 83, .int .u32 35, .int .u32 1, .int .u32 0, .int .u8 83, .int .u32 35, .int .u32 2, .int .u32 0, .int .u8 73, .int .u32 19, .int .u32 0, .int .u32 0, .int .u8 73, .int .u32 19, .int .u32 2, .int .u32 0, .int .u8 73, .int .u32 19, .int .u32 3, .int .u32 0, .int .u8 73, .int .u32 19, .int .u32 4, .int .u32 0, .int .u8 73, .int .u32 19, .int .u32 6, .int .u32 0, .int .u8 73, .int .u32 19, .int .u32 7, .int .u32 0, .int .u8 72, .int .u32 19, .int .u32 1, .int .u32 0, .int .u8 72, .int .u32 19, .int .u32 5, .int .u32 0, .int .u8 72, .int .u32 19, .int .u32 5, .int .u32 32, .int .u8 82, .int .u32 51, .int .u32 0, .int .u32 0, .int .u8 82, .int .u32 51, .int .u32 0, .int .u32 32, .int .u8 82, .int .u32 51, .int .u32 1, .int .u32 0, .int .u8 82, .int .u32 51, .int .u32 2, .int .u32 0, .int .u8 82, .int .u32 51, .int .u32 3, .int .u32 0, .int .u8 82, .int .u32 51, .int .u32 4, .int .u32 0, .int .u8 82, .int .u32 51, .int .u32 5, .int .u32 0, .int .u8 82, .int .u32 51, .int .u32 5, .int .u32 32, .int .u8 82, .int .u32 51, .int .u32 6, .int .u32 0, .int .u8 82, .int .u32 51, .int .u32 7, .int .u32 0, .int .u8 82, .int .u32 51, .int .u32 0, .int .u32 1, .int .u8 82, .int .u32 51, .int .u32 1, .int .u32 1, .int .u8 82, .int .u32 51, .int .u32 2, .int .u32 1, .int .u8 82, .int .u32 51, .int .u32 3, .int .u32 1, .int .u8 82, .int .u32 51, .int .u32 4, .int .u32 1, .int .u8 82, .int .u32 51, .int .u32 5, .int .u32 1, .int .u8 82, .int .u32 51, .int .u32 6, .int .u32 1, .int .u8 82, .int .u32 51, .int .u32 7, .int .u32 1, .int .u8 69, .int .u32 115, .int .u32 0, .int .u32 0, .int .u8 69, .int .u32 115, .int .u32 0, .int .u32 0]
theorem kinds_spec (B : Nat) (w0 w : World) (L : List Ck) (H : Hp B w0 w L) : Calls Tryz.prog 56 #[] w fun e w' => e = .returned (.agg kindsC.toArray) ∧ Hp B w0 w' L := by
  refine calls_go Tryz.func56 Tryz.ntmps56 rfl rfl ?_
  refine TW.seq ?_
  refine TW.region ?_
  refine LW.new (r_al H) ?_; intro g0 w H
  refine LW.nil ?_
  refine TW.seq ?_
  refine TW.region ?_
  refine LW.v (r_bd) ?_
  refine LW.v (r_bd) ?_
  refine LW.v (r_bd) ?_
  refine LW.v (r_bd) ?_
  refine LW.v (r_bd) ?_
  refine LW.v (r_bd) ?_
  refine LW.v (r_bd) ?_
  refine LW.v (r_bd) ?_
  refine LW.v (r_bd) ?_
  refine LW.v (r_bd) ?_
  refine LW.v (r_bd) ?_
  refine LW.v (r_bd) ?_
  refine LW.v (r_bd) ?_
  refine LW.v (r_bd) ?_
  refine LW.v (r_bd) ?_
  refine LW.v (r_bd) ?_
  refine LW.v (r_bd) ?_
  refine LW.v (r_bd) ?_
  refine LW.v (r_bd) ?_
  refine LW.v (r_bd) ?_
  refine LW.v (r_bd) ?_
  refine LW.v (r_bd) ?_
  refine LW.v (r_bd) ?_
  refine LW.v (r_bd) ?_
  refine LW.v (r_bd) ?_
  refine LW.v (r_bd) ?_
  refine LW.v (r_bd) ?_
  refine LW.v (r_bd) ?_
  refine LW.v (r_bd) ?_
  refine LW.v (r_bd) ?_
  refine LW.v (r_bd) ?_
  refine LW.v (r_bd) ?_
  refine LW.v (r_bd) ?_
  refine LW.v (r_bd) ?_
  refine LW.v (r_bd) ?_
  refine LW.v (r_bd) ?_
  refine LW.v (r_bd) ?_
  refine LW.v (r_bd) ?_
  refine LW.v (r_bd) ?_
  refine LW.v (r_bd) ?_
  refine LW.v (r_bd) ?_
  refine LW.v (r_bd) ?_
  refine LW.v (r_bd) ?_
  refine LW.v (r_bd) ?_
  refine LW.v (r_bd) ?_
  refine LW.v (r_bd) ?_
  refine LW.v (r_bd) ?_
  refine LW.v (r_bda kindsV kindsC rfl rfl (hv := by simp [kindsV, Value.cells])) ?_
  refine LW.sto (r_stW H) ?_; intro w H
  refine LW.nil ?_
  refine TW.ret (ret1 (by rfl) (rC H) ?_)
  exact ⟨rfl, H.drop⟩
theorem kinds_at (n : Nat) (h : n < 47) : ∃ a b c, (kindsC.toArray.toList.drop (n * 4)).take 4 = [.int .u8 (WhI.formN n), .int .u32 a, .int .u32 b, .int .u32 c] := by
  match n, h with
  | 0, _ => exact ⟨55, 0, 0, rfl⟩
  | 1, _ => exact ⟨23, 0, 0, rfl⟩
  | 2, _ => exact ⟨111, 0, 0, rfl⟩
  | 3, _ => exact ⟨103, 0, 0, rfl⟩
  | 4, _ => exact ⟨99, 0, 0, rfl⟩
  | 5, _ => exact ⟨99, 1, 0, rfl⟩
  | 6, _ => exact ⟨99, 4, 0, rfl⟩
  | 7, _ => exact ⟨99, 5, 0, rfl⟩
  | 8, _ => exact ⟨99, 6, 0, rfl⟩
  | 9, _ => exact ⟨99, 7, 0, rfl⟩
  | 10, _ => exact ⟨3, 0, 0, rfl⟩
  | 11, _ => exact ⟨3, 1, 0, rfl⟩
  | 12, _ => exact ⟨3, 2, 0, rfl⟩
  | 13, _ => exact ⟨3, 4, 0, rfl⟩
  | 14, _ => exact ⟨3, 5, 0, rfl⟩
  | 15, _ => exact ⟨35, 0, 0, rfl⟩
  | 16, _ => exact ⟨35, 1, 0, rfl⟩
  | 17, _ => exact ⟨35, 2, 0, rfl⟩
  | 18, _ => exact ⟨19, 0, 0, rfl⟩
  | 19, _ => exact ⟨19, 2, 0, rfl⟩
  | 20, _ => exact ⟨19, 3, 0, rfl⟩
  | 21, _ => exact ⟨19, 4, 0, rfl⟩
  | 22, _ => exact ⟨19, 6, 0, rfl⟩
  | 23, _ => exact ⟨19, 7, 0, rfl⟩
  | 24, _ => exact ⟨19, 1, 0, rfl⟩
  | 25, _ => exact ⟨19, 5, 0, rfl⟩
  | 26, _ => exact ⟨19, 5, 32, rfl⟩
  | 27, _ => exact ⟨51, 0, 0, rfl⟩
  | 28, _ => exact ⟨51, 0, 32, rfl⟩
  | 29, _ => exact ⟨51, 1, 0, rfl⟩
  | 30, _ => exact ⟨51, 2, 0, rfl⟩
  | 31, _ => exact ⟨51, 3, 0, rfl⟩
  | 32, _ => exact ⟨51, 4, 0, rfl⟩
  | 33, _ => exact ⟨51, 5, 0, rfl⟩
  | 34, _ => exact ⟨51, 5, 32, rfl⟩
  | 35, _ => exact ⟨51, 6, 0, rfl⟩
  | 36, _ => exact ⟨51, 7, 0, rfl⟩
  | 37, _ => exact ⟨51, 0, 1, rfl⟩
  | 38, _ => exact ⟨51, 1, 1, rfl⟩
  | 39, _ => exact ⟨51, 2, 1, rfl⟩
  | 40, _ => exact ⟨51, 3, 1, rfl⟩
  | 41, _ => exact ⟨51, 4, 1, rfl⟩
  | 42, _ => exact ⟨51, 5, 1, rfl⟩
  | 43, _ => exact ⟨51, 6, 1, rfl⟩
  | 44, _ => exact ⟨51, 7, 1, rfl⟩
  | 45, _ => exact ⟨115, 0, 0, rfl⟩
  | 46, _ => exact ⟨115, 0, 0, rfl⟩
  | n + 47, h => omega
theorem form_spec (B : Nat) (w0 w : World) (L : List Ck) (op : Int) (H : Hp B w0 w L) : Calls Tryz.prog 24 #[.int .i64 op] w fun e w' => e = .returned (.int .u8 (WhI.form op)) ∧ Hp B w0 w' L := by
  refine calls_go Tryz.func24 Tryz.ntmps24 rfl rfl ?_
  refine TW.seq ?_
  refine TW.region ?_
  refine LW.v (r_as) ?_
  refine LW.nil ?_
  refine TW.seq <| TW.seq ?_
  refine TW.region ?_
  refine LW.v (r_mv) ?_
  refine LW.v (r_bin) ?_
  refine LW.v (r_mv) ?_
  refine LW.gen fun b hb => ?_; cases b
  · have hr0 := hb.symm; have hc0 := hb.symm; try simp only [beq_iff_eq, bne_iff_ne, beq_eq_false_iff_ne, bne_eq_false_iff_eq, decide_eq_true_eq, decide_eq_false_iff_not, Bool.not_eq_true', Bool.not_eq_false', Bool.true_eq, Bool.false_eq, ge_iff_le, gt_iff_lt, Bool.not_eq_eq_eq_not, Bool.not_true, Bool.not_false, ne_eq] at hc0
    refine LW.yes (by rfl) (by rfl) (by rfl) (by rfl) (by rfl) ?_
    refine LW.v (r_mv) ?_
    refine LW.yes (by rfl) (by rfl) (by rfl) (by rfl) (by rfl) ?_
    refine LW.v (r_bin) ?_
    refine LW.v (r_pick) ?_
    refine LW.nil ?_
    refine TW.c rfl (fun hb => ?_) (fun hb => ?_)
    · have hr1 := hb; have hc1 := hb; try simp only [beq_iff_eq, bne_iff_ne, beq_eq_false_iff_ne, bne_eq_false_iff_eq, decide_eq_true_eq, decide_eq_false_iff_not, Bool.not_eq_true', Bool.not_eq_false', Bool.true_eq, Bool.false_eq, ge_iff_le, gt_iff_lt, Bool.not_eq_eq_eq_not, Bool.not_true, Bool.not_false, ne_eq] at hc1
      refine TW.seq ?_
      refine TW.region ?_
      refine LW.v (r_as) ?_
      refine LW.nil ?_
      refine TW.ret (ret1 (by rfl) rT ?_)
      exact ⟨by first | rfl | (simp [IntKind.bits, WhI.form, hc0, hc1]; done) | (exfalso; omega), by first | exact H | exact H.drop | exact H.drop.drop⟩
    · have hr1 := hb; have hc1 := hb; try simp only [beq_iff_eq, bne_iff_ne, beq_eq_false_iff_ne, bne_eq_false_iff_eq, decide_eq_true_eq, decide_eq_false_iff_not, Bool.not_eq_true', Bool.not_eq_false', Bool.true_eq, Bool.false_eq, ge_iff_le, gt_iff_lt, Bool.not_eq_eq_eq_not, Bool.not_true, Bool.not_false, ne_eq] at hc1
      refine TW.skip <| TW.seq ?_
      refine TW.region ?_
      refine LW.c r_c0 ((kinds_spec _ _ _ _ H).mono ?_)
      rintro _ w ⟨rfl, H⟩
      refine ⟨_, rfl, ?_⟩
      refine LW.v (r_mv) ?_
      obtain ⟨a, b, c, hk⟩ := kinds_at op.toNat (by omega)
      refine LW.v (r_ixA (h0 := by omega) (h1 := by omega) (hv := hk)) ?_
      refine LW.v (r_fld) ?_
      refine LW.v (r_as) ?_
      refine LW.nil ?_
      refine TW.ret (ret1 (by rfl) rT ?_)
      exact ⟨by first | rfl | (simp [IntKind.bits, WhI.form, hc0, hc1]; done) | (exfalso; omega), by first | exact H | exact H.drop | exact H.drop.drop⟩
  · have hr0 := hb.symm; have hc0 := hb.symm; try simp only [beq_iff_eq, bne_iff_ne, beq_eq_false_iff_ne, bne_eq_false_iff_eq, decide_eq_true_eq, decide_eq_false_iff_not, Bool.not_eq_true', Bool.not_eq_false', Bool.true_eq, Bool.false_eq, ge_iff_le, gt_iff_lt, Bool.not_eq_eq_eq_not, Bool.not_true, Bool.not_false, ne_eq] at hc0
    refine LW.no (by rfl) (by rfl) (by rfl) (by rfl) (by rfl) (by rfl) ?_
    refine LW.no (by rfl) (by rfl) (by rfl) (by rfl) (by rfl) (by rfl) ?_
    refine LW.v (r_pick) ?_
    refine LW.nil ?_
    refine TW.c rfl (fun _ => ?_) (fun h => by first | (cases h; done) | exact absurd h (by simp [hc0]))
    refine TW.seq ?_
    refine TW.region ?_
    refine LW.v (r_as) ?_
    refine LW.nil ?_
    refine TW.ret (ret1 (by rfl) rT ?_)
    exact ⟨by first | rfl | (simp [IntKind.bits, WhI.form, hc0]; done) | (exfalso; omega), by first | exact H | exact H.drop | exact H.drop.drop⟩
theorem has_spec (B : Nat) (w0 w : World) (L : List Ck) (f : Int) (H : Hp B w0 w L) : Calls Tryz.prog 53 #[.int .u8 f] w fun e w' => e = .returned (.tuple #[.bool (WhI.has f).1, .bool (WhI.has f).2.1, .bool (WhI.has f).2.2]) ∧ Hp B w0 w' L := by
  refine calls_go Tryz.func53 Tryz.ntmps53 rfl rfl ?_
  refine TW.seq ?_
  refine TW.region ?_
  refine LW.v (r_as) ?_
  refine LW.v (r_as) ?_
  refine LW.v (r_as) ?_
  refine LW.nil ?_
  refine TW.seq <| TW.seq ?_
  refine TW.region ?_
  refine LW.v (r_mv) ?_
  refine LW.nil ?_
  refine TW.block <| TW.seq <| TW.seq ?_
  refine TW.region ?_
  refine LW.v (r_bin) ?_
  refine LW.v (r_as) ?_
  refine LW.nil ?_
  refine TW.c rfl (fun hb => ?_) (fun hb => ?_)
  · have hr0 := hb; have hc0 := hb; try simp only [beq_iff_eq, bne_iff_ne, beq_eq_false_iff_ne, bne_eq_false_iff_eq, decide_eq_true_eq, decide_eq_false_iff_not, Bool.not_eq_true', Bool.not_eq_false', Bool.true_eq, Bool.false_eq, ge_iff_le, gt_iff_lt, Bool.not_eq_eq_eq_not, Bool.not_true, Bool.not_false, ne_eq] at hc0
    refine TW.skip ?_
    refine TW.c rfl (fun _ => ?_) (fun h => by first | (cases h; done) | exact absurd h (by simp [hc0]))
    refine TW.seq ?_
    refine TW.region ?_
    refine LW.v (r_as) ?_
    refine LW.v (r_as) ?_
    refine LW.v (r_as) ?_
    refine LW.nil ?_
    refine TW.ret (ret3 (by rfl) rT rT rT ?_)
    exact ⟨by first | rfl | (simp [IntKind.bits, WhI.has, hc0]; done) | (exfalso; omega), by first | exact H | exact H.drop | exact H.drop.drop⟩
  · have hr0 := hb; have hc0 := hb; try simp only [beq_iff_eq, bne_iff_ne, beq_eq_false_iff_ne, bne_eq_false_iff_eq, decide_eq_true_eq, decide_eq_false_iff_not, Bool.not_eq_true', Bool.not_eq_false', Bool.true_eq, Bool.false_eq, ge_iff_le, gt_iff_lt, Bool.not_eq_eq_eq_not, Bool.not_true, Bool.not_false, ne_eq] at hc0
    refine TW.region ?_
    refine LW.v (r_bin) ?_
    refine LW.v (r_as) ?_
    refine LW.nil ?_
    refine TW.c rfl (fun hb => ?_) (fun hb => ?_)
    · have hr1 := hb; have hc1 := hb; try simp only [beq_iff_eq, bne_iff_ne, beq_eq_false_iff_ne, bne_eq_false_iff_eq, decide_eq_true_eq, decide_eq_false_iff_not, Bool.not_eq_true', Bool.not_eq_false', Bool.true_eq, Bool.false_eq, ge_iff_le, gt_iff_lt, Bool.not_eq_eq_eq_not, Bool.not_true, Bool.not_false, ne_eq] at hc1
      refine TW.seq ?_
      refine TW.region ?_
      refine LW.v (r_as) ?_
      refine LW.v (r_as) ?_
      refine LW.v (r_as) ?_
      refine LW.nil ?_
      refine TW.ret (ret3 (by rfl) rT rT rT ?_)
      exact ⟨by first | rfl | (simp [IntKind.bits, WhI.has, hc0, hc1]; done) | (exfalso; omega), by first | exact H | exact H.drop | exact H.drop.drop⟩
    · have hr1 := hb; have hc1 := hb; try simp only [beq_iff_eq, bne_iff_ne, beq_eq_false_iff_ne, bne_eq_false_iff_eq, decide_eq_true_eq, decide_eq_false_iff_not, Bool.not_eq_true', Bool.not_eq_false', Bool.true_eq, Bool.false_eq, ge_iff_le, gt_iff_lt, Bool.not_eq_eq_eq_not, Bool.not_true, Bool.not_false, ne_eq] at hc1
      refine TW.seq <| TW.seq ?_
      refine TW.region ?_
      refine LW.v (r_bin) ?_
      refine LW.v (r_as) ?_
      refine LW.nil ?_
      refine TW.c rfl (fun hb => ?_) (fun hb => ?_)
      · have hr2 := hb; have hc2 := hb; try simp only [beq_iff_eq, bne_iff_ne, beq_eq_false_iff_ne, bne_eq_false_iff_eq, decide_eq_true_eq, decide_eq_false_iff_not, Bool.not_eq_true', Bool.not_eq_false', Bool.true_eq, Bool.false_eq, ge_iff_le, gt_iff_lt, Bool.not_eq_eq_eq_not, Bool.not_true, Bool.not_false, ne_eq] at hc2
        refine TW.skip ?_
        refine TW.c rfl (fun _ => ?_) (fun h => by first | (cases h; done) | exact absurd h (by simp [hc0, hc1, hc2]))
        refine TW.seq ?_
        refine TW.region ?_
        refine LW.v (r_as) ?_
        refine LW.v (r_as) ?_
        refine LW.v (r_as) ?_
        refine LW.nil ?_
        refine TW.ret (ret3 (by rfl) rT rT rT ?_)
        exact ⟨by first | rfl | (simp [IntKind.bits, WhI.has, hc0, hc1, hc2]; done) | (exfalso; omega), by first | exact H | exact H.drop | exact H.drop.drop⟩
      · have hr2 := hb; have hc2 := hb; try simp only [beq_iff_eq, bne_iff_ne, beq_eq_false_iff_ne, bne_eq_false_iff_eq, decide_eq_true_eq, decide_eq_false_iff_not, Bool.not_eq_true', Bool.not_eq_false', Bool.true_eq, Bool.false_eq, ge_iff_le, gt_iff_lt, Bool.not_eq_eq_eq_not, Bool.not_true, Bool.not_false, ne_eq] at hc2
        refine TW.region ?_
        refine LW.v (r_bin) ?_
        refine LW.v (r_as) ?_
        refine LW.nil ?_
        refine TW.c rfl (fun hb => ?_) (fun hb => ?_)
        · have hr3 := hb; have hc3 := hb; try simp only [beq_iff_eq, bne_iff_ne, beq_eq_false_iff_ne, bne_eq_false_iff_eq, decide_eq_true_eq, decide_eq_false_iff_not, Bool.not_eq_true', Bool.not_eq_false', Bool.true_eq, Bool.false_eq, ge_iff_le, gt_iff_lt, Bool.not_eq_eq_eq_not, Bool.not_true, Bool.not_false, ne_eq] at hc3
          refine TW.seq ?_
          refine TW.region ?_
          refine LW.v (r_as) ?_
          refine LW.v (r_as) ?_
          refine LW.v (r_as) ?_
          refine LW.nil ?_
          refine TW.ret (ret3 (by rfl) rT rT rT ?_)
          exact ⟨by first | rfl | (simp [IntKind.bits, WhI.has, hc0, hc1, hc2, hc3]; done) | (exfalso; omega), by first | exact H | exact H.drop | exact H.drop.drop⟩
        · have hr3 := hb; have hc3 := hb; try simp only [beq_iff_eq, bne_iff_ne, beq_eq_false_iff_ne, bne_eq_false_iff_eq, decide_eq_true_eq, decide_eq_false_iff_not, Bool.not_eq_true', Bool.not_eq_false', Bool.true_eq, Bool.false_eq, ge_iff_le, gt_iff_lt, Bool.not_eq_eq_eq_not, Bool.not_true, Bool.not_false, ne_eq] at hc3
          refine TW.seq <| TW.seq ?_
          refine TW.region ?_
          refine LW.v (r_bin) ?_
          refine LW.v (r_as) ?_
          refine LW.nil ?_
          refine TW.c rfl (fun hb => ?_) (fun hb => ?_)
          · have hr4 := hb; have hc4 := hb; try simp only [beq_iff_eq, bne_iff_ne, beq_eq_false_iff_ne, bne_eq_false_iff_eq, decide_eq_true_eq, decide_eq_false_iff_not, Bool.not_eq_true', Bool.not_eq_false', Bool.true_eq, Bool.false_eq, ge_iff_le, gt_iff_lt, Bool.not_eq_eq_eq_not, Bool.not_true, Bool.not_false, ne_eq] at hc4
            refine TW.skip ?_
            refine TW.c rfl (fun _ => ?_) (fun h => by first | (cases h; done) | exact absurd h (by simp [hc0, hc1, hc2, hc3, hc4]))
            refine TW.seq ?_
            refine TW.region ?_
            refine LW.v (r_as) ?_
            refine LW.v (r_as) ?_
            refine LW.v (r_as) ?_
            refine LW.nil ?_
            refine TW.ret (ret3 (by rfl) rT rT rT ?_)
            exact ⟨by first | rfl | (simp [IntKind.bits, WhI.has, hc0, hc1, hc2, hc3, hc4]; done) | (exfalso; omega), by first | exact H | exact H.drop | exact H.drop.drop⟩
          · have hr4 := hb; have hc4 := hb; try simp only [beq_iff_eq, bne_iff_ne, beq_eq_false_iff_ne, bne_eq_false_iff_eq, decide_eq_true_eq, decide_eq_false_iff_not, Bool.not_eq_true', Bool.not_eq_false', Bool.true_eq, Bool.false_eq, ge_iff_le, gt_iff_lt, Bool.not_eq_eq_eq_not, Bool.not_true, Bool.not_false, ne_eq] at hc4
            refine TW.region ?_
            refine LW.v (r_bin) ?_
            refine LW.v (r_as) ?_
            refine LW.nil ?_
            refine TW.c rfl (fun hb => ?_) (fun hb => ?_)
            · have hr5 := hb; have hc5 := hb; try simp only [beq_iff_eq, bne_iff_ne, beq_eq_false_iff_ne, bne_eq_false_iff_eq, decide_eq_true_eq, decide_eq_false_iff_not, Bool.not_eq_true', Bool.not_eq_false', Bool.true_eq, Bool.false_eq, ge_iff_le, gt_iff_lt, Bool.not_eq_eq_eq_not, Bool.not_true, Bool.not_false, ne_eq] at hc5
              refine TW.seq ?_
              refine TW.region ?_
              refine LW.v (r_as) ?_
              refine LW.v (r_as) ?_
              refine LW.v (r_as) ?_
              refine LW.nil ?_
              refine TW.ret (ret3 (by rfl) rT rT rT ?_)
              exact ⟨by first | rfl | (simp [IntKind.bits, WhI.has, hc0, hc1, hc2, hc3, hc4, hc5]; done) | (exfalso; omega), by first | exact H | exact H.drop | exact H.drop.drop⟩
            · have hr5 := hb; have hc5 := hb; try simp only [beq_iff_eq, bne_iff_ne, beq_eq_false_iff_ne, bne_eq_false_iff_eq, decide_eq_true_eq, decide_eq_false_iff_not, Bool.not_eq_true', Bool.not_eq_false', Bool.true_eq, Bool.false_eq, ge_iff_le, gt_iff_lt, Bool.not_eq_eq_eq_not, Bool.not_true, Bool.not_false, ne_eq] at hc5
              refine TW.seq ?_
              refine TW.region ?_
              refine LW.v (r_bin) ?_
              refine LW.v (r_as) ?_
              refine LW.nil ?_
              refine TW.c rfl (fun hb => ?_) (fun hb => ?_)
              · have hr6 := hb; have hc6 := hb; try simp only [beq_iff_eq, bne_iff_ne, beq_eq_false_iff_ne, bne_eq_false_iff_eq, decide_eq_true_eq, decide_eq_false_iff_not, Bool.not_eq_true', Bool.not_eq_false', Bool.true_eq, Bool.false_eq, ge_iff_le, gt_iff_lt, Bool.not_eq_eq_eq_not, Bool.not_true, Bool.not_false, ne_eq] at hc6
                refine TW.seq ?_
                refine TW.region ?_
                refine LW.v (r_as) ?_
                refine LW.v (r_as) ?_
                refine LW.v (r_as) ?_
                refine LW.nil ?_
                refine TW.ret (ret3 (by rfl) rT rT rT ?_)
                exact ⟨by first | rfl | (simp [IntKind.bits, WhI.has, hc0, hc1, hc2, hc3, hc4, hc5, hc6]; done) | (exfalso; omega), by first | exact H | exact H.drop | exact H.drop.drop⟩
              · have hr6 := hb; have hc6 := hb; try simp only [beq_iff_eq, bne_iff_ne, beq_eq_false_iff_ne, bne_eq_false_iff_eq, decide_eq_true_eq, decide_eq_false_iff_not, Bool.not_eq_true', Bool.not_eq_false', Bool.true_eq, Bool.false_eq, ge_iff_le, gt_iff_lt, Bool.not_eq_eq_eq_not, Bool.not_true, Bool.not_false, ne_eq] at hc6
                refine TW.skip <| TW.inBlock <| TW.seq ?_
                refine TW.region ?_
                refine LW.v (r_as) ?_
                refine LW.v (r_as) ?_
                refine LW.v (r_as) ?_
                refine LW.nil ?_
                refine TW.ret (ret3 (by rfl) rT rT rT ?_)
                exact ⟨by first | rfl | (simp [IntKind.bits, WhI.has, hc0, hc1, hc2, hc3, hc4, hc5, hc6]; done) | (exfalso; omega), by first | exact H | exact H.drop | exact H.drop.drop⟩
theorem between_spec (B : Nat) (w0 w : World) (L : List Ck) (n lo hi : Int) (H : Hp B w0 w L) : Calls Tryz.prog 85 #[.int .i64 n, .int .i64 lo, .int .i64 hi] w fun e w' => e = .returned (.bool (WhI.between n lo hi)) ∧ Hp B w0 w' L := by
  refine calls_go Tryz.func85 Tryz.ntmps85 rfl rfl ?_
  refine TW.seq ?_
  refine TW.region ?_
  refine LW.v (r_as) ?_
  refine LW.nil ?_
  refine TW.seq ?_
  refine TW.region ?_
  refine LW.v (r_mv) ?_
  refine LW.v (r_mv) ?_
  refine LW.v (r_bin) ?_
  refine LW.v (r_mv) ?_
  refine LW.gen fun b hb => ?_; cases b
  · have hr0 := hb.symm; have hc0 := hb.symm; try simp only [beq_iff_eq, bne_iff_ne, beq_eq_false_iff_ne, bne_eq_false_iff_eq, decide_eq_true_eq, decide_eq_false_iff_not, Bool.not_eq_true', Bool.not_eq_false', Bool.true_eq, Bool.false_eq, ge_iff_le, gt_iff_lt, Bool.not_eq_eq_eq_not, Bool.not_true, Bool.not_false, ne_eq] at hc0
    refine LW.no (by rfl) (by rfl) (by rfl) (by rfl) (by rfl) (by rfl) ?_
    refine LW.no (by rfl) (by rfl) (by rfl) (by rfl) (by rfl) (by rfl) ?_
    refine LW.no (by rfl) (by rfl) (by rfl) (by rfl) (by rfl) (by rfl) ?_
    refine LW.v (r_pick) ?_
    refine LW.v (r_as) ?_
    refine LW.nil ?_
    refine TW.ret (ret1 (by rfl) rT ?_)
    exact ⟨by first | rfl | (simp [IntKind.bits, WhI.between, hc0]; done) | (exfalso; omega), by first | exact H | exact H.drop | exact H.drop.drop⟩
  · have hr0 := hb.symm; have hc0 := hb.symm; try simp only [beq_iff_eq, bne_iff_ne, beq_eq_false_iff_ne, bne_eq_false_iff_eq, decide_eq_true_eq, decide_eq_false_iff_not, Bool.not_eq_true', Bool.not_eq_false', Bool.true_eq, Bool.false_eq, ge_iff_le, gt_iff_lt, Bool.not_eq_eq_eq_not, Bool.not_true, Bool.not_false, ne_eq] at hc0
    refine LW.yes (by rfl) (by rfl) (by rfl) (by rfl) (by rfl) ?_
    refine LW.v (r_mv) ?_
    refine LW.yes (by rfl) (by rfl) (by rfl) (by rfl) (by rfl) ?_
    refine LW.v (r_mv) ?_
    refine LW.yes (by rfl) (by rfl) (by rfl) (by rfl) (by rfl) ?_
    refine LW.v (r_bin) ?_
    refine LW.v (r_pick) ?_
    refine LW.v (r_as) ?_
    refine LW.nil ?_
    refine TW.ret (ret1 (by rfl) rT ?_)
    exact ⟨by first | rfl | (simp [IntKind.bits, WhI.between, hc0]; done) | (exfalso; omega), by first | exact H | exact H.drop | exact H.drop.drop⟩
theorem register_spec (B : Nat) (w0 w : World) (L : List Ck) (b : Bool) (n : Int) (H : Hp B w0 w L) : Calls Tryz.prog 54 #[.bool b, .int .i64 n] w fun e w' => e = .returned (.bool (WhI.register b n)) ∧ Hp B w0 w' L := by
  refine calls_go Tryz.func54 Tryz.ntmps54 rfl rfl ?_
  refine TW.seq ?_
  refine TW.region ?_
  refine LW.v (r_as) ?_
  refine LW.nil ?_
  refine TW.seq ?_
  refine TW.region ?_
  refine LW.v (r_mv) ?_
  refine LW.v (r_mv) ?_
  refine LW.gen fun b hb => ?_; cases b
  · have hr0 := hb.symm; have hc0 := hb.symm; try simp only [beq_iff_eq, bne_iff_ne, beq_eq_false_iff_ne, bne_eq_false_iff_eq, decide_eq_true_eq, decide_eq_false_iff_not, Bool.not_eq_true', Bool.not_eq_false', Bool.true_eq, Bool.false_eq, ge_iff_le, gt_iff_lt, Bool.not_eq_eq_eq_not, Bool.not_true, Bool.not_false, ne_eq] at hc0
    refine LW.no (by rfl) (by rfl) (by rfl) (by rfl) (by rfl) (by rfl) ?_
    refine LW.no (by rfl) (by rfl) (by rfl) (by rfl) (by rfl) (by rfl) ?_
    refine LW.v (r_pick) ?_
    refine LW.v (r_mv) ?_
    refine LW.yes (by rfl) (by rfl) (by rfl) (by rfl) (by rfl) ?_
    refine LW.v (r_mv) ?_
    refine LW.yes (by rfl) (by rfl) (by rfl) (by rfl) (by rfl) ?_
    refine LW.v (r_bin) ?_
    refine LW.v (r_pick) ?_
    refine LW.v (r_as) ?_
    refine LW.nil ?_
    refine TW.ret (ret1 (by rfl) rT ?_)
    exact ⟨by first | rfl | (simp [IntKind.bits, WhI.register, hc0]; done) | (exfalso; omega), by first | exact H | exact H.drop | exact H.drop.drop⟩
  · have hr0 := hb.symm; have hc0 := hb.symm; try simp only [beq_iff_eq, bne_iff_ne, beq_eq_false_iff_ne, bne_eq_false_iff_eq, decide_eq_true_eq, decide_eq_false_iff_not, Bool.not_eq_true', Bool.not_eq_false', Bool.true_eq, Bool.false_eq, ge_iff_le, gt_iff_lt, Bool.not_eq_eq_eq_not, Bool.not_true, Bool.not_false, ne_eq] at hc0
    refine LW.yes (by rfl) (by rfl) (by rfl) (by rfl) (by rfl) ?_
    refine LW.v (r_mv) ?_
    refine LW.yes (by rfl) (by rfl) (by rfl) (by rfl) (by rfl) ?_
    refine LW.c r_c3 ((between_spec _ _ _ _ _ _ _ H).mono ?_)
    rintro _ w ⟨rfl, H⟩
    refine ⟨_, rfl, ?_⟩
    refine LW.v (r_pick) ?_
    refine LW.v (r_mv) ?_
    refine LW.gen fun b hb => ?_; cases b
    · have hr1 := hb.symm; have hc1 := hb.symm; try simp only [beq_iff_eq, bne_iff_ne, beq_eq_false_iff_ne, bne_eq_false_iff_eq, decide_eq_true_eq, decide_eq_false_iff_not, Bool.not_eq_true', Bool.not_eq_false', Bool.true_eq, Bool.false_eq, ge_iff_le, gt_iff_lt, Bool.not_eq_eq_eq_not, Bool.not_true, Bool.not_false, ne_eq] at hc1
      refine LW.yes (by rfl) (by rfl) (by rfl) (by rfl) (by rfl) ?_
      refine LW.v (r_mv) ?_
      refine LW.yes (by rfl) (by rfl) (by rfl) (by rfl) (by rfl) ?_
      refine LW.v (r_bin) ?_
      refine LW.v (r_pick) ?_
      refine LW.v (r_as) ?_
      refine LW.nil ?_
      refine TW.ret (ret1 (by rfl) rT ?_)
      exact ⟨by first | rfl | (simp [IntKind.bits, WhI.register, hc0, hc1]; done) | (exfalso; omega), by first | exact H | exact H.drop | exact H.drop.drop⟩
    · have hr1 := hb.symm; have hc1 := hb.symm; try simp only [beq_iff_eq, bne_iff_ne, beq_eq_false_iff_ne, bne_eq_false_iff_eq, decide_eq_true_eq, decide_eq_false_iff_not, Bool.not_eq_true', Bool.not_eq_false', Bool.true_eq, Bool.false_eq, ge_iff_le, gt_iff_lt, Bool.not_eq_eq_eq_not, Bool.not_true, Bool.not_false, ne_eq] at hc1
      refine LW.no (by rfl) (by rfl) (by rfl) (by rfl) (by rfl) (by rfl) ?_
      refine LW.no (by rfl) (by rfl) (by rfl) (by rfl) (by rfl) (by rfl) ?_
      refine LW.v (r_pick) ?_
      refine LW.v (r_as) ?_
      refine LW.nil ?_
      refine TW.ret (ret1 (by rfl) rT ?_)
      exact ⟨by first | rfl | (simp [IntKind.bits, WhI.register, hc0, hc1]; done) | (exfalso; omega), by first | exact H | exact H.drop | exact H.drop.drop⟩
theorem number_is_spec (B : Nat) (w0 w : World) (L : List Ck) (f n : Int) (H : Hp B w0 w L) : Calls Tryz.prog 55 #[.int .u8 f, .int .i64 n] w fun e w' => e = .returned (.bool (WhI.number f n)) ∧ Hp B w0 w' L := by
  refine calls_go Tryz.func55 Tryz.ntmps55 rfl rfl ?_
  refine TW.seq ?_
  refine TW.region ?_
  refine LW.v (r_as) ?_
  refine LW.nil ?_
  refine TW.seq <| TW.seq ?_
  refine TW.region ?_
  refine LW.v (r_mv) ?_
  refine LW.nil ?_
  refine TW.block <| TW.seq ?_
  refine TW.region ?_
  refine LW.v (r_bin) ?_
  refine LW.v (r_as) ?_
  refine LW.nil ?_
  refine TW.c rfl (fun hb => ?_) (fun hb => ?_)
  · have hr0 := hb; have hc0 := hb; try simp only [beq_iff_eq, bne_iff_ne, beq_eq_false_iff_ne, bne_eq_false_iff_eq, decide_eq_true_eq, decide_eq_false_iff_not, Bool.not_eq_true', Bool.not_eq_false', Bool.true_eq, Bool.false_eq, ge_iff_le, gt_iff_lt, Bool.not_eq_eq_eq_not, Bool.not_true, Bool.not_false, ne_eq] at hc0
    refine TW.seq ?_
    refine TW.region ?_
    refine LW.v (r_mv) ?_
    refine LW.c r_c3 ((between_spec _ _ _ _ _ _ _ H).mono ?_)
    rintro _ w ⟨rfl, H⟩
    refine ⟨_, rfl, ?_⟩
    refine LW.v (r_as) ?_
    refine LW.nil ?_
    refine TW.ret (ret1 (by rfl) rT ?_)
    exact ⟨by first | rfl | (simp [IntKind.bits, WhI.number, hc0]; done) | (exfalso; omega), by first | exact H | exact H.drop | exact H.drop.drop⟩
  · have hr0 := hb; have hc0 := hb; try simp only [beq_iff_eq, bne_iff_ne, beq_eq_false_iff_ne, bne_eq_false_iff_eq, decide_eq_true_eq, decide_eq_false_iff_not, Bool.not_eq_true', Bool.not_eq_false', Bool.true_eq, Bool.false_eq, ge_iff_le, gt_iff_lt, Bool.not_eq_eq_eq_not, Bool.not_true, Bool.not_false, ne_eq] at hc0
    refine TW.seq ?_
    refine TW.region ?_
    refine LW.v (r_bin) ?_
    refine LW.v (r_as) ?_
    refine LW.nil ?_
    refine TW.c rfl (fun hb => ?_) (fun hb => ?_)
    · have hr1 := hb; have hc1 := hb; try simp only [beq_iff_eq, bne_iff_ne, beq_eq_false_iff_ne, bne_eq_false_iff_eq, decide_eq_true_eq, decide_eq_false_iff_not, Bool.not_eq_true', Bool.not_eq_false', Bool.true_eq, Bool.false_eq, ge_iff_le, gt_iff_lt, Bool.not_eq_eq_eq_not, Bool.not_true, Bool.not_false, ne_eq] at hc1
      refine TW.seq ?_
      refine TW.region ?_
      refine LW.v (r_mv) ?_
      refine LW.c r_c3 ((between_spec _ _ _ _ _ _ _ H).mono ?_)
      rintro _ w ⟨rfl, H⟩
      refine ⟨_, rfl, ?_⟩
      refine LW.v (r_mv) ?_
      refine LW.gen fun b hb => ?_; cases b
      · have hr2 := hb.symm; have hc2 := hb.symm; try simp only [beq_iff_eq, bne_iff_ne, beq_eq_false_iff_ne, bne_eq_false_iff_eq, decide_eq_true_eq, decide_eq_false_iff_not, Bool.not_eq_true', Bool.not_eq_false', Bool.true_eq, Bool.false_eq, ge_iff_le, gt_iff_lt, Bool.not_eq_eq_eq_not, Bool.not_true, Bool.not_false, ne_eq] at hc2
        refine LW.no (by rfl) (by rfl) (by rfl) (by rfl) (by rfl) (by rfl) ?_
        refine LW.no (by rfl) (by rfl) (by rfl) (by rfl) (by rfl) (by rfl) ?_
        refine LW.no (by rfl) (by rfl) (by rfl) (by rfl) (by rfl) (by rfl) ?_
        refine LW.v (r_pick) ?_
        refine LW.v (r_as) ?_
        refine LW.nil ?_
        refine TW.ret (ret1 (by rfl) rT ?_)
        exact ⟨by first | rfl | (simp [IntKind.bits, WhI.number, hc0, hc1, hc2]; done) | (exfalso; omega), by first | exact H | exact H.drop | exact H.drop.drop⟩
      · have hr2 := hb.symm; have hc2 := hb.symm; try simp only [beq_iff_eq, bne_iff_ne, beq_eq_false_iff_ne, bne_eq_false_iff_eq, decide_eq_true_eq, decide_eq_false_iff_not, Bool.not_eq_true', Bool.not_eq_false', Bool.true_eq, Bool.false_eq, ge_iff_le, gt_iff_lt, Bool.not_eq_eq_eq_not, Bool.not_true, Bool.not_false, ne_eq] at hc2
        refine LW.yes (by rfl) (by rfl) (by rfl) (by rfl) (by rfl) ?_
        refine LW.v (r_mv) ?_
        refine LW.yes (by rfl) (by rfl) (by rfl) (by rfl) (by rfl) ?_
        refine LW.v (r_rem (hb := by omega)) ?_
        refine LW.yes (by rfl) (by rfl) (by rfl) (by rfl) (by rfl) ?_
        refine LW.v (r_bin) ?_
        refine LW.v (r_pick) ?_
        refine LW.v (r_as) ?_
        refine LW.nil ?_
        refine TW.ret (ret1 (by rfl) rT ?_)
        exact ⟨by first | rfl | (simp [IntKind.bits, WhI.number, hc0, hc1, hc2]; done) | (exfalso; omega), by first | exact H | exact H.drop | exact H.drop.drop⟩
    · have hr1 := hb; have hc1 := hb; try simp only [beq_iff_eq, bne_iff_ne, beq_eq_false_iff_ne, bne_eq_false_iff_eq, decide_eq_true_eq, decide_eq_false_iff_not, Bool.not_eq_true', Bool.not_eq_false', Bool.true_eq, Bool.false_eq, ge_iff_le, gt_iff_lt, Bool.not_eq_eq_eq_not, Bool.not_true, Bool.not_false, ne_eq] at hc1
      refine TW.seq <| TW.seq ?_
      refine TW.region ?_
      refine LW.v (r_bin) ?_
      refine LW.v (r_as) ?_
      refine LW.nil ?_
      refine TW.c rfl (fun hb => ?_) (fun hb => ?_)
      · have hr2 := hb; have hc2 := hb; try simp only [beq_iff_eq, bne_iff_ne, beq_eq_false_iff_ne, bne_eq_false_iff_eq, decide_eq_true_eq, decide_eq_false_iff_not, Bool.not_eq_true', Bool.not_eq_false', Bool.true_eq, Bool.false_eq, ge_iff_le, gt_iff_lt, Bool.not_eq_eq_eq_not, Bool.not_true, Bool.not_false, ne_eq] at hc2
        refine TW.skip ?_
        refine TW.c rfl (fun _ => ?_) (fun h => by first | (cases h; done) | exact absurd h (by simp [hc0, hc1, hc2]))
        refine TW.seq ?_
        refine TW.region ?_
        refine LW.v (r_mv) ?_
        refine LW.c r_c3 ((between_spec _ _ _ _ _ _ _ H).mono ?_)
        rintro _ w ⟨rfl, H⟩
        refine ⟨_, rfl, ?_⟩
        refine LW.v (r_as) ?_
        refine LW.nil ?_
        refine TW.ret (ret1 (by rfl) rT ?_)
        exact ⟨by first | rfl | (simp [IntKind.bits, WhI.number, hc0, hc1, hc2]; done) | (exfalso; omega), by first | exact H | exact H.drop | exact H.drop.drop⟩
      · have hr2 := hb; have hc2 := hb; try simp only [beq_iff_eq, bne_iff_ne, beq_eq_false_iff_ne, bne_eq_false_iff_eq, decide_eq_true_eq, decide_eq_false_iff_not, Bool.not_eq_true', Bool.not_eq_false', Bool.true_eq, Bool.false_eq, ge_iff_le, gt_iff_lt, Bool.not_eq_eq_eq_not, Bool.not_true, Bool.not_false, ne_eq] at hc2
        refine TW.region ?_
        refine LW.v (r_bin) ?_
        refine LW.v (r_as) ?_
        refine LW.nil ?_
        refine TW.c rfl (fun hb => ?_) (fun hb => ?_)
        · have hr3 := hb; have hc3 := hb; try simp only [beq_iff_eq, bne_iff_ne, beq_eq_false_iff_ne, bne_eq_false_iff_eq, decide_eq_true_eq, decide_eq_false_iff_not, Bool.not_eq_true', Bool.not_eq_false', Bool.true_eq, Bool.false_eq, ge_iff_le, gt_iff_lt, Bool.not_eq_eq_eq_not, Bool.not_true, Bool.not_false, ne_eq] at hc3
          refine TW.seq ?_
          refine TW.region ?_
          refine LW.v (r_mv) ?_
          refine LW.c r_c3 ((between_spec _ _ _ _ _ _ _ H).mono ?_)
          rintro _ w ⟨rfl, H⟩
          refine ⟨_, rfl, ?_⟩
          refine LW.v (r_as) ?_
          refine LW.nil ?_
          refine TW.ret (ret1 (by rfl) rT ?_)
          exact ⟨by first | rfl | (simp [IntKind.bits, WhI.number, hc0, hc1, hc2, hc3]; done) | (exfalso; omega), by first | exact H | exact H.drop | exact H.drop.drop⟩
        · have hr3 := hb; have hc3 := hb; try simp only [beq_iff_eq, bne_iff_ne, beq_eq_false_iff_ne, bne_eq_false_iff_eq, decide_eq_true_eq, decide_eq_false_iff_not, Bool.not_eq_true', Bool.not_eq_false', Bool.true_eq, Bool.false_eq, ge_iff_le, gt_iff_lt, Bool.not_eq_eq_eq_not, Bool.not_true, Bool.not_false, ne_eq] at hc3
          refine TW.seq ?_
          refine TW.region ?_
          refine LW.v (r_bin) ?_
          refine LW.v (r_as) ?_
          refine LW.nil ?_
          refine TW.c rfl (fun hb => ?_) (fun hb => ?_)
          · have hr4 := hb; have hc4 := hb; try simp only [beq_iff_eq, bne_iff_ne, beq_eq_false_iff_ne, bne_eq_false_iff_eq, decide_eq_true_eq, decide_eq_false_iff_not, Bool.not_eq_true', Bool.not_eq_false', Bool.true_eq, Bool.false_eq, ge_iff_le, gt_iff_lt, Bool.not_eq_eq_eq_not, Bool.not_true, Bool.not_false, ne_eq] at hc4
            refine TW.seq ?_
            refine TW.region ?_
            refine LW.v (r_mv) ?_
            refine LW.c r_c3 ((between_spec _ _ _ _ _ _ _ H).mono ?_)
            rintro _ w ⟨rfl, H⟩
            refine ⟨_, rfl, ?_⟩
            refine LW.v (r_mv) ?_
            refine LW.gen fun b hb => ?_; cases b
            · have hr5 := hb.symm; have hc5 := hb.symm; try simp only [beq_iff_eq, bne_iff_ne, beq_eq_false_iff_ne, bne_eq_false_iff_eq, decide_eq_true_eq, decide_eq_false_iff_not, Bool.not_eq_true', Bool.not_eq_false', Bool.true_eq, Bool.false_eq, ge_iff_le, gt_iff_lt, Bool.not_eq_eq_eq_not, Bool.not_true, Bool.not_false, ne_eq] at hc5
              refine LW.no (by rfl) (by rfl) (by rfl) (by rfl) (by rfl) (by rfl) ?_
              refine LW.no (by rfl) (by rfl) (by rfl) (by rfl) (by rfl) (by rfl) ?_
              refine LW.no (by rfl) (by rfl) (by rfl) (by rfl) (by rfl) (by rfl) ?_
              refine LW.v (r_pick) ?_
              refine LW.v (r_as) ?_
              refine LW.nil ?_
              refine TW.ret (ret1 (by rfl) rT ?_)
              exact ⟨by first | rfl | (simp [IntKind.bits, WhI.number, hc0, hc1, hc2, hc3, hc4, hc5]; done) | (exfalso; omega), by first | exact H | exact H.drop | exact H.drop.drop⟩
            · have hr5 := hb.symm; have hc5 := hb.symm; try simp only [beq_iff_eq, bne_iff_ne, beq_eq_false_iff_ne, bne_eq_false_iff_eq, decide_eq_true_eq, decide_eq_false_iff_not, Bool.not_eq_true', Bool.not_eq_false', Bool.true_eq, Bool.false_eq, ge_iff_le, gt_iff_lt, Bool.not_eq_eq_eq_not, Bool.not_true, Bool.not_false, ne_eq] at hc5
              refine LW.yes (by rfl) (by rfl) (by rfl) (by rfl) (by rfl) ?_
              refine LW.v (r_mv) ?_
              refine LW.yes (by rfl) (by rfl) (by rfl) (by rfl) (by rfl) ?_
              refine LW.v (r_rem (hb := by omega)) ?_
              refine LW.yes (by rfl) (by rfl) (by rfl) (by rfl) (by rfl) ?_
              refine LW.v (r_bin) ?_
              refine LW.v (r_pick) ?_
              refine LW.v (r_as) ?_
              refine LW.nil ?_
              refine TW.ret (ret1 (by rfl) rT ?_)
              exact ⟨by first | rfl | (simp [IntKind.bits, WhI.number, hc0, hc1, hc2, hc3, hc4, hc5]; done) | (exfalso; omega), by first | exact H | exact H.drop | exact H.drop.drop⟩
          · have hr4 := hb; have hc4 := hb; try simp only [beq_iff_eq, bne_iff_ne, beq_eq_false_iff_ne, bne_eq_false_iff_eq, decide_eq_true_eq, decide_eq_false_iff_not, Bool.not_eq_true', Bool.not_eq_false', Bool.true_eq, Bool.false_eq, ge_iff_le, gt_iff_lt, Bool.not_eq_eq_eq_not, Bool.not_true, Bool.not_false, ne_eq] at hc4
            refine TW.seq ?_
            refine TW.region ?_
            refine LW.v (r_bin) ?_
            refine LW.v (r_as) ?_
            refine LW.nil ?_
            refine TW.c rfl (fun hb => ?_) (fun hb => ?_)
            · have hr5 := hb; have hc5 := hb; try simp only [beq_iff_eq, bne_iff_ne, beq_eq_false_iff_ne, bne_eq_false_iff_eq, decide_eq_true_eq, decide_eq_false_iff_not, Bool.not_eq_true', Bool.not_eq_false', Bool.true_eq, Bool.false_eq, ge_iff_le, gt_iff_lt, Bool.not_eq_eq_eq_not, Bool.not_true, Bool.not_false, ne_eq] at hc5
              refine TW.seq ?_
              refine TW.region ?_
              refine LW.v (r_mv) ?_
              refine LW.c r_c3 ((between_spec _ _ _ _ _ _ _ H).mono ?_)
              rintro _ w ⟨rfl, H⟩
              refine ⟨_, rfl, ?_⟩
              refine LW.v (r_as) ?_
              refine LW.nil ?_
              refine TW.ret (ret1 (by rfl) rT ?_)
              exact ⟨by first | rfl | (simp [IntKind.bits, WhI.number, hc0, hc1, hc2, hc3, hc4, hc5]; done) | (exfalso; omega), by first | exact H | exact H.drop | exact H.drop.drop⟩
            · have hr5 := hb; have hc5 := hb; try simp only [beq_iff_eq, bne_iff_ne, beq_eq_false_iff_ne, bne_eq_false_iff_eq, decide_eq_true_eq, decide_eq_false_iff_not, Bool.not_eq_true', Bool.not_eq_false', Bool.true_eq, Bool.false_eq, ge_iff_le, gt_iff_lt, Bool.not_eq_eq_eq_not, Bool.not_true, Bool.not_false, ne_eq] at hc5
              refine TW.skip <| TW.inBlock <| TW.seq ?_
              refine TW.region ?_
              refine LW.v (r_mv) ?_
              refine LW.v (r_bin) ?_
              refine LW.v (r_as) ?_
              refine LW.nil ?_
              refine TW.ret (ret1 (by rfl) rT ?_)
              exact ⟨by first | rfl | (simp [IntKind.bits, WhI.number, hc0, hc1, hc2, hc3, hc4, hc5]; done) | (exfalso; omega), by first | exact H | exact H.drop | exact H.drop.drop⟩
theorem iplain_spec (B : Nat) (w0 w : World) (L : List Ck) (op : Int) (H : Hp B w0 w L) : Calls Tryz.prog 23 #[.int .i64 op] w fun e w' => e = .returned (.tuple #[.int .i64 (WhI.plain op).1, .bool (WhI.plain op).2]) ∧ Hp B w0 w' L := by
  refine calls_go Tryz.func23 Tryz.ntmps23 rfl rfl ?_
  refine TW.seq ?_
  refine TW.region ?_
  refine LW.v (r_as) ?_
  refine LW.v (r_as) ?_
  refine LW.nil ?_
  refine TW.seq <| TW.seq ?_
  refine TW.region ?_
  refine LW.v (r_mv) ?_
  refine LW.nil ?_
  refine TW.block <| TW.seq ?_
  refine TW.region ?_
  refine LW.v (r_bin) ?_
  refine LW.v (r_as) ?_
  refine LW.nil ?_
  refine TW.c rfl (fun hb => ?_) (fun hb => ?_)
  · have hr0 := hb; have hc0 := hb; try simp only [beq_iff_eq, bne_iff_ne, beq_eq_false_iff_ne, bne_eq_false_iff_eq, decide_eq_true_eq, decide_eq_false_iff_not, Bool.not_eq_true', Bool.not_eq_false', Bool.true_eq, Bool.false_eq, ge_iff_le, gt_iff_lt, Bool.not_eq_eq_eq_not, Bool.not_true, Bool.not_false, ne_eq] at hc0
    refine TW.seq ?_
    refine TW.region ?_
    refine LW.v (r_as) ?_
    refine LW.v (r_as) ?_
    refine LW.nil ?_
    refine TW.ret (ret2 (by rfl) rT rT ?_)
    exact ⟨by first | rfl | (simp [IntKind.bits, WhI.plain, hc0]; done) | (exfalso; omega), by first | exact H | exact H.drop | exact H.drop.drop⟩
  · have hr0 := hb; have hc0 := hb; try simp only [beq_iff_eq, bne_iff_ne, beq_eq_false_iff_ne, bne_eq_false_iff_eq, decide_eq_true_eq, decide_eq_false_iff_not, Bool.not_eq_true', Bool.not_eq_false', Bool.true_eq, Bool.false_eq, ge_iff_le, gt_iff_lt, Bool.not_eq_eq_eq_not, Bool.not_true, Bool.not_false, ne_eq] at hc0
    refine TW.seq ?_
    refine TW.region ?_
    refine LW.v (r_bin) ?_
    refine LW.v (r_as) ?_
    refine LW.nil ?_
    refine TW.c rfl (fun hb => ?_) (fun hb => ?_)
    · have hr1 := hb; have hc1 := hb; try simp only [beq_iff_eq, bne_iff_ne, beq_eq_false_iff_ne, bne_eq_false_iff_eq, decide_eq_true_eq, decide_eq_false_iff_not, Bool.not_eq_true', Bool.not_eq_false', Bool.true_eq, Bool.false_eq, ge_iff_le, gt_iff_lt, Bool.not_eq_eq_eq_not, Bool.not_true, Bool.not_false, ne_eq] at hc1
      refine TW.seq ?_
      refine TW.region ?_
      refine LW.v (r_as) ?_
      refine LW.v (r_as) ?_
      refine LW.nil ?_
      refine TW.ret (ret2 (by rfl) rT rT ?_)
      exact ⟨by first | rfl | (simp [IntKind.bits, WhI.plain, hc0, hc1]; done) | (exfalso; omega), by first | exact H | exact H.drop | exact H.drop.drop⟩
    · have hr1 := hb; have hc1 := hb; try simp only [beq_iff_eq, bne_iff_ne, beq_eq_false_iff_ne, bne_eq_false_iff_eq, decide_eq_true_eq, decide_eq_false_iff_not, Bool.not_eq_true', Bool.not_eq_false', Bool.true_eq, Bool.false_eq, ge_iff_le, gt_iff_lt, Bool.not_eq_eq_eq_not, Bool.not_true, Bool.not_false, ne_eq] at hc1
      refine TW.seq ?_
      refine TW.region ?_
      refine LW.v (r_bin) ?_
      refine LW.v (r_as) ?_
      refine LW.nil ?_
      refine TW.c rfl (fun hb => ?_) (fun hb => ?_)
      · have hr2 := hb; have hc2 := hb; try simp only [beq_iff_eq, bne_iff_ne, beq_eq_false_iff_ne, bne_eq_false_iff_eq, decide_eq_true_eq, decide_eq_false_iff_not, Bool.not_eq_true', Bool.not_eq_false', Bool.true_eq, Bool.false_eq, ge_iff_le, gt_iff_lt, Bool.not_eq_eq_eq_not, Bool.not_true, Bool.not_false, ne_eq] at hc2
        refine TW.seq ?_
        refine TW.region ?_
        refine LW.v (r_as) ?_
        refine LW.v (r_as) ?_
        refine LW.nil ?_
        refine TW.ret (ret2 (by rfl) rT rT ?_)
        exact ⟨by first | rfl | (simp [IntKind.bits, WhI.plain, hc0, hc1, hc2]; done) | (exfalso; omega), by first | exact H | exact H.drop | exact H.drop.drop⟩
      · have hr2 := hb; have hc2 := hb; try simp only [beq_iff_eq, bne_iff_ne, beq_eq_false_iff_ne, bne_eq_false_iff_eq, decide_eq_true_eq, decide_eq_false_iff_not, Bool.not_eq_true', Bool.not_eq_false', Bool.true_eq, Bool.false_eq, ge_iff_le, gt_iff_lt, Bool.not_eq_eq_eq_not, Bool.not_true, Bool.not_false, ne_eq] at hc2
        refine TW.seq ?_
        refine TW.region ?_
        refine LW.v (r_bin) ?_
        refine LW.v (r_as) ?_
        refine LW.nil ?_
        refine TW.c rfl (fun hb => ?_) (fun hb => ?_)
        · have hr3 := hb; have hc3 := hb; try simp only [beq_iff_eq, bne_iff_ne, beq_eq_false_iff_ne, bne_eq_false_iff_eq, decide_eq_true_eq, decide_eq_false_iff_not, Bool.not_eq_true', Bool.not_eq_false', Bool.true_eq, Bool.false_eq, ge_iff_le, gt_iff_lt, Bool.not_eq_eq_eq_not, Bool.not_true, Bool.not_false, ne_eq] at hc3
          refine TW.seq ?_
          refine TW.region ?_
          refine LW.v (r_as) ?_
          refine LW.v (r_as) ?_
          refine LW.nil ?_
          refine TW.ret (ret2 (by rfl) rT rT ?_)
          exact ⟨by first | rfl | (simp [IntKind.bits, WhI.plain, hc0, hc1, hc2, hc3]; done) | (exfalso; omega), by first | exact H | exact H.drop | exact H.drop.drop⟩
        · have hr3 := hb; have hc3 := hb; try simp only [beq_iff_eq, bne_iff_ne, beq_eq_false_iff_ne, bne_eq_false_iff_eq, decide_eq_true_eq, decide_eq_false_iff_not, Bool.not_eq_true', Bool.not_eq_false', Bool.true_eq, Bool.false_eq, ge_iff_le, gt_iff_lt, Bool.not_eq_eq_eq_not, Bool.not_true, Bool.not_false, ne_eq] at hc3
          refine TW.seq ?_
          refine TW.region ?_
          refine LW.v (r_bin) ?_
          refine LW.v (r_as) ?_
          refine LW.nil ?_
          refine TW.c rfl (fun hb => ?_) (fun hb => ?_)
          · have hr4 := hb; have hc4 := hb; try simp only [beq_iff_eq, bne_iff_ne, beq_eq_false_iff_ne, bne_eq_false_iff_eq, decide_eq_true_eq, decide_eq_false_iff_not, Bool.not_eq_true', Bool.not_eq_false', Bool.true_eq, Bool.false_eq, ge_iff_le, gt_iff_lt, Bool.not_eq_eq_eq_not, Bool.not_true, Bool.not_false, ne_eq] at hc4
            refine TW.seq ?_
            refine TW.region ?_
            refine LW.v (r_as) ?_
            refine LW.v (r_as) ?_
            refine LW.nil ?_
            refine TW.ret (ret2 (by rfl) rT rT ?_)
            exact ⟨by first | rfl | (simp [IntKind.bits, WhI.plain, hc0, hc1, hc2, hc3, hc4]; done) | (exfalso; omega), by first | exact H | exact H.drop | exact H.drop.drop⟩
          · have hr4 := hb; have hc4 := hb; try simp only [beq_iff_eq, bne_iff_ne, beq_eq_false_iff_ne, bne_eq_false_iff_eq, decide_eq_true_eq, decide_eq_false_iff_not, Bool.not_eq_true', Bool.not_eq_false', Bool.true_eq, Bool.false_eq, ge_iff_le, gt_iff_lt, Bool.not_eq_eq_eq_not, Bool.not_true, Bool.not_false, ne_eq] at hc4
            refine TW.seq ?_
            refine TW.region ?_
            refine LW.v (r_bin) ?_
            refine LW.v (r_as) ?_
            refine LW.nil ?_
            refine TW.c rfl (fun hb => ?_) (fun hb => ?_)
            · have hr5 := hb; have hc5 := hb; try simp only [beq_iff_eq, bne_iff_ne, beq_eq_false_iff_ne, bne_eq_false_iff_eq, decide_eq_true_eq, decide_eq_false_iff_not, Bool.not_eq_true', Bool.not_eq_false', Bool.true_eq, Bool.false_eq, ge_iff_le, gt_iff_lt, Bool.not_eq_eq_eq_not, Bool.not_true, Bool.not_false, ne_eq] at hc5
              refine TW.seq ?_
              refine TW.region ?_
              refine LW.v (r_as) ?_
              refine LW.v (r_as) ?_
              refine LW.nil ?_
              refine TW.ret (ret2 (by rfl) rT rT ?_)
              exact ⟨by first | rfl | (simp [IntKind.bits, WhI.plain, hc0, hc1, hc2, hc3, hc4, hc5]; done) | (exfalso; omega), by first | exact H | exact H.drop | exact H.drop.drop⟩
            · have hr5 := hb; have hc5 := hb; try simp only [beq_iff_eq, bne_iff_ne, beq_eq_false_iff_ne, bne_eq_false_iff_eq, decide_eq_true_eq, decide_eq_false_iff_not, Bool.not_eq_true', Bool.not_eq_false', Bool.true_eq, Bool.false_eq, ge_iff_le, gt_iff_lt, Bool.not_eq_eq_eq_not, Bool.not_true, Bool.not_false, ne_eq] at hc5
              refine TW.seq ?_
              refine TW.region ?_
              refine LW.v (r_bin) ?_
              refine LW.v (r_as) ?_
              refine LW.nil ?_
              refine TW.c rfl (fun hb => ?_) (fun hb => ?_)
              · have hr6 := hb; have hc6 := hb; try simp only [beq_iff_eq, bne_iff_ne, beq_eq_false_iff_ne, bne_eq_false_iff_eq, decide_eq_true_eq, decide_eq_false_iff_not, Bool.not_eq_true', Bool.not_eq_false', Bool.true_eq, Bool.false_eq, ge_iff_le, gt_iff_lt, Bool.not_eq_eq_eq_not, Bool.not_true, Bool.not_false, ne_eq] at hc6
                refine TW.seq ?_
                refine TW.region ?_
                refine LW.v (r_as) ?_
                refine LW.v (r_as) ?_
                refine LW.nil ?_
                refine TW.ret (ret2 (by rfl) rT rT ?_)
                exact ⟨by first | rfl | (simp [IntKind.bits, WhI.plain, hc0, hc1, hc2, hc3, hc4, hc5, hc6]; done) | (exfalso; omega), by first | exact H | exact H.drop | exact H.drop.drop⟩
              · have hr6 := hb; have hc6 := hb; try simp only [beq_iff_eq, bne_iff_ne, beq_eq_false_iff_ne, bne_eq_false_iff_eq, decide_eq_true_eq, decide_eq_false_iff_not, Bool.not_eq_true', Bool.not_eq_false', Bool.true_eq, Bool.false_eq, ge_iff_le, gt_iff_lt, Bool.not_eq_eq_eq_not, Bool.not_true, Bool.not_false, ne_eq] at hc6
                refine TW.seq ?_
                refine TW.region ?_
                refine LW.v (r_bin) ?_
                refine LW.v (r_as) ?_
                refine LW.nil ?_
                refine TW.c rfl (fun hb => ?_) (fun hb => ?_)
                · have hr7 := hb; have hc7 := hb; try simp only [beq_iff_eq, bne_iff_ne, beq_eq_false_iff_ne, bne_eq_false_iff_eq, decide_eq_true_eq, decide_eq_false_iff_not, Bool.not_eq_true', Bool.not_eq_false', Bool.true_eq, Bool.false_eq, ge_iff_le, gt_iff_lt, Bool.not_eq_eq_eq_not, Bool.not_true, Bool.not_false, ne_eq] at hc7
                  refine TW.seq ?_
                  refine TW.region ?_
                  refine LW.v (r_as) ?_
                  refine LW.v (r_as) ?_
                  refine LW.nil ?_
                  refine TW.ret (ret2 (by rfl) rT rT ?_)
                  exact ⟨by first | rfl | (simp [IntKind.bits, WhI.plain, hc0, hc1, hc2, hc3, hc4, hc5, hc6, hc7]; done) | (exfalso; omega), by first | exact H | exact H.drop | exact H.drop.drop⟩
                · have hr7 := hb; have hc7 := hb; try simp only [beq_iff_eq, bne_iff_ne, beq_eq_false_iff_ne, bne_eq_false_iff_eq, decide_eq_true_eq, decide_eq_false_iff_not, Bool.not_eq_true', Bool.not_eq_false', Bool.true_eq, Bool.false_eq, ge_iff_le, gt_iff_lt, Bool.not_eq_eq_eq_not, Bool.not_true, Bool.not_false, ne_eq] at hc7
                  refine TW.seq ?_
                  refine TW.region ?_
                  refine LW.v (r_bin) ?_
                  refine LW.v (r_as) ?_
                  refine LW.nil ?_
                  refine TW.c rfl (fun hb => ?_) (fun hb => ?_)
                  · have hr8 := hb; have hc8 := hb; try simp only [beq_iff_eq, bne_iff_ne, beq_eq_false_iff_ne, bne_eq_false_iff_eq, decide_eq_true_eq, decide_eq_false_iff_not, Bool.not_eq_true', Bool.not_eq_false', Bool.true_eq, Bool.false_eq, ge_iff_le, gt_iff_lt, Bool.not_eq_eq_eq_not, Bool.not_true, Bool.not_false, ne_eq] at hc8
                    refine TW.seq ?_
                    refine TW.region ?_
                    refine LW.v (r_as) ?_
                    refine LW.v (r_as) ?_
                    refine LW.nil ?_
                    refine TW.ret (ret2 (by rfl) rT rT ?_)
                    exact ⟨by first | rfl | (simp [IntKind.bits, WhI.plain, hc0, hc1, hc2, hc3, hc4, hc5, hc6, hc7, hc8]; done) | (exfalso; omega), by first | exact H | exact H.drop | exact H.drop.drop⟩
                  · have hr8 := hb; have hc8 := hb; try simp only [beq_iff_eq, bne_iff_ne, beq_eq_false_iff_ne, bne_eq_false_iff_eq, decide_eq_true_eq, decide_eq_false_iff_not, Bool.not_eq_true', Bool.not_eq_false', Bool.true_eq, Bool.false_eq, ge_iff_le, gt_iff_lt, Bool.not_eq_eq_eq_not, Bool.not_true, Bool.not_false, ne_eq] at hc8
                    refine TW.skip <| TW.inBlock <| TW.seq ?_
                    refine TW.region ?_
                    refine LW.v (r_as) ?_
                    refine LW.v (r_as) ?_
                    refine LW.nil ?_
                    refine TW.ret (ret2 (by rfl) rT rT ?_)
                    exact ⟨by first | rfl | (simp [IntKind.bits, WhI.plain, hc0, hc1, hc2, hc3, hc4, hc5, hc6, hc7, hc8]; done) | (exfalso; omega), by first | exact H | exact H.drop | exact H.drop.drop⟩
theorem right_spec (B : Nat) (w0 w : World) (L : List Ck) (x : X) (H : Hp B w0 w L) : Calls Tryz.prog 22 #[x.val] w fun e w' => e = .returned (.bool (WhI.right x)) ∧ Hp B w0 w' L := by
  refine calls_go Tryz.func22 Tryz.ntmps22 rfl rfl ?_
  refine TW.seq ?_
  refine TW.region ?_
  refine LW.new (r_box H) ?_; intro g1 w H
  refine LW.v (r_as) ?_
  refine LW.nil ?_
  refine TW.seq ?_
  refine TW.region ?_
  refine LW.v (r_fa) ?_
  refine LW.v (r_ld H) ?_
  refine LW.c r_c1 ((form_spec _ _ _ _ _ H).mono ?_)
  rintro _ w ⟨rfl, H⟩
  refine ⟨_, rfl, ?_⟩
  refine LW.v (r_as) ?_
  refine LW.nil ?_
  refine TW.seq ?_
  refine TW.region ?_
  refine LW.v (r_mv) ?_
  refine LW.c r_c1 ((has_spec _ _ _ _ _ H).mono ?_)
  rintro _ w ⟨rfl, H⟩
  refine ⟨_, rfl, ?_⟩
  refine LW.v (r_mv) ?_
  refine LW.v (r_ext) ?_
  refine LW.v (r_ext) ?_
  refine LW.v (r_ext) ?_
  refine LW.v (r_as) ?_
  refine LW.v (r_as) ?_
  refine LW.v (r_as) ?_
  refine LW.nil ?_
  refine TW.seq ?_
  refine TW.region ?_
  refine LW.v (r_mv) ?_
  refine LW.v (r_bin) ?_
  refine LW.v (r_mv) ?_
  refine LW.gen fun b hb => ?_; cases b
  · have hr0 := hb.symm; have hc0 := hb.symm; try simp only [beq_iff_eq, bne_iff_ne, beq_eq_false_iff_ne, bne_eq_false_iff_eq, decide_eq_true_eq, decide_eq_false_iff_not, Bool.not_eq_true', Bool.not_eq_false', Bool.true_eq, Bool.false_eq, ge_iff_le, gt_iff_lt, Bool.not_eq_eq_eq_not, Bool.not_true, Bool.not_false, ne_eq] at hc0
    refine LW.no (by rfl) (by rfl) (by rfl) (by rfl) (by rfl) (by rfl) ?_
    refine LW.no (by rfl) (by rfl) (by rfl) (by rfl) (by rfl) (by rfl) ?_
    refine LW.no (by rfl) (by rfl) (by rfl) (by rfl) (by rfl) (by rfl) ?_
    refine LW.no (by rfl) (by rfl) (by rfl) (by rfl) (by rfl) (by rfl) ?_
    refine LW.v (r_pick) ?_
    refine LW.v (r_mv) ?_
    refine LW.no (by rfl) (by rfl) (by rfl) (by rfl) (by rfl) (by rfl) ?_
    refine LW.no (by rfl) (by rfl) (by rfl) (by rfl) (by rfl) (by rfl) ?_
    refine LW.no (by rfl) (by rfl) (by rfl) (by rfl) (by rfl) (by rfl) ?_
    refine LW.no (by rfl) (by rfl) (by rfl) (by rfl) (by rfl) (by rfl) ?_
    refine LW.v (r_pick) ?_
    refine LW.v (r_mv) ?_
    refine LW.no (by rfl) (by rfl) (by rfl) (by rfl) (by rfl) (by rfl) ?_
    refine LW.no (by rfl) (by rfl) (by rfl) (by rfl) (by rfl) (by rfl) ?_
    refine LW.no (by rfl) (by rfl) (by rfl) (by rfl) (by rfl) (by rfl) ?_
    refine LW.no (by rfl) (by rfl) (by rfl) (by rfl) (by rfl) (by rfl) ?_
    refine LW.v (r_pick) ?_
    refine LW.v (r_mv) ?_
    refine LW.no (by rfl) (by rfl) (by rfl) (by rfl) (by rfl) (by rfl) ?_
    refine LW.no (by rfl) (by rfl) (by rfl) (by rfl) (by rfl) (by rfl) ?_
    refine LW.no (by rfl) (by rfl) (by rfl) (by rfl) (by rfl) (by rfl) ?_
    refine LW.no (by rfl) (by rfl) (by rfl) (by rfl) (by rfl) (by rfl) ?_
    refine LW.v (r_pick) ?_
    refine LW.v (r_as) ?_
    refine LW.nil ?_
    refine TW.ret (ret1 (by rfl) rT ?_)
    exact ⟨by first | rfl | (simp [IntKind.bits, WhI.right, hc0]; done) | (exfalso; omega), by first | exact H | exact H.drop | exact H.drop.drop⟩
  · have hr0 := hb.symm; have hc0 := hb.symm; try simp only [beq_iff_eq, bne_iff_ne, beq_eq_false_iff_ne, bne_eq_false_iff_eq, decide_eq_true_eq, decide_eq_false_iff_not, Bool.not_eq_true', Bool.not_eq_false', Bool.true_eq, Bool.false_eq, ge_iff_le, gt_iff_lt, Bool.not_eq_eq_eq_not, Bool.not_true, Bool.not_false, ne_eq] at hc0
    refine LW.yes (by rfl) (by rfl) (by rfl) (by rfl) (by rfl) ?_
    refine LW.v (r_mv) ?_
    refine LW.yes (by rfl) (by rfl) (by rfl) (by rfl) (by rfl) ?_
    refine LW.v (r_fa) ?_
    refine LW.yes (by rfl) (by rfl) (by rfl) (by rfl) (by rfl) ?_
    refine LW.v (r_ld H) ?_
    refine LW.yes (by rfl) (by rfl) (by rfl) (by rfl) (by rfl) ?_
    refine LW.c r_c2 ((register_spec _ _ _ _ _ _ H).mono ?_)
    rintro _ w ⟨rfl, H⟩
    refine ⟨_, rfl, ?_⟩
    refine LW.v (r_pick) ?_
    refine LW.v (r_mv) ?_
    refine LW.gen fun b hb => ?_; cases b
    · have hr1 := hb.symm; have hc1 := hb.symm; try simp only [beq_iff_eq, bne_iff_ne, beq_eq_false_iff_ne, bne_eq_false_iff_eq, decide_eq_true_eq, decide_eq_false_iff_not, Bool.not_eq_true', Bool.not_eq_false', Bool.true_eq, Bool.false_eq, ge_iff_le, gt_iff_lt, Bool.not_eq_eq_eq_not, Bool.not_true, Bool.not_false, ne_eq] at hc1
      refine LW.no (by rfl) (by rfl) (by rfl) (by rfl) (by rfl) (by rfl) ?_
      refine LW.no (by rfl) (by rfl) (by rfl) (by rfl) (by rfl) (by rfl) ?_
      refine LW.no (by rfl) (by rfl) (by rfl) (by rfl) (by rfl) (by rfl) ?_
      refine LW.no (by rfl) (by rfl) (by rfl) (by rfl) (by rfl) (by rfl) ?_
      refine LW.v (r_pick) ?_
      refine LW.v (r_mv) ?_
      refine LW.no (by rfl) (by rfl) (by rfl) (by rfl) (by rfl) (by rfl) ?_
      refine LW.no (by rfl) (by rfl) (by rfl) (by rfl) (by rfl) (by rfl) ?_
      refine LW.no (by rfl) (by rfl) (by rfl) (by rfl) (by rfl) (by rfl) ?_
      refine LW.no (by rfl) (by rfl) (by rfl) (by rfl) (by rfl) (by rfl) ?_
      refine LW.v (r_pick) ?_
      refine LW.v (r_mv) ?_
      refine LW.no (by rfl) (by rfl) (by rfl) (by rfl) (by rfl) (by rfl) ?_
      refine LW.no (by rfl) (by rfl) (by rfl) (by rfl) (by rfl) (by rfl) ?_
      refine LW.no (by rfl) (by rfl) (by rfl) (by rfl) (by rfl) (by rfl) ?_
      refine LW.no (by rfl) (by rfl) (by rfl) (by rfl) (by rfl) (by rfl) ?_
      refine LW.v (r_pick) ?_
      refine LW.v (r_as) ?_
      refine LW.nil ?_
      refine TW.ret (ret1 (by rfl) rT ?_)
      exact ⟨by first | rfl | (simp [IntKind.bits, WhI.right, hc0, hc1]; done) | (exfalso; omega), by first | exact H | exact H.drop | exact H.drop.drop⟩
    · have hr1 := hb.symm; have hc1 := hb.symm; try simp only [beq_iff_eq, bne_iff_ne, beq_eq_false_iff_ne, bne_eq_false_iff_eq, decide_eq_true_eq, decide_eq_false_iff_not, Bool.not_eq_true', Bool.not_eq_false', Bool.true_eq, Bool.false_eq, ge_iff_le, gt_iff_lt, Bool.not_eq_eq_eq_not, Bool.not_true, Bool.not_false, ne_eq] at hc1
      refine LW.yes (by rfl) (by rfl) (by rfl) (by rfl) (by rfl) ?_
      refine LW.v (r_mv) ?_
      refine LW.yes (by rfl) (by rfl) (by rfl) (by rfl) (by rfl) ?_
      refine LW.v (r_fa) ?_
      refine LW.yes (by rfl) (by rfl) (by rfl) (by rfl) (by rfl) ?_
      refine LW.v (r_ld H) ?_
      refine LW.yes (by rfl) (by rfl) (by rfl) (by rfl) (by rfl) ?_
      refine LW.c r_c2 ((register_spec _ _ _ _ _ _ H).mono ?_)
      rintro _ w ⟨rfl, H⟩
      refine ⟨_, rfl, ?_⟩
      refine LW.v (r_pick) ?_
      refine LW.v (r_mv) ?_
      refine LW.gen fun b hb => ?_; cases b
      · have hr2 := hb.symm; have hc2 := hb.symm; try simp only [beq_iff_eq, bne_iff_ne, beq_eq_false_iff_ne, bne_eq_false_iff_eq, decide_eq_true_eq, decide_eq_false_iff_not, Bool.not_eq_true', Bool.not_eq_false', Bool.true_eq, Bool.false_eq, ge_iff_le, gt_iff_lt, Bool.not_eq_eq_eq_not, Bool.not_true, Bool.not_false, ne_eq] at hc2
        refine LW.no (by rfl) (by rfl) (by rfl) (by rfl) (by rfl) (by rfl) ?_
        refine LW.no (by rfl) (by rfl) (by rfl) (by rfl) (by rfl) (by rfl) ?_
        refine LW.no (by rfl) (by rfl) (by rfl) (by rfl) (by rfl) (by rfl) ?_
        refine LW.no (by rfl) (by rfl) (by rfl) (by rfl) (by rfl) (by rfl) ?_
        refine LW.v (r_pick) ?_
        refine LW.v (r_mv) ?_
        refine LW.no (by rfl) (by rfl) (by rfl) (by rfl) (by rfl) (by rfl) ?_
        refine LW.no (by rfl) (by rfl) (by rfl) (by rfl) (by rfl) (by rfl) ?_
        refine LW.no (by rfl) (by rfl) (by rfl) (by rfl) (by rfl) (by rfl) ?_
        refine LW.no (by rfl) (by rfl) (by rfl) (by rfl) (by rfl) (by rfl) ?_
        refine LW.v (r_pick) ?_
        refine LW.v (r_as) ?_
        refine LW.nil ?_
        refine TW.ret (ret1 (by rfl) rT ?_)
        exact ⟨by first | rfl | (simp [IntKind.bits, WhI.right, hc0, hc1, hc2]; done) | (exfalso; omega), by first | exact H | exact H.drop | exact H.drop.drop⟩
      · have hr2 := hb.symm; have hc2 := hb.symm; try simp only [beq_iff_eq, bne_iff_ne, beq_eq_false_iff_ne, bne_eq_false_iff_eq, decide_eq_true_eq, decide_eq_false_iff_not, Bool.not_eq_true', Bool.not_eq_false', Bool.true_eq, Bool.false_eq, ge_iff_le, gt_iff_lt, Bool.not_eq_eq_eq_not, Bool.not_true, Bool.not_false, ne_eq] at hc2
        refine LW.yes (by rfl) (by rfl) (by rfl) (by rfl) (by rfl) ?_
        refine LW.v (r_mv) ?_
        refine LW.yes (by rfl) (by rfl) (by rfl) (by rfl) (by rfl) ?_
        refine LW.v (r_fa) ?_
        refine LW.yes (by rfl) (by rfl) (by rfl) (by rfl) (by rfl) ?_
        refine LW.v (r_ld H) ?_
        refine LW.yes (by rfl) (by rfl) (by rfl) (by rfl) (by rfl) ?_
        refine LW.c r_c2 ((register_spec _ _ _ _ _ _ H).mono ?_)
        rintro _ w ⟨rfl, H⟩
        refine ⟨_, rfl, ?_⟩
        refine LW.v (r_pick) ?_
        refine LW.v (r_mv) ?_
        refine LW.gen fun b hb => ?_; cases b
        · have hr3 := hb.symm; have hc3 := hb.symm; try simp only [beq_iff_eq, bne_iff_ne, beq_eq_false_iff_ne, bne_eq_false_iff_eq, decide_eq_true_eq, decide_eq_false_iff_not, Bool.not_eq_true', Bool.not_eq_false', Bool.true_eq, Bool.false_eq, ge_iff_le, gt_iff_lt, Bool.not_eq_eq_eq_not, Bool.not_true, Bool.not_false, ne_eq] at hc3
          refine LW.no (by rfl) (by rfl) (by rfl) (by rfl) (by rfl) (by rfl) ?_
          refine LW.no (by rfl) (by rfl) (by rfl) (by rfl) (by rfl) (by rfl) ?_
          refine LW.no (by rfl) (by rfl) (by rfl) (by rfl) (by rfl) (by rfl) ?_
          refine LW.no (by rfl) (by rfl) (by rfl) (by rfl) (by rfl) (by rfl) ?_
          refine LW.v (r_pick) ?_
          refine LW.v (r_as) ?_
          refine LW.nil ?_
          refine TW.ret (ret1 (by rfl) rT ?_)
          exact ⟨by first | rfl | (simp [IntKind.bits, WhI.right, hc0, hc1, hc2, hc3]; done) | (exfalso; omega), by first | exact H | exact H.drop | exact H.drop.drop⟩
        · have hr3 := hb.symm; have hc3 := hb.symm; try simp only [beq_iff_eq, bne_iff_ne, beq_eq_false_iff_ne, bne_eq_false_iff_eq, decide_eq_true_eq, decide_eq_false_iff_not, Bool.not_eq_true', Bool.not_eq_false', Bool.true_eq, Bool.false_eq, ge_iff_le, gt_iff_lt, Bool.not_eq_eq_eq_not, Bool.not_true, Bool.not_false, ne_eq] at hc3
          refine LW.yes (by rfl) (by rfl) (by rfl) (by rfl) (by rfl) ?_
          refine LW.v (r_mv) ?_
          refine LW.yes (by rfl) (by rfl) (by rfl) (by rfl) (by rfl) ?_
          refine LW.v (r_fa) ?_
          refine LW.yes (by rfl) (by rfl) (by rfl) (by rfl) (by rfl) ?_
          refine LW.v (r_ld H) ?_
          refine LW.yes (by rfl) (by rfl) (by rfl) (by rfl) (by rfl) ?_
          refine LW.c r_c2 ((number_is_spec _ _ _ _ _ _ H).mono ?_)
          rintro _ w ⟨rfl, H⟩
          refine ⟨_, rfl, ?_⟩
          refine LW.v (r_pick) ?_
          refine LW.v (r_as) ?_
          refine LW.nil ?_
          refine TW.ret (ret1 (by rfl) rT ?_)
          exact ⟨by first | rfl | (simp [IntKind.bits, WhI.right, hc0, hc1, hc2, hc3]; done) | (exfalso; omega), by first | exact H | exact H.drop | exact H.drop.drop⟩
theorem lplain_spec (B : Nat) (w0 w : World) (L : List Ck) (x : X) (H : Hp B w0 w L) : Calls Tryz.prog 7 #[x.val] w fun e w' => e = .returned (.bool (WhI.lplain x)) ∧ Hp B w0 w' L := by
  refine calls_go Tryz.func7 Tryz.ntmps7 rfl rfl ?_
  refine TW.seq ?_
  refine TW.region ?_
  refine LW.new (r_box H) ?_; intro g1 w H
  refine LW.v (r_as) ?_
  refine LW.nil ?_
  refine TW.seq <| TW.seq ?_
  refine TW.region ?_
  refine LW.v (r_ldW H) ?_
  refine LW.c r_c1 ((right_spec _ _ _ _ _ H).mono ?_)
  rintro _ w ⟨rfl, H⟩
  refine ⟨_, rfl, ?_⟩
  refine LW.v (r_not) ?_
  refine LW.nil ?_
  refine TW.c rfl (fun hb => ?_) (fun hb => ?_)
  · have hr0 := hb; have hc0 := hb; try simp only [beq_iff_eq, bne_iff_ne, beq_eq_false_iff_ne, bne_eq_false_iff_eq, decide_eq_true_eq, decide_eq_false_iff_not, Bool.not_eq_true', Bool.not_eq_false', Bool.true_eq, Bool.false_eq, ge_iff_le, gt_iff_lt, Bool.not_eq_eq_eq_not, Bool.not_true, Bool.not_false, ne_eq] at hc0
    refine TW.seq ?_
    refine TW.region ?_
    refine LW.v (r_as) ?_
    refine LW.nil ?_
    refine TW.ret (ret1 (by rfl) rT ?_)
    exact ⟨by first | rfl | (simp [IntKind.bits, WhI.lplain, hc0]; done) | (exfalso; omega), by first | exact H | exact H.drop | exact H.drop.drop⟩
  · have hr0 := hb; have hc0 := hb; try simp only [beq_iff_eq, bne_iff_ne, beq_eq_false_iff_ne, bne_eq_false_iff_eq, decide_eq_true_eq, decide_eq_false_iff_not, Bool.not_eq_true', Bool.not_eq_false', Bool.true_eq, Bool.false_eq, ge_iff_le, gt_iff_lt, Bool.not_eq_eq_eq_not, Bool.not_true, Bool.not_false, ne_eq] at hc0
    refine TW.skip <| TW.seq ?_
    refine TW.region ?_
    refine LW.v (r_fa) ?_
    refine LW.v (r_ld H) ?_
    refine LW.c r_c1 ((iplain_spec _ _ _ _ _ H).mono ?_)
    rintro _ w ⟨rfl, H⟩
    refine ⟨_, rfl, ?_⟩
    refine LW.v (r_mv) ?_
    refine LW.v (r_ext) ?_
    refine LW.v (r_ext) ?_
    refine LW.v (r_as) ?_
    refine LW.v (r_as) ?_
    refine LW.nil ?_
    refine TW.seq ?_
    refine TW.region ?_
    refine LW.v (r_mv) ?_
    refine LW.v (r_mv) ?_
    refine LW.gen fun b hb => ?_; cases b
    · have hr1 := hb.symm; have hc1 := hb.symm; try simp only [beq_iff_eq, bne_iff_ne, beq_eq_false_iff_ne, bne_eq_false_iff_eq, decide_eq_true_eq, decide_eq_false_iff_not, Bool.not_eq_true', Bool.not_eq_false', Bool.true_eq, Bool.false_eq, ge_iff_le, gt_iff_lt, Bool.not_eq_eq_eq_not, Bool.not_true, Bool.not_false, ne_eq] at hc1
      refine LW.yes (by rfl) (by rfl) (by rfl) (by rfl) (by rfl) ?_
      refine LW.v (r_fa) ?_
      refine LW.yes (by rfl) (by rfl) (by rfl) (by rfl) (by rfl) ?_
      refine LW.v (r_ld H) ?_
      refine LW.yes (by rfl) (by rfl) (by rfl) (by rfl) (by rfl) ?_
      refine LW.v (r_bin) ?_
      refine LW.v (r_pick) ?_
      refine LW.v (r_mv) ?_
      refine LW.gen fun b hb => ?_; cases b
      · have hr2 := hb.symm; have hc2 := hb.symm; try simp only [beq_iff_eq, bne_iff_ne, beq_eq_false_iff_ne, bne_eq_false_iff_eq, decide_eq_true_eq, decide_eq_false_iff_not, Bool.not_eq_true', Bool.not_eq_false', Bool.true_eq, Bool.false_eq, ge_iff_le, gt_iff_lt, Bool.not_eq_eq_eq_not, Bool.not_true, Bool.not_false, ne_eq] at hc2
        refine LW.yes (by rfl) (by rfl) (by rfl) (by rfl) (by rfl) ?_
        refine LW.v (r_fa) ?_
        refine LW.yes (by rfl) (by rfl) (by rfl) (by rfl) (by rfl) ?_
        refine LW.v (r_ld H) ?_
        refine LW.yes (by rfl) (by rfl) (by rfl) (by rfl) (by rfl) ?_
        refine LW.v (r_bin) ?_
        refine LW.v (r_pick) ?_
        refine LW.v (r_mv) ?_
        refine LW.gen fun b hb => ?_; cases b
        · have hr3 := hb.symm; have hc3 := hb.symm; try simp only [beq_iff_eq, bne_iff_ne, beq_eq_false_iff_ne, bne_eq_false_iff_eq, decide_eq_true_eq, decide_eq_false_iff_not, Bool.not_eq_true', Bool.not_eq_false', Bool.true_eq, Bool.false_eq, ge_iff_le, gt_iff_lt, Bool.not_eq_eq_eq_not, Bool.not_true, Bool.not_false, ne_eq] at hc3
          refine LW.yes (by rfl) (by rfl) (by rfl) (by rfl) (by rfl) ?_
          refine LW.v (r_fa) ?_
          refine LW.yes (by rfl) (by rfl) (by rfl) (by rfl) (by rfl) ?_
          refine LW.v (r_ld H) ?_
          refine LW.yes (by rfl) (by rfl) (by rfl) (by rfl) (by rfl) ?_
          refine LW.c r_c1 ((form_spec _ _ _ _ _ H).mono ?_)
          rintro _ w ⟨rfl, H⟩
          refine ⟨_, rfl, ?_⟩
          refine LW.yes (by rfl) (by rfl) (by rfl) (by rfl) (by rfl) ?_
          refine LW.v (r_bin) ?_
          refine LW.v (r_pick) ?_
          refine LW.v (r_as) ?_
          refine LW.nil ?_
          refine TW.ret (ret1 (by rfl) rT ?_)
          exact ⟨by first | rfl | (simp [IntKind.bits, WhI.lplain, hc0, hc1, hc2, hc3]; done) | (exfalso; omega), by first | exact H | exact H.drop | exact H.drop.drop⟩
        · have hr3 := hb.symm; have hc3 := hb.symm; try simp only [beq_iff_eq, bne_iff_ne, beq_eq_false_iff_ne, bne_eq_false_iff_eq, decide_eq_true_eq, decide_eq_false_iff_not, Bool.not_eq_true', Bool.not_eq_false', Bool.true_eq, Bool.false_eq, ge_iff_le, gt_iff_lt, Bool.not_eq_eq_eq_not, Bool.not_true, Bool.not_false, ne_eq] at hc3
          refine LW.no (by rfl) (by rfl) (by rfl) (by rfl) (by rfl) (by rfl) ?_
          refine LW.no (by rfl) (by rfl) (by rfl) (by rfl) (by rfl) (by rfl) ?_
          refine LW.no (by rfl) (by rfl) (by rfl) (by rfl) (by rfl) (by rfl) ?_
          refine LW.no (by rfl) (by rfl) (by rfl) (by rfl) (by rfl) (by rfl) ?_
          refine LW.v (r_pick) ?_
          refine LW.v (r_as) ?_
          refine LW.nil ?_
          refine TW.ret (ret1 (by rfl) rT ?_)
          exact ⟨by first | rfl | (simp [IntKind.bits, WhI.lplain, hc0, hc1, hc2, hc3]; done) | (exfalso; omega), by first | exact H | exact H.drop | exact H.drop.drop⟩
      · have hr2 := hb.symm; have hc2 := hb.symm; try simp only [beq_iff_eq, bne_iff_ne, beq_eq_false_iff_ne, bne_eq_false_iff_eq, decide_eq_true_eq, decide_eq_false_iff_not, Bool.not_eq_true', Bool.not_eq_false', Bool.true_eq, Bool.false_eq, ge_iff_le, gt_iff_lt, Bool.not_eq_eq_eq_not, Bool.not_true, Bool.not_false, ne_eq] at hc2
        refine LW.no (by rfl) (by rfl) (by rfl) (by rfl) (by rfl) (by rfl) ?_
        refine LW.no (by rfl) (by rfl) (by rfl) (by rfl) (by rfl) (by rfl) ?_
        refine LW.no (by rfl) (by rfl) (by rfl) (by rfl) (by rfl) (by rfl) ?_
        refine LW.v (r_pick) ?_
        refine LW.v (r_mv) ?_
        refine LW.no (by rfl) (by rfl) (by rfl) (by rfl) (by rfl) (by rfl) ?_
        refine LW.no (by rfl) (by rfl) (by rfl) (by rfl) (by rfl) (by rfl) ?_
        refine LW.no (by rfl) (by rfl) (by rfl) (by rfl) (by rfl) (by rfl) ?_
        refine LW.no (by rfl) (by rfl) (by rfl) (by rfl) (by rfl) (by rfl) ?_
        refine LW.v (r_pick) ?_
        refine LW.v (r_as) ?_
        refine LW.nil ?_
        refine TW.ret (ret1 (by rfl) rT ?_)
        exact ⟨by first | rfl | (simp [IntKind.bits, WhI.lplain, hc0, hc1, hc2]; done) | (exfalso; omega), by first | exact H | exact H.drop | exact H.drop.drop⟩
    · have hr1 := hb.symm; have hc1 := hb.symm; try simp only [beq_iff_eq, bne_iff_ne, beq_eq_false_iff_ne, bne_eq_false_iff_eq, decide_eq_true_eq, decide_eq_false_iff_not, Bool.not_eq_true', Bool.not_eq_false', Bool.true_eq, Bool.false_eq, ge_iff_le, gt_iff_lt, Bool.not_eq_eq_eq_not, Bool.not_true, Bool.not_false, ne_eq] at hc1
      refine LW.no (by rfl) (by rfl) (by rfl) (by rfl) (by rfl) (by rfl) ?_
      refine LW.no (by rfl) (by rfl) (by rfl) (by rfl) (by rfl) (by rfl) ?_
      refine LW.no (by rfl) (by rfl) (by rfl) (by rfl) (by rfl) (by rfl) ?_
      refine LW.v (r_pick) ?_
      refine LW.v (r_mv) ?_
      refine LW.no (by rfl) (by rfl) (by rfl) (by rfl) (by rfl) (by rfl) ?_
      refine LW.no (by rfl) (by rfl) (by rfl) (by rfl) (by rfl) (by rfl) ?_
      refine LW.no (by rfl) (by rfl) (by rfl) (by rfl) (by rfl) (by rfl) ?_
      refine LW.v (r_pick) ?_
      refine LW.v (r_mv) ?_
      refine LW.no (by rfl) (by rfl) (by rfl) (by rfl) (by rfl) (by rfl) ?_
      refine LW.no (by rfl) (by rfl) (by rfl) (by rfl) (by rfl) (by rfl) ?_
      refine LW.no (by rfl) (by rfl) (by rfl) (by rfl) (by rfl) (by rfl) ?_
      refine LW.no (by rfl) (by rfl) (by rfl) (by rfl) (by rfl) (by rfl) ?_
      refine LW.v (r_pick) ?_
      refine LW.v (r_as) ?_
      refine LW.nil ?_
      refine TW.ret (ret1 (by rfl) rT ?_)
      exact ⟨by first | rfl | (simp [IntKind.bits, WhI.lplain, hc0, hc1]; done) | (exfalso; omega), by first | exact H | exact H.drop | exact H.drop.drop⟩
theorem odd_spec (B : Nat) (w0 w : World) (L : List Ck) (x : X) (H : Hp B w0 w L) : Calls Tryz.prog 29 #[x.val] w fun e w' => e = .returned (.bool (!WhI.lplain x)) ∧ Hp B w0 w' L := by
  refine calls_go Tryz.func29 Tryz.ntmps29 rfl rfl ?_
  refine TW.seq ?_
  refine TW.region ?_
  refine LW.new (r_box H) ?_; intro g1 w H
  refine LW.v (r_as) ?_
  refine LW.nil ?_
  refine TW.seq ?_
  refine TW.region ?_
  refine LW.v (r_ldW H) ?_
  refine LW.c r_c1 ((lplain_spec _ _ _ _ _ H).mono ?_)
  rintro _ w ⟨rfl, H⟩
  refine ⟨_, rfl, ?_⟩
  refine LW.v (r_not) ?_
  refine LW.v (r_as) ?_
  refine LW.nil ?_
  refine TW.ret (ret1 (by rfl) rT ?_)
  exact ⟨by first | rfl | (simp [IntKind.bits]; done) | (exfalso; omega), by first | exact H | exact H.drop | exact H.drop.drop⟩
end Wh
