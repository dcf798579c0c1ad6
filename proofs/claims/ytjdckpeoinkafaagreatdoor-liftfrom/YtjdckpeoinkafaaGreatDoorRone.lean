/- A part of the walk through the code: contracts of functions, printed by a program of the prover. -/
import Derived.Test.YtjdckpeoinkafaaGreatDoorRo
import Derived.Test.YtjdckpeoinkafaaGreatDoorSync
set_option linter.all false
namespace Wh
open Go Go.Proofs WhR
set_option maxRecDepth 100000
theorem rbit_spec (B : Nat) (w0 w : World) (L : List Ck) (a k : Int) (H : Hp B w0 w L) : Calls Tryz.prog 69 #[.int .u32 a, .int .i64 k] w fun e w' => e = .returned (.int .u32 (WhR.bit a k)) ∧ Hp B w0 w' L := by
  refine calls_go Tryz.func69 Tryz.ntmps69 rfl rfl ?_
  refine TW.seq ?_
  refine TW.region ?_
  refine LW.v (r_as) ?_
  refine LW.nil ?_
  refine TW.seq <| TW.seq ?_
  refine TW.region ?_
  refine LW.v (r_mv) ?_
  refine LW.v (r_bin) ?_
  refine LW.v (r_mv) ?_
  refine LW.gen fun b hb => ?_; cases b
  · have hr0 := hb.symm; have hc0 := hb.symm; try simp only [beq_iff_eq, bne_iff_ne, beq_eq_false_iff_ne, bne_eq_false_iff_eq, decide_eq_true_eq, decide_eq_false_iff_not, Bool.not_eq_true', Bool.not_eq_false', Bool.true_eq, Bool.false_eq, ge_iff_le, gt_iff_lt, Bool.not_eq_eq_eq_not, Bool.not_true, Bool.not_false, ne_eq] at hc0
    refine LW.yes (by rfl) (by rfl) (by rfl) (by rfl) (by rfl) ?_
    refine LW.v (r_mv) ?_
    refine LW.yes (by rfl) (by rfl) (by rfl) (by rfl) (by rfl) ?_
    refine LW.v (r_bin) ?_
    refine LW.v (r_pick) ?_
    refine LW.nil ?_
    refine TW.c rfl (fun hb => ?_) (fun hb => ?_)
    · have hr1 := hb; have hc1 := hb; try simp only [beq_iff_eq, bne_iff_ne, beq_eq_false_iff_ne, bne_eq_false_iff_eq, decide_eq_true_eq, decide_eq_false_iff_not, Bool.not_eq_true', Bool.not_eq_false', Bool.true_eq, Bool.false_eq, ge_iff_le, gt_iff_lt, Bool.not_eq_eq_eq_not, Bool.not_true, Bool.not_false, ne_eq] at hc1
      refine TW.seq ?_
      refine TW.region ?_
      refine LW.v (r_as) ?_
      refine LW.nil ?_
      refine TW.ret (ret1 (by rfl) rT ?_)
      exact ⟨by first | rfl | (simp [IntKind.bits, WhR.bit, hc0, hc1]; done) | (exfalso; omega), by first | exact H | exact H.drop | exact H.drop.drop⟩
    · have hr1 := hb; have hc1 := hb; try simp only [beq_iff_eq, bne_iff_ne, beq_eq_false_iff_ne, bne_eq_false_iff_eq, decide_eq_true_eq, decide_eq_false_iff_not, Bool.not_eq_true', Bool.not_eq_false', Bool.true_eq, Bool.false_eq, ge_iff_le, gt_iff_lt, Bool.not_eq_eq_eq_not, Bool.not_true, Bool.not_false, ne_eq] at hc1
      refine TW.skip <| TW.seq ?_
      refine TW.region ?_
      refine LW.v (r_mv) ?_
      refine LW.v (r_mv) ?_
      refine LW.v (r_shr (hb := by first | omega | exact WhI.bits_nn _ _ _ | exact WhI.u32_nn _)) ?_
      refine LW.v (r_bin) ?_
      refine LW.v (r_as) ?_
      refine LW.nil ?_
      refine TW.ret (ret1 (by rfl) rT ?_)
      exact ⟨by first | rfl | (simp [IntKind.bits, WhR.bit, hc0, hc1]; done) | (exfalso; omega), by first | exact H | exact H.drop | exact H.drop.drop⟩
  · have hr0 := hb.symm; have hc0 := hb.symm; try simp only [beq_iff_eq, bne_iff_ne, beq_eq_false_iff_ne, bne_eq_false_iff_eq, decide_eq_true_eq, decide_eq_false_iff_not, Bool.not_eq_true', Bool.not_eq_false', Bool.true_eq, Bool.false_eq, ge_iff_le, gt_iff_lt, Bool.not_eq_eq_eq_not, Bool.not_true, Bool.not_false, ne_eq] at hc0
    refine LW.no (by rfl) (by rfl) (by rfl) (by rfl) (by rfl) (by rfl) ?_
    refine LW.no (by rfl) (by rfl) (by rfl) (by rfl) (by rfl) (by rfl) ?_
    refine LW.v (r_pick) ?_
    refine LW.nil ?_
    refine TW.c rfl (fun _ => ?_) (fun h => by first | (cases h; done) | exact absurd h (by simp [hc0]))
    refine TW.seq ?_
    refine TW.region ?_
    refine LW.v (r_as) ?_
    refine LW.nil ?_
    refine TW.ret (ret1 (by rfl) rT ?_)
    exact ⟨by first | rfl | (simp [IntKind.bits, WhR.bit, hc0]; done) | (exfalso; omega), by first | exact H | exact H.drop | exact H.drop.drop⟩
theorem rnum_spec (B : Nat) (w0 w : World) (L : List Ck) (a : Int) (H : Hp B w0 w L) : Calls Tryz.prog 71 #[.int .u32 a] w fun e w' => e = .returned (.int .i64 (WhR.num a)) ∧ Hp B w0 w' L := by
  refine calls_go Tryz.func71 Tryz.ntmps71 rfl rfl ?_
  refine TW.seq ?_
  refine TW.region ?_
  refine LW.v (r_as) ?_
  refine LW.nil ?_
  refine TW.seq <| TW.seq ?_
  refine TW.region ?_
  refine LW.v (r_mv) ?_
  refine LW.v (r_bin) ?_
  refine LW.nil ?_
  refine TW.c rfl (fun hb => ?_) (fun hb => ?_)
  · have hr0 := hb; have hc0 := hb; try simp only [beq_iff_eq, bne_iff_ne, beq_eq_false_iff_ne, bne_eq_false_iff_eq, decide_eq_true_eq, decide_eq_false_iff_not, Bool.not_eq_true', Bool.not_eq_false', Bool.true_eq, Bool.false_eq, ge_iff_le, gt_iff_lt, Bool.not_eq_eq_eq_not, Bool.not_true, Bool.not_false, ne_eq] at hc0
    refine TW.seq ?_
    refine TW.region ?_
    refine LW.v (r_mv) ?_
    refine LW.v (r_cv) ?_
    first | refine LW.v (r_sub (hk := w64 (by omega) (by omega))) ?_ | refine LW.v (r_bin) ?_
    refine LW.v (r_as) ?_
    refine LW.nil ?_
    refine TW.ret (ret1 (by rfl) rT ?_)
    exact ⟨by first | rfl | (simp [IntKind.bits, WhR.num, hc0]; done) | (exfalso; omega), by first | exact H | exact H.drop | exact H.drop.drop⟩
  · have hr0 := hb; have hc0 := hb; try simp only [beq_iff_eq, bne_iff_ne, beq_eq_false_iff_ne, bne_eq_false_iff_eq, decide_eq_true_eq, decide_eq_false_iff_not, Bool.not_eq_true', Bool.not_eq_false', Bool.true_eq, Bool.false_eq, ge_iff_le, gt_iff_lt, Bool.not_eq_eq_eq_not, Bool.not_true, Bool.not_false, ne_eq] at hc0
    refine TW.skip <| TW.seq ?_
    refine TW.region ?_
    refine LW.v (r_mv) ?_
    refine LW.v (r_cv) ?_
    refine LW.v (r_as) ?_
    refine LW.nil ?_
    refine TW.ret (ret1 (by rfl) rT ?_)
    exact ⟨by first | rfl | (simp [IntKind.bits, WhR.num, hc0]; done) | (exfalso; omega), by first | exact H | exact H.drop | exact H.drop.drop⟩
theorem rone_spec (B : Nat) (w0 w : World) (L : List Ck) (b : Bool) (H : Hp B w0 w L) : Calls Tryz.prog 70 #[.bool b] w fun e w' => e = .returned (.int .u32 (WhR.one b)) ∧ Hp B w0 w' L := by
  refine calls_go Tryz.func70 Tryz.ntmps70 rfl rfl ?_
  refine TW.seq ?_
  refine TW.region ?_
  refine LW.v (r_as) ?_
  refine LW.nil ?_
  refine TW.seq <| TW.seq ?_
  refine TW.region ?_
  refine LW.v (r_mv) ?_
  refine LW.nil ?_
  refine TW.c rfl (fun hb => ?_) (fun hb => ?_)
  · have hr0 := hb; have hc0 := hb; try simp only [beq_iff_eq, bne_iff_ne, beq_eq_false_iff_ne, bne_eq_false_iff_eq, decide_eq_true_eq, decide_eq_false_iff_not, Bool.not_eq_true', Bool.not_eq_false', Bool.true_eq, Bool.false_eq, ge_iff_le, gt_iff_lt, Bool.not_eq_eq_eq_not, Bool.not_true, Bool.not_false, ne_eq] at hc0
    refine TW.seq ?_
    refine TW.region ?_
    refine LW.v (r_as) ?_
    refine LW.nil ?_
    refine TW.ret (ret1 (by rfl) rT ?_)
    exact ⟨by first | rfl | (simp [IntKind.bits, WhR.one, hc0]; done) | (exfalso; omega), by first | exact H | exact H.drop | exact H.drop.drop⟩
  · have hr0 := hb; have hc0 := hb; try simp only [beq_iff_eq, bne_iff_ne, beq_eq_false_iff_ne, bne_eq_false_iff_eq, decide_eq_true_eq, decide_eq_false_iff_not, Bool.not_eq_true', Bool.not_eq_false', Bool.true_eq, Bool.false_eq, ge_iff_le, gt_iff_lt, Bool.not_eq_eq_eq_not, Bool.not_true, Bool.not_false, ne_eq] at hc0
    refine TW.skip <| TW.seq ?_
    refine TW.region ?_
    refine LW.v (r_as) ?_
    refine LW.nil ?_
    refine TW.ret (ret1 (by rfl) rT ?_)
    exact ⟨by first | rfl | (simp [IntKind.bits, WhR.one, hc0]; done) | (exfalso; omega), by first | exact H | exact H.drop | exact H.drop.drop⟩
theorem rhalves_spec (B : Nat) (w0 w : World) (L : List Ck) (a b : Int) (H : Hp B w0 w L) : Calls Tryz.prog 90 #[.int .u32 a, .int .u32 b] w fun e w' => e = .returned (.int .u32 (WhR.halves a b)) ∧ Hp B w0 w' L := by
  refine calls_go Tryz.func90 Tryz.ntmps90 rfl rfl ?_
  refine TW.seq ?_
  refine TW.region ?_
  refine LW.v (r_as) ?_
  refine LW.nil ?_
  refine TW.seq ?_
  refine TW.region ?_
  refine LW.v (r_mv) ?_
  refine LW.v (r_rem (hb := by decide)) ?_
  refine LW.v (r_cv) ?_
  refine LW.v (r_mv) ?_
  refine LW.v (r_quo (hb := by decide)) ?_
  refine LW.v (r_cv) ?_
  refine LW.v (r_mv) ?_
  refine LW.v (r_rem (hb := by decide)) ?_
  refine LW.v (r_cv) ?_
  refine LW.v (r_mv) ?_
  refine LW.v (r_quo (hb := by decide)) ?_
  refine LW.v (r_cv) ?_
  refine LW.v (r_as) ?_
  refine LW.v (r_as) ?_
  refine LW.v (r_as) ?_
  refine LW.v (r_as) ?_
  refine LW.nil ?_
  refine TW.seq ?_
  refine TW.region ?_
  refine LW.v (r_mv) ?_
  refine LW.v (r_mv) ?_
  refine LW.v (r_bin) ?_
  refine LW.v (r_quo (hb := by decide)) ?_
  refine LW.v (r_mv) ?_
  refine LW.v (r_mv) ?_
  refine LW.v (r_bin) ?_
  refine LW.v (r_rem (hb := by decide)) ?_
  refine LW.v (r_bin) ?_
  refine LW.v (r_mv) ?_
  refine LW.v (r_mv) ?_
  refine LW.v (r_bin) ?_
  refine LW.v (r_rem (hb := by decide)) ?_
  refine LW.v (r_bin) ?_
  refine LW.v (r_as) ?_
  refine LW.nil ?_
  refine TW.seq ?_
  refine TW.region ?_
  refine LW.v (r_mv) ?_
  refine LW.v (r_mv) ?_
  refine LW.v (r_bin) ?_
  refine LW.v (r_mv) ?_
  refine LW.v (r_mv) ?_
  refine LW.v (r_bin) ?_
  refine LW.v (r_quo (hb := by decide)) ?_
  refine LW.v (r_bin) ?_
  refine LW.v (r_mv) ?_
  refine LW.v (r_mv) ?_
  refine LW.v (r_bin) ?_
  refine LW.v (r_quo (hb := by decide)) ?_
  refine LW.v (r_bin) ?_
  refine LW.v (r_mv) ?_
  refine LW.v (r_quo (hb := by decide)) ?_
  refine LW.v (r_bin) ?_
  refine LW.v (r_cv) ?_
  refine LW.v (r_as) ?_
  refine LW.nil ?_
  refine TW.ret (ret1 (by rfl) rT ?_)
  exact ⟨by first | rfl | (simp [IntKind.bits, WhR.halves]; done) | (exfalso; omega), by first | exact H | exact H.drop | exact H.drop.drop⟩
theorem rhigh_spec (B : Nat) (w0 w : World) (L : List Ck) (op a b : Int) (H : Hp B w0 w L) : Calls Tryz.prog 72 #[.int .i64 op, .int .u32 a, .int .u32 b] w fun e w' => e = .returned (.int .u32 (WhR.high op a b)) ∧ Hp B w0 w' L := by
  refine calls_go Tryz.func72 Tryz.ntmps72 rfl rfl ?_
  refine TW.seq ?_
  refine TW.region ?_
  refine LW.v (r_as) ?_
  refine LW.nil ?_
  refine TW.seq ?_
  refine TW.region ?_
  refine LW.v (r_mv) ?_
  refine LW.v (r_mv) ?_
  refine LW.c r_c2 ((rhalves_spec _ _ _ _ a b H).mono ?_)
  rintro _ w ⟨rfl, H⟩
  refine ⟨_, rfl, ?_⟩
  refine LW.v (r_as) ?_
  refine LW.nil ?_
  refine TW.seq <| TW.seq ?_
  refine TW.region ?_
  refine LW.v (r_mv) ?_
  refine LW.v (r_bin) ?_
  refine LW.v (r_mv) ?_
  refine LW.gen fun b hb => ?_; cases b
  · have hr0 := hb.symm; have hc0 := hb.symm; try simp only [beq_iff_eq, bne_iff_ne, beq_eq_false_iff_ne, bne_eq_false_iff_eq, decide_eq_true_eq, decide_eq_false_iff_not, Bool.not_eq_true', Bool.not_eq_false', Bool.true_eq, Bool.false_eq, ge_iff_le, gt_iff_lt, Bool.not_eq_eq_eq_not, Bool.not_true, Bool.not_false, ne_eq] at hc0
    refine LW.no (by rfl) (by rfl) (by rfl) (by rfl) (by rfl) (by rfl) ?_
    refine LW.no (by rfl) (by rfl) (by rfl) (by rfl) (by rfl) (by rfl) ?_
    refine LW.v (r_pick) ?_
    refine LW.nil ?_
    refine TW.c rfl (fun h => by first | (cases h; done) | exact absurd h (by simp [hc0])) (fun _ => ?_)
    refine TW.skip <| TW.seq <| TW.seq ?_
    refine TW.region ?_
    refine LW.v (r_mv) ?_
    refine LW.v (r_bin) ?_
    refine LW.v (r_mv) ?_
    refine LW.gen fun b hb => ?_; cases b
    · have hr1 := hb.symm; have hc1 := hb.symm; try simp only [beq_iff_eq, bne_iff_ne, beq_eq_false_iff_ne, bne_eq_false_iff_eq, decide_eq_true_eq, decide_eq_false_iff_not, Bool.not_eq_true', Bool.not_eq_false', Bool.true_eq, Bool.false_eq, ge_iff_le, gt_iff_lt, Bool.not_eq_eq_eq_not, Bool.not_true, Bool.not_false, ne_eq] at hc1
      refine LW.no (by rfl) (by rfl) (by rfl) (by rfl) (by rfl) (by rfl) ?_
      refine LW.no (by rfl) (by rfl) (by rfl) (by rfl) (by rfl) (by rfl) ?_
      refine LW.v (r_pick) ?_
      refine LW.nil ?_
      refine TW.c rfl (fun h => by first | (cases h; done) | exact absurd h (by simp [hc0, hc1])) (fun _ => ?_)
      refine TW.skip <| TW.seq ?_
      refine TW.region ?_
      refine LW.v (r_mv) ?_
      refine LW.v (r_as) ?_
      refine LW.nil ?_
      refine TW.ret (ret1 (by rfl) rT ?_)
      exact ⟨by first | rfl | (simp [IntKind.bits, WhR.high, hc0, hc1]; done) | (exfalso; omega), by first | exact H | exact H.drop | exact H.drop.drop⟩
    · have hr1 := hb.symm; have hc1 := hb.symm; try simp only [beq_iff_eq, bne_iff_ne, beq_eq_false_iff_ne, bne_eq_false_iff_eq, decide_eq_true_eq, decide_eq_false_iff_not, Bool.not_eq_true', Bool.not_eq_false', Bool.true_eq, Bool.false_eq, ge_iff_le, gt_iff_lt, Bool.not_eq_eq_eq_not, Bool.not_true, Bool.not_false, ne_eq] at hc1
      refine LW.yes (by rfl) (by rfl) (by rfl) (by rfl) (by rfl) ?_
      refine LW.v (r_mv) ?_
      refine LW.yes (by rfl) (by rfl) (by rfl) (by rfl) (by rfl) ?_
      refine LW.v (r_bin) ?_
      refine LW.v (r_pick) ?_
      refine LW.nil ?_
      refine TW.c rfl (fun hb => ?_) (fun hb => ?_)
      · have hr2 := hb; have hc2 := hb; try simp only [beq_iff_eq, bne_iff_ne, beq_eq_false_iff_ne, bne_eq_false_iff_eq, decide_eq_true_eq, decide_eq_false_iff_not, Bool.not_eq_true', Bool.not_eq_false', Bool.true_eq, Bool.false_eq, ge_iff_le, gt_iff_lt, Bool.not_eq_eq_eq_not, Bool.not_true, Bool.not_false, ne_eq] at hc2
        refine TW.region ?_
        refine LW.v (r_mv) ?_
        refine LW.v (r_mv) ?_
        refine LW.v (r_bin) ?_
        refine LW.v (r_as) ?_
        refine LW.nil ?_
        refine TW.seq ?_
        refine TW.region ?_
        refine LW.v (r_mv) ?_
        refine LW.v (r_as) ?_
        refine LW.nil ?_
        refine TW.ret (ret1 (by rfl) rT ?_)
        exact ⟨by first | rfl | (simp [IntKind.bits, WhR.high, hc0, hc1, hc2]; done) | (exfalso; omega), by first | exact H | exact H.drop | exact H.drop.drop⟩
      · have hr2 := hb; have hc2 := hb; try simp only [beq_iff_eq, bne_iff_ne, beq_eq_false_iff_ne, bne_eq_false_iff_eq, decide_eq_true_eq, decide_eq_false_iff_not, Bool.not_eq_true', Bool.not_eq_false', Bool.true_eq, Bool.false_eq, ge_iff_le, gt_iff_lt, Bool.not_eq_eq_eq_not, Bool.not_true, Bool.not_false, ne_eq] at hc2
        refine TW.skip <| TW.seq ?_
        refine TW.region ?_
        refine LW.v (r_mv) ?_
        refine LW.v (r_as) ?_
        refine LW.nil ?_
        refine TW.ret (ret1 (by rfl) rT ?_)
        exact ⟨by first | rfl | (simp [IntKind.bits, WhR.high, hc0, hc1, hc2]; done) | (exfalso; omega), by first | exact H | exact H.drop | exact H.drop.drop⟩
  · have hr0 := hb.symm; have hc0 := hb.symm; try simp only [beq_iff_eq, bne_iff_ne, beq_eq_false_iff_ne, bne_eq_false_iff_eq, decide_eq_true_eq, decide_eq_false_iff_not, Bool.not_eq_true', Bool.not_eq_false', Bool.true_eq, Bool.false_eq, ge_iff_le, gt_iff_lt, Bool.not_eq_eq_eq_not, Bool.not_true, Bool.not_false, ne_eq] at hc0
    refine LW.yes (by rfl) (by rfl) (by rfl) (by rfl) (by rfl) ?_
    refine LW.v (r_mv) ?_
    refine LW.yes (by rfl) (by rfl) (by rfl) (by rfl) (by rfl) ?_
    refine LW.v (r_bin) ?_
    refine LW.v (r_pick) ?_
    refine LW.nil ?_
    refine TW.c rfl (fun hb => ?_) (fun hb => ?_)
    · have hr1 := hb; have hc1 := hb; try simp only [beq_iff_eq, bne_iff_ne, beq_eq_false_iff_ne, bne_eq_false_iff_eq, decide_eq_true_eq, decide_eq_false_iff_not, Bool.not_eq_true', Bool.not_eq_false', Bool.true_eq, Bool.false_eq, ge_iff_le, gt_iff_lt, Bool.not_eq_eq_eq_not, Bool.not_true, Bool.not_false, ne_eq] at hc1
      refine TW.region ?_
      refine LW.v (r_mv) ?_
      refine LW.v (r_mv) ?_
      refine LW.v (r_bin) ?_
      refine LW.v (r_as) ?_
      refine LW.nil ?_
      refine TW.seq <| TW.seq ?_
      refine TW.region ?_
      refine LW.v (r_mv) ?_
      refine LW.v (r_bin) ?_
      refine LW.v (r_mv) ?_
      refine LW.gen fun b hb => ?_; cases b
      · have hr2 := hb.symm; have hc2 := hb.symm; try simp only [beq_iff_eq, bne_iff_ne, beq_eq_false_iff_ne, bne_eq_false_iff_eq, decide_eq_true_eq, decide_eq_false_iff_not, Bool.not_eq_true', Bool.not_eq_false', Bool.true_eq, Bool.false_eq, ge_iff_le, gt_iff_lt, Bool.not_eq_eq_eq_not, Bool.not_true, Bool.not_false, ne_eq] at hc2
        refine LW.no (by rfl) (by rfl) (by rfl) (by rfl) (by rfl) (by rfl) ?_
        refine LW.no (by rfl) (by rfl) (by rfl) (by rfl) (by rfl) (by rfl) ?_
        refine LW.v (r_pick) ?_
        refine LW.nil ?_
        refine TW.c rfl (fun h => by first | (cases h; done) | exact absurd h (by simp [hc0, hc1, hc2])) (fun _ => ?_)
        refine TW.skip <| TW.seq ?_
        refine TW.region ?_
        refine LW.v (r_mv) ?_
        refine LW.v (r_as) ?_
        refine LW.nil ?_
        refine TW.ret (ret1 (by rfl) rT ?_)
        exact ⟨by first | rfl | (simp [IntKind.bits, WhR.high, hc0, hc1, hc2]; done) | (exfalso; omega), by first | exact H | exact H.drop | exact H.drop.drop⟩
      · have hr2 := hb.symm; have hc2 := hb.symm; try simp only [beq_iff_eq, bne_iff_ne, beq_eq_false_iff_ne, bne_eq_false_iff_eq, decide_eq_true_eq, decide_eq_false_iff_not, Bool.not_eq_true', Bool.not_eq_false', Bool.true_eq, Bool.false_eq, ge_iff_le, gt_iff_lt, Bool.not_eq_eq_eq_not, Bool.not_true, Bool.not_false, ne_eq] at hc2
        refine LW.yes (by rfl) (by rfl) (by rfl) (by rfl) (by rfl) ?_
        refine LW.v (r_mv) ?_
        refine LW.yes (by rfl) (by rfl) (by rfl) (by rfl) (by rfl) ?_
        refine LW.v (r_bin) ?_
        refine LW.v (r_pick) ?_
        refine LW.nil ?_
        refine TW.c rfl (fun hb => ?_) (fun hb => ?_)
        · have hr3 := hb; have hc3 := hb; try simp only [beq_iff_eq, bne_iff_ne, beq_eq_false_iff_ne, bne_eq_false_iff_eq, decide_eq_true_eq, decide_eq_false_iff_not, Bool.not_eq_true', Bool.not_eq_false', Bool.true_eq, Bool.false_eq, ge_iff_le, gt_iff_lt, Bool.not_eq_eq_eq_not, Bool.not_true, Bool.not_false, ne_eq] at hc3
          refine TW.region ?_
          refine LW.v (r_mv) ?_
          refine LW.v (r_mv) ?_
          refine LW.v (r_bin) ?_
          refine LW.v (r_as) ?_
          refine LW.nil ?_
          refine TW.seq ?_
          refine TW.region ?_
          refine LW.v (r_mv) ?_
          refine LW.v (r_as) ?_
          refine LW.nil ?_
          refine TW.ret (ret1 (by rfl) rT ?_)
          exact ⟨by first | rfl | (simp [IntKind.bits, WhR.high, hc0, hc1, hc2, hc3]; done) | (exfalso; omega), by first | exact H | exact H.drop | exact H.drop.drop⟩
        · have hr3 := hb; have hc3 := hb; try simp only [beq_iff_eq, bne_iff_ne, beq_eq_false_iff_ne, bne_eq_false_iff_eq, decide_eq_true_eq, decide_eq_false_iff_not, Bool.not_eq_true', Bool.not_eq_false', Bool.true_eq, Bool.false_eq, ge_iff_le, gt_iff_lt, Bool.not_eq_eq_eq_not, Bool.not_true, Bool.not_false, ne_eq] at hc3
          refine TW.skip <| TW.seq ?_
          refine TW.region ?_
          refine LW.v (r_mv) ?_
          refine LW.v (r_as) ?_
          refine LW.nil ?_
          refine TW.ret (ret1 (by rfl) rT ?_)
          exact ⟨by first | rfl | (simp [IntKind.bits, WhR.high, hc0, hc1, hc2, hc3]; done) | (exfalso; omega), by first | exact H | exact H.drop | exact H.drop.drop⟩
    · have hr1 := hb; have hc1 := hb; try simp only [beq_iff_eq, bne_iff_ne, beq_eq_false_iff_ne, bne_eq_false_iff_eq, decide_eq_true_eq, decide_eq_false_iff_not, Bool.not_eq_true', Bool.not_eq_false', Bool.true_eq, Bool.false_eq, ge_iff_le, gt_iff_lt, Bool.not_eq_eq_eq_not, Bool.not_true, Bool.not_false, ne_eq] at hc1
      refine TW.skip <| TW.seq <| TW.seq ?_
      refine TW.region ?_
      refine LW.v (r_mv) ?_
      refine LW.v (r_bin) ?_
      refine LW.v (r_mv) ?_
      refine LW.gen fun b hb => ?_; cases b
      · have hr2 := hb.symm; have hc2 := hb.symm; try simp only [beq_iff_eq, bne_iff_ne, beq_eq_false_iff_ne, bne_eq_false_iff_eq, decide_eq_true_eq, decide_eq_false_iff_not, Bool.not_eq_true', Bool.not_eq_false', Bool.true_eq, Bool.false_eq, ge_iff_le, gt_iff_lt, Bool.not_eq_eq_eq_not, Bool.not_true, Bool.not_false, ne_eq] at hc2
        refine LW.no (by rfl) (by rfl) (by rfl) (by rfl) (by rfl) (by rfl) ?_
        refine LW.no (by rfl) (by rfl) (by rfl) (by rfl) (by rfl) (by rfl) ?_
        refine LW.v (r_pick) ?_
        refine LW.nil ?_
        refine TW.c rfl (fun h => by first | (cases h; done) | exact absurd h (by simp [hc0, hc1, hc2])) (fun _ => ?_)
        refine TW.skip <| TW.seq ?_
        refine TW.region ?_
        refine LW.v (r_mv) ?_
        refine LW.v (r_as) ?_
        refine LW.nil ?_
        refine TW.ret (ret1 (by rfl) rT ?_)
        exact ⟨by first | rfl | (simp [IntKind.bits, WhR.high, hc0, hc1, hc2]; done) | (exfalso; omega), by first | exact H | exact H.drop | exact H.drop.drop⟩
      · have hr2 := hb.symm; have hc2 := hb.symm; try simp only [beq_iff_eq, bne_iff_ne, beq_eq_false_iff_ne, bne_eq_false_iff_eq, decide_eq_true_eq, decide_eq_false_iff_not, Bool.not_eq_true', Bool.not_eq_false', Bool.true_eq, Bool.false_eq, ge_iff_le, gt_iff_lt, Bool.not_eq_eq_eq_not, Bool.not_true, Bool.not_false, ne_eq] at hc2
        refine LW.yes (by rfl) (by rfl) (by rfl) (by rfl) (by rfl) ?_
        refine LW.v (r_mv) ?_
        refine LW.yes (by rfl) (by rfl) (by rfl) (by rfl) (by rfl) ?_
        refine LW.v (r_bin) ?_
        refine LW.v (r_pick) ?_
        refine LW.nil ?_
        refine TW.c rfl (fun hb => ?_) (fun hb => ?_)
        · have hr3 := hb; have hc3 := hb; try simp only [beq_iff_eq, bne_iff_ne, beq_eq_false_iff_ne, bne_eq_false_iff_eq, decide_eq_true_eq, decide_eq_false_iff_not, Bool.not_eq_true', Bool.not_eq_false', Bool.true_eq, Bool.false_eq, ge_iff_le, gt_iff_lt, Bool.not_eq_eq_eq_not, Bool.not_true, Bool.not_false, ne_eq] at hc3
          refine TW.region ?_
          refine LW.v (r_mv) ?_
          refine LW.v (r_mv) ?_
          refine LW.v (r_bin) ?_
          refine LW.v (r_as) ?_
          refine LW.nil ?_
          refine TW.seq ?_
          refine TW.region ?_
          refine LW.v (r_mv) ?_
          refine LW.v (r_as) ?_
          refine LW.nil ?_
          refine TW.ret (ret1 (by rfl) rT ?_)
          exact ⟨by first | rfl | (simp [IntKind.bits, WhR.high, hc0, hc1, hc2, hc3]; done) | (exfalso; omega), by first | exact H | exact H.drop | exact H.drop.drop⟩
        · have hr3 := hb; have hc3 := hb; try simp only [beq_iff_eq, bne_iff_ne, beq_eq_false_iff_ne, bne_eq_false_iff_eq, decide_eq_true_eq, decide_eq_false_iff_not, Bool.not_eq_true', Bool.not_eq_false', Bool.true_eq, Bool.false_eq, ge_iff_le, gt_iff_lt, Bool.not_eq_eq_eq_not, Bool.not_true, Bool.not_false, ne_eq] at hc3
          refine TW.skip <| TW.seq ?_
          refine TW.region ?_
          refine LW.v (r_mv) ?_
          refine LW.v (r_as) ?_
          refine LW.nil ?_
          refine TW.ret (ret1 (by rfl) rT ?_)
          exact ⟨by first | rfl | (simp [IntKind.bits, WhR.high, hc0, hc1, hc2, hc3]; done) | (exfalso; omega), by first | exact H | exact H.drop | exact H.drop.drop⟩
theorem rof_spec (B : Nat) (w0 w : World) (L : List Ck) (g cap : Nat) (l : List Int) (hl : l.length = 32) {mk : Array Value → List Ck} (hb : HasB L g 24 (vU l) mk) (H : Hp B w0 w L) : Calls Tryz.prog 89 #[.slice (some ⟨g, 0, none⟩) 32 cap] w fun e w' => e = .returned (.int .u32 (WhR.ofL l)) ∧ Hp B w0 w' L := by
  refine calls_go Tryz.func89 Tryz.ntmps89 rfl rfl ?_
  refine TW.seq ?_
  refine TW.region ?_
  refine LW.v (r_as) ?_
  refine LW.nil ?_
  refine TW.seq ?_
  refine TW.region ?_
  refine LW.v (r_as) ?_
  refine LW.nil ?_
  refine TW.seq <| TW.seq ?_
  refine TW.region ?_
  refine LW.v (r_as) ?_
  refine LW.nil ?_
  refine TW.block ?_
  refine TW.lp (σ := Nat) (fun i w' => i ≤ 32 ∧ Hp B w0 w' L) (fun i => [(0, .slice (some ⟨g, 0, none⟩) 32 cap), (3, .int .u32 (WhR.ofL (l.drop i))), (4, .int .i64 ((i : Int) - 1))]) (fun i => i) (32) (⟨by omega, H⟩) (⟨rfl, by rw [List.drop_of_length_le (by omega)]; rfl, rfl, trivial⟩) ?_
  rintro i f w ⟨hi, H⟩ again
  refine TW.seq <| TW.seq ?_
  refine TW.region ?_
  refine LW.v (r_mv) ?_
  refine LW.v (r_bin) ?_
  refine LW.nil ?_
  refine TW.c rfl (fun hb => ?_) (fun hb => ?_)
  · have h1 : (0 : Int) ≤ (i : Int) - 1 := by simpa using hb
    obtain ⟨j, rfl⟩ : ∃ j, i = j + 1 := ⟨i - 1, by omega⟩
    have e1 : (((j + 1 : Nat) : Int) - 1).toNat = j := by omega
    have hg : l[(((j + 1 : Nat) : Int) - 1).toNat]? = some (l[j]'(by omega)) := by rw [e1]; exact List.getElem?_eq_getElem _
    refine TW.skip <| TW.seq <| TW.block ?_
    refine TW.region ?_
    refine LW.v (r_mv) ?_
    refine LW.v (r_bin) ?_
    refine LW.v (r_mv) ?_
    refine LW.v (r_mv) ?_
    refine LW.v (r_iaB (h0 := by omega) (h1 := by omega)) ?_
    refine LW.v (r_ldc (cellK (enc := u32v) (g := g) H hg)) ?_
    refine LW.v (r_bin) ?_
    refine LW.v (r_as) ?_
    refine LW.nil ?_
    refine TW.inBlock ?_
    refine TW.region ?_
    refine LW.v (r_mv) ?_
    first | refine LW.v (r_sub (hk := w64 (by omega) (by omega))) ?_ | refine LW.v (r_bin) ?_
    refine LW.v (r_as) ?_
    refine LW.nil ?_
    refine again j _ _ ⟨by omega, H⟩ ⟨rfl, ?_, congrArg (Value.int .i64) (by omega), trivial⟩ (by omega)
    refine congrArg (Value.int .u32) ?_
    rw [List.drop_eq_getElem_cons (show j < l.length by omega)]
    rfl
  · refine TW.exit rfl <| TW.seq ?_
    refine TW.region ?_
    refine LW.v (r_mv) ?_
    refine LW.v (r_as) ?_
    refine LW.nil ?_
    refine TW.ret (ret1 (by rfl) rT ?_)
    have h1 : ¬ (0 : Int) ≤ (i : Int) - 1 := by simpa using hb
    obtain rfl : i = 0 := by omega
    exact ⟨rfl, H⟩
theorem rshift_spec (B : Nat) (w0 w : World) (L : List Ck) (a k ab : Int) (hk : -40 ≤ k ∧ k ≤ 40) (H : Hp B w0 w L) : Calls Tryz.prog 68 #[.int .u32 a, .int .i64 k, .int .u32 ab] w fun e w' => e = .returned (.int .u32 (WhR.shift a k ab)) ∧ Hp B w0 w' L := by
  have hsl : (WhR.shiftL a k ab).length = 32 := by simp [WhR.shiftL]
  have hat : ∀ i : Nat, i < 32 → (WhR.shiftL a k ab)[i]? = some (if 31 < (i : Int) - k then ab else bit a ((i : Int) - k)) := by
    intro i hi
    simp [WhR.shiftL, hi]
  refine calls_go Tryz.func68 Tryz.ntmps68 rfl rfl ?_
  refine TW.seq ?_
  refine TW.region ?_
  refine LW.v (r_as) ?_
  refine LW.nil ?_
  refine TW.seq ?_
  refine TW.region ?_
  refine LW.new (r_mks (len := 32) H) ?_; intro g9 w H
  refine LW.v (r_as) ?_
  refine LW.nil ?_
  refine TW.seq <| TW.seq ?_
  refine TW.region ?_
  refine LW.v (r_as) ?_
  refine LW.nil ?_
  refine TW.block ?_
  have H : Hp B w0 w (Blk g9 24 (vU (fillN 0 (WhR.shiftL a k ab) 0)) :: L) := by rw [fillN_zero, hsl]; exact H
  refine TW.lp (σ := Nat) (fun i w' => i ≤ 32 ∧ Hp B w0 w' (Blk g9 24 (vU (fillN 0 (WhR.shiftL a k ab) i)) :: L)) (fun i => [(0, .int .u32 a), (1, .int .i64 k), (2, .int .u32 ab), (7, .slice (some ⟨g9, 0, none⟩) 32 32), (8, .int .i64 (i : Int))]) (fun i => 32 - i) (0) (⟨by omega, H⟩) (⟨rfl, rfl, rfl, rfl, rfl, trivial⟩) ?_
  rintro i f w ⟨hi, H⟩ again
  refine TW.seq <| TW.seq ?_
  refine TW.region ?_
  refine LW.v (r_mv) ?_
  refine LW.v (r_bin) ?_
  refine LW.nil ?_
  refine TW.c rfl (fun hb => ?_) (fun hb => ?_)
  · have hi3 : (i : Int) < 32 := by simpa using hb
    have hi2 : i < 32 := by omega
    have hfl := fillN_len (0 : Int) (WhR.shiftL a k ab) (n := i) (by omega)
    refine TW.skip <| TW.seq <| TW.block <| TW.seq ?_
    refine TW.region ?_
    refine LW.v (r_mv) ?_
    refine LW.v (r_mv) ?_
    refine LW.v (r_mv) ?_
    refine LW.v (r_mv) ?_
    refine LW.v (r_mv) ?_
    first | refine LW.v (r_sub (hk := w64 (by omega) (by omega))) ?_ | refine LW.v (r_bin) ?_
    refine LW.c r_c2 ((rbit_spec _ _ _ _ a ((i : Int) - k) H).mono ?_)
    rintro _ w ⟨rfl, H⟩
    refine ⟨_, rfl, ?_⟩
    refine LW.v (r_iaB (h0 := by omega) (h1 := by omega)) ?_
    refine LW.sto (r_stK (enc := u32v) (k := i) (xs := fillN 0 (WhR.shiftL a k ab) i) H (by omega) rfl) ?_; intro w H
    refine LW.nil ?_
    refine TW.seq ?_
    refine TW.region ?_
    refine LW.v (r_mv) ?_
    refine LW.v (r_mv) ?_
    first | refine LW.v (r_sub (hk := w64 (by omega) (by omega))) ?_ | refine LW.v (r_bin) ?_
    refine LW.v (r_bin) ?_
    refine LW.nil ?_
    refine TW.c rfl (fun hb => ?_) (fun hb => ?_)
    · have hc : 31 < (i : Int) - k := by simpa using hb
      refine TW.region ?_
      refine LW.v (r_mv) ?_
      refine LW.v (r_mv) ?_
      refine LW.v (r_mv) ?_
      refine LW.v (r_iaB (h0 := by omega) (h1 := by omega)) ?_
      refine LW.sto (r_stK (enc := u32v) (k := i) (xs := (fillN 0 (WhR.shiftL a k ab) i).set i (bit a ((i : Int) - k))) H (by rw [List.length_set]; omega) rfl) ?_; intro w H
      refine LW.nil ?_
      refine TW.inBlock ?_
      refine TW.region ?_
      refine LW.v (r_mv) ?_
      first | refine LW.v (r_add (hk := w64 (by omega) (by omega))) ?_ | refine LW.v (r_bin) ?_
      refine LW.v (r_as) ?_
      refine LW.nil ?_
      exact again (i + 1) _ _ ⟨by omega, by rw [← fillN_set 0 _ (hat i hi2)]; rw [if_pos hc]; rw [List.set_set] at H; exact H⟩ ⟨rfl, rfl, rfl, rfl, rfl, trivial⟩ (by omega)
    · have hc : ¬ 31 < (i : Int) - k := by simpa using hb
      refine TW.skip <| TW.inBlock ?_
      refine TW.region ?_
      refine LW.v (r_mv) ?_
      first | refine LW.v (r_add (hk := w64 (by omega) (by omega))) ?_ | refine LW.v (r_bin) ?_
      refine LW.v (r_as) ?_
      refine LW.nil ?_
      exact again (i + 1) _ _ ⟨by omega, by rw [← fillN_set 0 _ (hat i hi2)]; rw [if_neg hc]; exact H⟩ ⟨rfl, rfl, rfl, rfl, rfl, trivial⟩ (by omega)
  · have hi3 : ¬ (i : Int) < 32 := by simpa using hb
    obtain rfl : i = 32 := by omega
    have hfa : fillN 0 (WhR.shiftL a k ab) 32 = WhR.shiftL a k ab := by
      have := fillN_all 0 (WhR.shiftL a k ab)
      rwa [hsl] at this
    rw [hfa] at H
    refine TW.exit rfl <| TW.seq ?_
    refine TW.region ?_
    refine LW.v (r_mv) ?_
    refine LW.c r_c1 ((rof_spec _ _ _ _ g9 32 (WhR.shiftL a k ab) hsl inferInstance H).mono ?_)
    rintro _ w ⟨rfl, H⟩
    refine ⟨_, rfl, ?_⟩
    refine LW.v (r_as) ?_
    refine LW.nil ?_
    refine TW.ret (ret1 (by rfl) rT ?_)
    exact ⟨rfl, H.drop⟩
theorem rbits_spec (B : Nat) (w0 w : World) (L : List Ck) (op a b : Int) (H : Hp B w0 w L) : Calls Tryz.prog 67 #[.int .i64 op, .int .u32 a, .int .u32 b] w fun e w' => e = .returned (.int .u32 (WhR.bitsF op a b)) ∧ Hp B w0 w' L := by
  have hsl : (WhR.bitsL op a b).length = 32 := by simp [WhR.bitsL]
  have hat : ∀ i : Nat, i < 32 → (WhR.bitsL op a b)[i]? = some (bitOp op (bit a i) (bit b i)) := by
    intro i hi
    simp [WhR.bitsL, hi]
  refine calls_go Tryz.func67 Tryz.ntmps67 rfl rfl ?_
  refine TW.seq ?_
  refine TW.region ?_
  refine LW.v (r_as) ?_
  refine LW.nil ?_
  refine TW.seq ?_
  refine TW.region ?_
  refine LW.new (r_mks (len := 32) H) ?_; intro g9 w H
  refine LW.v (r_as) ?_
  refine LW.nil ?_
  refine TW.seq <| TW.seq ?_
  refine TW.region ?_
  refine LW.v (r_as) ?_
  refine LW.nil ?_
  refine TW.block ?_
  have H : Hp B w0 w (Blk g9 24 (vU (fillN 0 (WhR.bitsL op a b) 0)) :: L) := by rw [fillN_zero, hsl]; exact H
  refine TW.lp (σ := Nat) (fun i w' => i ≤ 32 ∧ Hp B w0 w' (Blk g9 24 (vU (fillN 0 (WhR.bitsL op a b) i)) :: L)) (fun i => [(0, .int .i64 op), (1, .int .u32 a), (2, .int .u32 b), (7, .slice (some ⟨g9, 0, none⟩) 32 32), (8, .int .i64 (i : Int))]) (fun i => 32 - i) (0) (⟨by omega, H⟩) (⟨rfl, rfl, rfl, rfl, rfl, trivial⟩) ?_
  rintro i f w ⟨hi, H⟩ again
  refine TW.seq <| TW.seq ?_
  refine TW.region ?_
  refine LW.v (r_mv) ?_
  refine LW.v (r_bin) ?_
  refine LW.nil ?_
  refine TW.c rfl (fun hb => ?_) (fun hb => ?_)
  · have hi3 : (i : Int) < 32 := by simpa using hb
    have hi2 : i < 32 := by omega
    have hfl := fillN_len (0 : Int) (WhR.bitsL op a b) (n := i) (by omega)
    refine TW.skip <| TW.seq <| TW.block <| TW.seq ?_
    refine TW.region ?_
    refine LW.v (r_mv) ?_
    refine LW.v (r_mv) ?_
    refine LW.c r_c2 ((rbit_spec _ _ _ _ a (i : Int) H).mono ?_)
    rintro _ w ⟨rfl, H⟩
    refine ⟨_, rfl, ?_⟩
    refine LW.v (r_mv) ?_
    refine LW.v (r_mv) ?_
    refine LW.c r_c2 ((rbit_spec _ _ _ _ b (i : Int) H).mono ?_)
    rintro _ w ⟨rfl, H⟩
    refine ⟨_, rfl, ?_⟩
    refine LW.v (r_as) ?_
    refine LW.v (r_as) ?_
    refine LW.nil ?_
    refine TW.seq ?_
    refine TW.region ?_
    refine LW.v (r_mv) ?_
    refine LW.nil ?_
    refine TW.block <| TW.seq ?_
    refine TW.region ?_
    refine LW.v (r_bin) ?_
    refine LW.v (r_as) ?_
    refine LW.nil ?_
    refine TW.c rfl (fun hb => ?_) (fun hb => ?_)
    · have he36 : op = 36 := by simpa using hb
      refine TW.region ?_
      refine LW.v (r_mv) ?_
      refine LW.v (r_mv) ?_
      refine LW.v (r_mv) ?_
      refine LW.v (r_mv) ?_
      refine LW.v (r_bin) ?_
      refine LW.v (r_iaB (h0 := by omega) (h1 := by omega)) ?_
      refine LW.sto (r_stK (enc := u32v) (k := i) (xs := fillN 0 (WhR.bitsL op a b) i) H (by omega) rfl) ?_; intro w H
      refine LW.nil ?_
      refine TW.inBlock <| TW.inBlock ?_
      refine TW.region ?_
      refine LW.v (r_mv) ?_
      first | refine LW.v (r_add (hk := w64 (by omega) (by omega))) ?_ | refine LW.v (r_bin) ?_
      refine LW.v (r_as) ?_
      refine LW.nil ?_
      exact again (i + 1) _ _ ⟨by omega, by rw [← fillN_set 0 _ (hat i hi2)]; simp only [bitOp, if_pos he36]; exact H⟩ ⟨rfl, rfl, rfl, rfl, rfl, trivial⟩ (by omega)
    · have hn36 : ¬ op = 36 := by simpa using hb
      refine TW.seq ?_
      refine TW.region ?_
      refine LW.v (r_bin) ?_
      refine LW.v (r_as) ?_
      refine LW.nil ?_
      refine TW.c rfl (fun hb => ?_) (fun hb => ?_)
      · have he35 : op = 35 := by simpa using hb
        refine TW.region ?_
        refine LW.v (r_mv) ?_
        refine LW.v (r_mv) ?_
        refine LW.v (r_mv) ?_
        refine LW.v (r_mv) ?_
        refine LW.v (r_bin) ?_
        refine LW.v (r_mv) ?_
        refine LW.v (r_mv) ?_
        refine LW.v (r_bin) ?_
        refine LW.v (r_bin) ?_
        refine LW.v (r_iaB (h0 := by omega) (h1 := by omega)) ?_
        refine LW.sto (r_stK (enc := u32v) (k := i) (xs := fillN 0 (WhR.bitsL op a b) i) H (by omega) rfl) ?_; intro w H
        refine LW.nil ?_
        refine TW.inBlock <| TW.inBlock ?_
        refine TW.region ?_
        refine LW.v (r_mv) ?_
        first | refine LW.v (r_add (hk := w64 (by omega) (by omega))) ?_ | refine LW.v (r_bin) ?_
        refine LW.v (r_as) ?_
        refine LW.nil ?_
        exact again (i + 1) _ _ ⟨by omega, by rw [← fillN_set 0 _ (hat i hi2)]; simp only [bitOp, if_neg hn36, if_pos he35]; exact H⟩ ⟨rfl, rfl, rfl, rfl, rfl, trivial⟩ (by omega)
      · have hn35 : ¬ op = 35 := by simpa using hb
        refine TW.seq ?_
        refine TW.region ?_
        refine LW.v (r_bin) ?_
        refine LW.v (r_as) ?_
        refine LW.nil ?_
        refine TW.c rfl (fun hb => ?_) (fun hb => ?_)
        · have he32 : op = 32 := by simpa using hb
          refine TW.region ?_
          refine LW.v (r_mv) ?_
          refine LW.v (r_mv) ?_
          refine LW.v (r_mv) ?_
          refine LW.v (r_mv) ?_
          refine LW.v (r_bin) ?_
          refine LW.v (r_rem (hb := by decide)) ?_
          refine LW.v (r_iaB (h0 := by omega) (h1 := by omega)) ?_
          refine LW.sto (r_stK (enc := u32v) (k := i) (xs := fillN 0 (WhR.bitsL op a b) i) H (by omega) rfl) ?_; intro w H
          refine LW.nil ?_
          refine TW.inBlock <| TW.inBlock ?_
          refine TW.region ?_
          refine LW.v (r_mv) ?_
          first | refine LW.v (r_add (hk := w64 (by omega) (by omega))) ?_ | refine LW.v (r_bin) ?_
          refine LW.v (r_as) ?_
          refine LW.nil ?_
          exact again (i + 1) _ _ ⟨by omega, by rw [← fillN_set 0 _ (hat i hi2)]; simp only [bitOp, if_neg hn36, if_neg hn35, if_pos he32]; exact H⟩ ⟨rfl, rfl, rfl, rfl, rfl, trivial⟩ (by omega)
        · have hn32 : ¬ op = 32 := by simpa using hb
          refine TW.skip <| TW.inBlock <| TW.inBlock ?_
          refine TW.region ?_
          refine LW.v (r_mv) ?_
          first | refine LW.v (r_add (hk := w64 (by omega) (by omega))) ?_ | refine LW.v (r_bin) ?_
          refine LW.v (r_as) ?_
          refine LW.nil ?_
          exact again (i + 1) _ _ ⟨by omega, by rw [← fillN_keep 0 _ (n := i) (by rw [hat i hi2]; simp only [bitOp, if_neg hn36, if_neg hn35, if_neg hn32])]; exact H⟩ ⟨rfl, rfl, rfl, rfl, rfl, trivial⟩ (by omega)
  · have hi3 : ¬ (i : Int) < 32 := by simpa using hb
    obtain rfl : i = 32 := by omega
    have hfa : fillN 0 (WhR.bitsL op a b) 32 = WhR.bitsL op a b := by
      have := fillN_all 0 (WhR.bitsL op a b)
      rwa [hsl] at this
    rw [hfa] at H
    refine TW.exit rfl <| TW.seq ?_
    refine TW.region ?_
    refine LW.v (r_mv) ?_
    refine LW.c r_c1 ((rof_spec _ _ _ _ g9 32 (WhR.bitsL op a b) hsl inferInstance H).mono ?_)
    rintro _ w ⟨rfl, H⟩
    refine ⟨_, rfl, ?_⟩
    refine LW.v (r_as) ?_
    refine LW.nil ?_
    refine TW.ret (ret1 (by rfl) rT ?_)
    exact ⟨rfl, H.drop⟩
theorem rdiv_spec (B : Nat) (w0 w : World) (L : List Ck) (op a b : Int) (h0 : 0 ≤ b) (h1 : b < 4294967296) (H : Hp B w0 w L) : Calls Tryz.prog 73 #[.int .i64 op, .int .u32 a, .int .u32 b] w fun e w' => e = .returned (.int .u32 (WhR.div op a b)) ∧ Hp B w0 w' L := by
  refine calls_go Tryz.func73 Tryz.ntmps73 rfl rfl ?_
  refine TW.seq ?_
  refine TW.region ?_
  refine LW.v (r_as) ?_
  refine LW.nil ?_
  refine TW.seq ?_
  refine TW.region ?_
  refine LW.v (r_mv) ?_
  refine LW.v (r_bin) ?_
  refine LW.v (r_mv) ?_
  refine LW.gen fun b hb => ?_; cases b
  · have hr0 := hb.symm; have hc0 := hb.symm; try simp only [beq_iff_eq, bne_iff_ne, beq_eq_false_iff_ne, bne_eq_false_iff_eq, decide_eq_true_eq, decide_eq_false_iff_not, Bool.not_eq_true', Bool.not_eq_false', Bool.true_eq, Bool.false_eq, ge_iff_le, gt_iff_lt, Bool.not_eq_eq_eq_not, Bool.not_true, Bool.not_false, ne_eq] at hc0
    refine LW.yes (by rfl) (by rfl) (by rfl) (by rfl) (by rfl) ?_
    refine LW.v (r_mv) ?_
    refine LW.yes (by rfl) (by rfl) (by rfl) (by rfl) (by rfl) ?_
    refine LW.v (r_bin) ?_
    refine LW.v (r_pick) ?_
    refine LW.v (r_as) ?_
    refine LW.nil ?_
    refine TW.seq <| TW.seq ?_
    refine TW.region ?_
    refine LW.v (r_mv) ?_
    refine LW.v (r_bin) ?_
    refine LW.nil ?_
    refine TW.c rfl (fun hb => ?_) (fun hb => ?_)
    · have hr1 := hb; have hc1 := hb; try simp only [beq_iff_eq, bne_iff_ne, beq_eq_false_iff_ne, bne_eq_false_iff_eq, decide_eq_true_eq, decide_eq_false_iff_not, Bool.not_eq_true', Bool.not_eq_false', Bool.true_eq, Bool.false_eq, ge_iff_le, gt_iff_lt, Bool.not_eq_eq_eq_not, Bool.not_true, Bool.not_false, ne_eq] at hc1
      refine TW.seq <| TW.seq ?_
      refine TW.region ?_
      refine LW.v (r_mv) ?_
      refine LW.nil ?_
      refine TW.c rfl (fun hb => ?_) (fun hb => ?_)
      · have hr2 := hb; have hc2 := hb; try simp only [beq_iff_eq, bne_iff_ne, beq_eq_false_iff_ne, bne_eq_false_iff_eq, decide_eq_true_eq, decide_eq_false_iff_not, Bool.not_eq_true', Bool.not_eq_false', Bool.true_eq, Bool.false_eq, ge_iff_le, gt_iff_lt, Bool.not_eq_eq_eq_not, Bool.not_true, Bool.not_false, ne_eq] at hc2
        refine TW.seq ?_
        refine TW.region ?_
        refine LW.v (r_mv) ?_
        refine LW.v (r_as) ?_
        refine LW.nil ?_
        refine TW.ret (ret1 (by rfl) rT ?_)
        exact ⟨by first | rfl | (simp [IntKind.bits, WhR.div, hc0, hc1, hc2]; done) | (exfalso; omega), by first | exact H | exact H.drop | exact H.drop.drop⟩
      · have hr2 := hb; have hc2 := hb; try simp only [beq_iff_eq, bne_iff_ne, beq_eq_false_iff_ne, bne_eq_false_iff_eq, decide_eq_true_eq, decide_eq_false_iff_not, Bool.not_eq_true', Bool.not_eq_false', Bool.true_eq, Bool.false_eq, ge_iff_le, gt_iff_lt, Bool.not_eq_eq_eq_not, Bool.not_true, Bool.not_false, ne_eq] at hc2
        refine TW.skip <| TW.seq ?_
        refine TW.region ?_
        refine LW.v (r_as) ?_
        refine LW.nil ?_
        refine TW.ret (ret1 (by rfl) rT ?_)
        exact ⟨by first | rfl | (simp [IntKind.bits, WhR.div, hc0, hc1, hc2]; done) | (exfalso; omega), by first | exact H | exact H.drop | exact H.drop.drop⟩
    · have hr1 := hb; have hc1 := hb; try simp only [beq_iff_eq, bne_iff_ne, beq_eq_false_iff_ne, bne_eq_false_iff_eq, decide_eq_true_eq, decide_eq_false_iff_not, Bool.not_eq_true', Bool.not_eq_false', Bool.true_eq, Bool.false_eq, ge_iff_le, gt_iff_lt, Bool.not_eq_eq_eq_not, Bool.not_true, Bool.not_false, ne_eq] at hc1
      refine TW.skip <| TW.seq ?_
      refine TW.region ?_
      refine LW.v (r_mv) ?_
      refine LW.v (r_cv) ?_
      refine LW.v (r_mv) ?_
      refine LW.v (r_cv) ?_
      refine LW.v (r_as) ?_
      refine LW.v (r_as) ?_
      refine LW.nil ?_
      refine TW.seq <| TW.seq ?_
      refine TW.region ?_
      refine LW.v (r_mv) ?_
      refine LW.v (r_bin) ?_
      refine LW.v (r_mv) ?_
      refine LW.gen fun b hb => ?_; cases b
      · have hr2 := hb.symm; have hc2 := hb.symm; try simp only [beq_iff_eq, bne_iff_ne, beq_eq_false_iff_ne, bne_eq_false_iff_eq, decide_eq_true_eq, decide_eq_false_iff_not, Bool.not_eq_true', Bool.not_eq_false', Bool.true_eq, Bool.false_eq, ge_iff_le, gt_iff_lt, Bool.not_eq_eq_eq_not, Bool.not_true, Bool.not_false, ne_eq] at hc2
        refine LW.yes (by rfl) (by rfl) (by rfl) (by rfl) (by rfl) ?_
        refine LW.v (r_mv) ?_
        refine LW.yes (by rfl) (by rfl) (by rfl) (by rfl) (by rfl) ?_
        refine LW.v (r_bin) ?_
        refine LW.v (r_pick) ?_
        refine LW.nil ?_
        refine TW.c rfl (fun hb => ?_) (fun hb => ?_)
        · have hr3 := hb; have hc3 := hb; try simp only [beq_iff_eq, bne_iff_ne, beq_eq_false_iff_ne, bne_eq_false_iff_eq, decide_eq_true_eq, decide_eq_false_iff_not, Bool.not_eq_true', Bool.not_eq_false', Bool.true_eq, Bool.false_eq, ge_iff_le, gt_iff_lt, Bool.not_eq_eq_eq_not, Bool.not_true, Bool.not_false, ne_eq] at hc3
          refine TW.seq ?_
          refine TW.region ?_
          refine LW.v (r_mv) ?_
          refine LW.c r_c1 ((rnum_spec _ _ _ _ a H).mono ?_)
          rintro _ w ⟨rfl, H⟩
          refine ⟨_, rfl, ?_⟩
          refine LW.v (r_as) ?_
          refine LW.nil ?_
          refine TW.region ?_
          refine LW.v (r_mv) ?_
          refine LW.c r_c1 ((rnum_spec _ _ _ _ b H).mono ?_)
          rintro _ w ⟨rfl, H⟩
          refine ⟨_, rfl, ?_⟩
          refine LW.v (r_as) ?_
          refine LW.nil ?_
          refine TW.seq <| TW.seq ?_
          refine TW.region ?_
          refine LW.v (r_mv) ?_
          refine LW.nil ?_
          refine TW.c rfl (fun hb => ?_) (fun hb => ?_)
          · have hr4 := hb; have hc4 := hb; try simp only [beq_iff_eq, bne_iff_ne, beq_eq_false_iff_ne, bne_eq_false_iff_eq, decide_eq_true_eq, decide_eq_false_iff_not, Bool.not_eq_true', Bool.not_eq_false', Bool.true_eq, Bool.false_eq, ge_iff_le, gt_iff_lt, Bool.not_eq_eq_eq_not, Bool.not_true, Bool.not_false, ne_eq] at hc4
            refine TW.seq ?_
            refine TW.region ?_
            refine LW.v (r_mv) ?_
            refine LW.v (r_mv) ?_
            refine LW.v (r_mv) ?_
            refine LW.v (r_quo (hb := (by first | exact num_ne h0 h1 (by assumption) | (show IntKind.i64.wrap b ≠ 0; rw [i64_id (by omega) (by omega)]; assumption)))) ?_
            refine LW.v (r_mv) ?_
            refine LW.v (r_bin) ?_
            refine LW.v (r_bin) ?_
            refine LW.v (r_cv) ?_
            refine LW.v (r_as) ?_
            refine LW.nil ?_
            refine TW.ret (ret1 (by rfl) rT ?_)
            exact ⟨by first | rfl | (simp [IntKind.bits, WhR.div, hc0, hc1, hc2, hc3, hc4]; done) | (exfalso; omega), by first | exact H | exact H.drop | exact H.drop.drop⟩
          · have hr4 := hb; have hc4 := hb; try simp only [beq_iff_eq, bne_iff_ne, beq_eq_false_iff_ne, bne_eq_false_iff_eq, decide_eq_true_eq, decide_eq_false_iff_not, Bool.not_eq_true', Bool.not_eq_false', Bool.true_eq, Bool.false_eq, ge_iff_le, gt_iff_lt, Bool.not_eq_eq_eq_not, Bool.not_true, Bool.not_false, ne_eq] at hc4
            refine TW.skip <| TW.seq ?_
            refine TW.region ?_
            refine LW.v (r_mv) ?_
            refine LW.v (r_mv) ?_
            refine LW.v (r_quo (hb := (by first | exact num_ne h0 h1 (by assumption) | (show IntKind.i64.wrap b ≠ 0; rw [i64_id (by omega) (by omega)]; assumption)))) ?_
            refine LW.v (r_cv) ?_
            refine LW.v (r_as) ?_
            refine LW.nil ?_
            refine TW.ret (ret1 (by rfl) rT ?_)
            exact ⟨by first | rfl | (simp [IntKind.bits, WhR.div, hc0, hc1, hc2, hc3, hc4]; done) | (exfalso; omega), by first | exact H | exact H.drop | exact H.drop.drop⟩
        · have hr3 := hb; have hc3 := hb; try simp only [beq_iff_eq, bne_iff_ne, beq_eq_false_iff_ne, bne_eq_false_iff_eq, decide_eq_true_eq, decide_eq_false_iff_not, Bool.not_eq_true', Bool.not_eq_false', Bool.true_eq, Bool.false_eq, ge_iff_le, gt_iff_lt, Bool.not_eq_eq_eq_not, Bool.not_true, Bool.not_false, ne_eq] at hc3
          refine TW.skip <| TW.seq <| TW.seq ?_
          refine TW.region ?_
          refine LW.v (r_mv) ?_
          refine LW.nil ?_
          refine TW.c rfl (fun hb => ?_) (fun hb => ?_)
          · have hr4 := hb; have hc4 := hb; try simp only [beq_iff_eq, bne_iff_ne, beq_eq_false_iff_ne, bne_eq_false_iff_eq, decide_eq_true_eq, decide_eq_false_iff_not, Bool.not_eq_true', Bool.not_eq_false', Bool.true_eq, Bool.false_eq, ge_iff_le, gt_iff_lt, Bool.not_eq_eq_eq_not, Bool.not_true, Bool.not_false, ne_eq] at hc4
            refine TW.seq ?_
            refine TW.region ?_
            refine LW.v (r_mv) ?_
            refine LW.v (r_mv) ?_
            refine LW.v (r_mv) ?_
            refine LW.v (r_quo (hb := (by first | exact num_ne h0 h1 (by assumption) | (show IntKind.i64.wrap b ≠ 0; rw [i64_id (by omega) (by omega)]; assumption)))) ?_
            refine LW.v (r_mv) ?_
            refine LW.v (r_bin) ?_
            refine LW.v (r_bin) ?_
            refine LW.v (r_cv) ?_
            refine LW.v (r_as) ?_
            refine LW.nil ?_
            refine TW.ret (ret1 (by rfl) rT ?_)
            exact ⟨by first | rfl | (simp [IntKind.bits, WhR.div, hc0, hc1, hc2, hc3, hc4]; done) | (exfalso; omega), by first | exact H | exact H.drop | exact H.drop.drop⟩
          · have hr4 := hb; have hc4 := hb; try simp only [beq_iff_eq, bne_iff_ne, beq_eq_false_iff_ne, bne_eq_false_iff_eq, decide_eq_true_eq, decide_eq_false_iff_not, Bool.not_eq_true', Bool.not_eq_false', Bool.true_eq, Bool.false_eq, ge_iff_le, gt_iff_lt, Bool.not_eq_eq_eq_not, Bool.not_true, Bool.not_false, ne_eq] at hc4
            refine TW.skip <| TW.seq ?_
            refine TW.region ?_
            refine LW.v (r_mv) ?_
            refine LW.v (r_mv) ?_
            refine LW.v (r_quo (hb := (by first | exact num_ne h0 h1 (by assumption) | (show IntKind.i64.wrap b ≠ 0; rw [i64_id (by omega) (by omega)]; assumption)))) ?_
            refine LW.v (r_cv) ?_
            refine LW.v (r_as) ?_
            refine LW.nil ?_
            refine TW.ret (ret1 (by rfl) rT ?_)
            exact ⟨by first | rfl | (simp [IntKind.bits, WhR.div, hc0, hc1, hc2, hc3, hc4]; done) | (exfalso; omega), by first | exact H | exact H.drop | exact H.drop.drop⟩
      · have hr2 := hb.symm; have hc2 := hb.symm; try simp only [beq_iff_eq, bne_iff_ne, beq_eq_false_iff_ne, bne_eq_false_iff_eq, decide_eq_true_eq, decide_eq_false_iff_not, Bool.not_eq_true', Bool.not_eq_false', Bool.true_eq, Bool.false_eq, ge_iff_le, gt_iff_lt, Bool.not_eq_eq_eq_not, Bool.not_true, Bool.not_false, ne_eq] at hc2
        refine LW.no (by rfl) (by rfl) (by rfl) (by rfl) (by rfl) (by rfl) ?_
        refine LW.no (by rfl) (by rfl) (by rfl) (by rfl) (by rfl) (by rfl) ?_
        refine LW.v (r_pick) ?_
        refine LW.nil ?_
        refine TW.c rfl (fun _ => ?_) (fun h => by first | (cases h; done) | exact absurd h (by simp [hc0, hc1, hc2]))
        refine TW.seq ?_
        refine TW.region ?_
        refine LW.v (r_mv) ?_
        refine LW.c r_c1 ((rnum_spec _ _ _ _ a H).mono ?_)
        rintro _ w ⟨rfl, H⟩
        refine ⟨_, rfl, ?_⟩
        refine LW.v (r_as) ?_
        refine LW.nil ?_
        refine TW.region ?_
        refine LW.v (r_mv) ?_
        refine LW.c r_c1 ((rnum_spec _ _ _ _ b H).mono ?_)
        rintro _ w ⟨rfl, H⟩
        refine ⟨_, rfl, ?_⟩
        refine LW.v (r_as) ?_
        refine LW.nil ?_
        refine TW.seq <| TW.seq ?_
        refine TW.region ?_
        refine LW.v (r_mv) ?_
        refine LW.nil ?_
        refine TW.c rfl (fun hb => ?_) (fun hb => ?_)
        · have hr3 := hb; have hc3 := hb; try simp only [beq_iff_eq, bne_iff_ne, beq_eq_false_iff_ne, bne_eq_false_iff_eq, decide_eq_true_eq, decide_eq_false_iff_not, Bool.not_eq_true', Bool.not_eq_false', Bool.true_eq, Bool.false_eq, ge_iff_le, gt_iff_lt, Bool.not_eq_eq_eq_not, Bool.not_true, Bool.not_false, ne_eq] at hc3
          refine TW.seq ?_
          refine TW.region ?_
          refine LW.v (r_mv) ?_
          refine LW.v (r_mv) ?_
          refine LW.v (r_mv) ?_
          refine LW.v (r_quo (hb := (by first | exact num_ne h0 h1 (by assumption) | (show IntKind.i64.wrap b ≠ 0; rw [i64_id (by omega) (by omega)]; assumption)))) ?_
          refine LW.v (r_mv) ?_
          refine LW.v (r_bin) ?_
          refine LW.v (r_bin) ?_
          refine LW.v (r_cv) ?_
          refine LW.v (r_as) ?_
          refine LW.nil ?_
          refine TW.ret (ret1 (by rfl) rT ?_)
          exact ⟨by first | rfl | (simp [IntKind.bits, WhR.div, hc0, hc1, hc2, hc3]; done) | (exfalso; omega), by first | exact H | exact H.drop | exact H.drop.drop⟩
        · have hr3 := hb; have hc3 := hb; try simp only [beq_iff_eq, bne_iff_ne, beq_eq_false_iff_ne, bne_eq_false_iff_eq, decide_eq_true_eq, decide_eq_false_iff_not, Bool.not_eq_true', Bool.not_eq_false', Bool.true_eq, Bool.false_eq, ge_iff_le, gt_iff_lt, Bool.not_eq_eq_eq_not, Bool.not_true, Bool.not_false, ne_eq] at hc3
          refine TW.skip <| TW.seq ?_
          refine TW.region ?_
          refine LW.v (r_mv) ?_
          refine LW.v (r_mv) ?_
          refine LW.v (r_quo (hb := (by first | exact num_ne h0 h1 (by assumption) | (show IntKind.i64.wrap b ≠ 0; rw [i64_id (by omega) (by omega)]; assumption)))) ?_
          refine LW.v (r_cv) ?_
          refine LW.v (r_as) ?_
          refine LW.nil ?_
          refine TW.ret (ret1 (by rfl) rT ?_)
          exact ⟨by first | rfl | (simp [IntKind.bits, WhR.div, hc0, hc1, hc2, hc3]; done) | (exfalso; omega), by first | exact H | exact H.drop | exact H.drop.drop⟩
  · have hr0 := hb.symm; have hc0 := hb.symm; try simp only [beq_iff_eq, bne_iff_ne, beq_eq_false_iff_ne, bne_eq_false_iff_eq, decide_eq_true_eq, decide_eq_false_iff_not, Bool.not_eq_true', Bool.not_eq_false', Bool.true_eq, Bool.false_eq, ge_iff_le, gt_iff_lt, Bool.not_eq_eq_eq_not, Bool.not_true, Bool.not_false, ne_eq] at hc0
    refine LW.no (by rfl) (by rfl) (by rfl) (by rfl) (by rfl) (by rfl) ?_
    refine LW.no (by rfl) (by rfl) (by rfl) (by rfl) (by rfl) (by rfl) ?_
    refine LW.v (r_pick) ?_
    refine LW.v (r_as) ?_
    refine LW.nil ?_
    refine TW.seq <| TW.seq ?_
    refine TW.region ?_
    refine LW.v (r_mv) ?_
    refine LW.v (r_bin) ?_
    refine LW.nil ?_
    refine TW.c rfl (fun hb => ?_) (fun hb => ?_)
    · have hr1 := hb; have hc1 := hb; try simp only [beq_iff_eq, bne_iff_ne, beq_eq_false_iff_ne, bne_eq_false_iff_eq, decide_eq_true_eq, decide_eq_false_iff_not, Bool.not_eq_true', Bool.not_eq_false', Bool.true_eq, Bool.false_eq, ge_iff_le, gt_iff_lt, Bool.not_eq_eq_eq_not, Bool.not_true, Bool.not_false, ne_eq] at hc1
      refine TW.seq <| TW.seq ?_
      refine TW.region ?_
      refine LW.v (r_mv) ?_
      refine LW.nil ?_
      refine TW.c rfl (fun _ => ?_) (fun h => by first | (cases h; done) | exact absurd h (by simp [hc0, hc1]))
      refine TW.seq ?_
      refine TW.region ?_
      refine LW.v (r_mv) ?_
      refine LW.v (r_as) ?_
      refine LW.nil ?_
      refine TW.ret (ret1 (by rfl) rT ?_)
      exact ⟨by first | rfl | (simp [IntKind.bits, WhR.div, hc0, hc1]; done) | (exfalso; omega), by first | exact H | exact H.drop | exact H.drop.drop⟩
    · have hr1 := hb; have hc1 := hb; try simp only [beq_iff_eq, bne_iff_ne, beq_eq_false_iff_ne, bne_eq_false_iff_eq, decide_eq_true_eq, decide_eq_false_iff_not, Bool.not_eq_true', Bool.not_eq_false', Bool.true_eq, Bool.false_eq, ge_iff_le, gt_iff_lt, Bool.not_eq_eq_eq_not, Bool.not_true, Bool.not_false, ne_eq] at hc1
      refine TW.skip <| TW.seq ?_
      refine TW.region ?_
      refine LW.v (r_mv) ?_
      refine LW.v (r_cv) ?_
      refine LW.v (r_mv) ?_
      refine LW.v (r_cv) ?_
      refine LW.v (r_as) ?_
      refine LW.v (r_as) ?_
      refine LW.nil ?_
      refine TW.seq <| TW.seq ?_
      refine TW.region ?_
      refine LW.v (r_mv) ?_
      refine LW.v (r_bin) ?_
      refine LW.v (r_mv) ?_
      refine LW.gen fun b hb => ?_; cases b
      · have hr2 := hb.symm; have hc2 := hb.symm; try simp only [beq_iff_eq, bne_iff_ne, beq_eq_false_iff_ne, bne_eq_false_iff_eq, decide_eq_true_eq, decide_eq_false_iff_not, Bool.not_eq_true', Bool.not_eq_false', Bool.true_eq, Bool.false_eq, ge_iff_le, gt_iff_lt, Bool.not_eq_eq_eq_not, Bool.not_true, Bool.not_false, ne_eq] at hc2
        refine LW.yes (by rfl) (by rfl) (by rfl) (by rfl) (by rfl) ?_
        refine LW.v (r_mv) ?_
        refine LW.yes (by rfl) (by rfl) (by rfl) (by rfl) (by rfl) ?_
        refine LW.v (r_bin) ?_
        refine LW.v (r_pick) ?_
        refine LW.nil ?_
        refine TW.c rfl (fun hb => ?_) (fun hb => ?_)
        · have hr3 := hb; have hc3 := hb; try simp only [beq_iff_eq, bne_iff_ne, beq_eq_false_iff_ne, bne_eq_false_iff_eq, decide_eq_true_eq, decide_eq_false_iff_not, Bool.not_eq_true', Bool.not_eq_false', Bool.true_eq, Bool.false_eq, ge_iff_le, gt_iff_lt, Bool.not_eq_eq_eq_not, Bool.not_true, Bool.not_false, ne_eq] at hc3
          refine TW.seq ?_
          refine TW.region ?_
          refine LW.v (r_mv) ?_
          refine LW.c r_c1 ((rnum_spec _ _ _ _ a H).mono ?_)
          rintro _ w ⟨rfl, H⟩
          refine ⟨_, rfl, ?_⟩
          refine LW.v (r_as) ?_
          refine LW.nil ?_
          refine TW.region ?_
          refine LW.v (r_mv) ?_
          refine LW.c r_c1 ((rnum_spec _ _ _ _ b H).mono ?_)
          rintro _ w ⟨rfl, H⟩
          refine ⟨_, rfl, ?_⟩
          refine LW.v (r_as) ?_
          refine LW.nil ?_
          refine TW.seq <| TW.seq ?_
          refine TW.region ?_
          refine LW.v (r_mv) ?_
          refine LW.nil ?_
          refine TW.c rfl (fun _ => ?_) (fun h => by first | (cases h; done) | exact absurd h (by simp [hc0, hc1, hc2, hc3]))
          refine TW.seq ?_
          refine TW.region ?_
          refine LW.v (r_mv) ?_
          refine LW.v (r_mv) ?_
          refine LW.v (r_mv) ?_
          refine LW.v (r_quo (hb := (by first | exact num_ne h0 h1 (by assumption) | (show IntKind.i64.wrap b ≠ 0; rw [i64_id (by omega) (by omega)]; assumption)))) ?_
          refine LW.v (r_mv) ?_
          refine LW.v (r_bin) ?_
          refine LW.v (r_bin) ?_
          refine LW.v (r_cv) ?_
          refine LW.v (r_as) ?_
          refine LW.nil ?_
          refine TW.ret (ret1 (by rfl) rT ?_)
          exact ⟨by first | rfl | (simp [IntKind.bits, WhR.div, hc0, hc1, hc2, hc3]; done) | (exfalso; omega), by first | exact H | exact H.drop | exact H.drop.drop⟩
        · have hr3 := hb; have hc3 := hb; try simp only [beq_iff_eq, bne_iff_ne, beq_eq_false_iff_ne, bne_eq_false_iff_eq, decide_eq_true_eq, decide_eq_false_iff_not, Bool.not_eq_true', Bool.not_eq_false', Bool.true_eq, Bool.false_eq, ge_iff_le, gt_iff_lt, Bool.not_eq_eq_eq_not, Bool.not_true, Bool.not_false, ne_eq] at hc3
          refine TW.skip <| TW.seq <| TW.seq ?_
          refine TW.region ?_
          refine LW.v (r_mv) ?_
          refine LW.nil ?_
          refine TW.c rfl (fun _ => ?_) (fun h => by first | (cases h; done) | exact absurd h (by simp [hc0, hc1, hc2, hc3]))
          refine TW.seq ?_
          refine TW.region ?_
          refine LW.v (r_mv) ?_
          refine LW.v (r_mv) ?_
          refine LW.v (r_mv) ?_
          refine LW.v (r_quo (hb := (by first | exact num_ne h0 h1 (by assumption) | (show IntKind.i64.wrap b ≠ 0; rw [i64_id (by omega) (by omega)]; assumption)))) ?_
          refine LW.v (r_mv) ?_
          refine LW.v (r_bin) ?_
          refine LW.v (r_bin) ?_
          refine LW.v (r_cv) ?_
          refine LW.v (r_as) ?_
          refine LW.nil ?_
          refine TW.ret (ret1 (by rfl) rT ?_)
          exact ⟨by first | rfl | (simp [IntKind.bits, WhR.div, hc0, hc1, hc2, hc3]; done) | (exfalso; omega), by first | exact H | exact H.drop | exact H.drop.drop⟩
      · have hr2 := hb.symm; have hc2 := hb.symm; try simp only [beq_iff_eq, bne_iff_ne, beq_eq_false_iff_ne, bne_eq_false_iff_eq, decide_eq_true_eq, decide_eq_false_iff_not, Bool.not_eq_true', Bool.not_eq_false', Bool.true_eq, Bool.false_eq, ge_iff_le, gt_iff_lt, Bool.not_eq_eq_eq_not, Bool.not_true, Bool.not_false, ne_eq] at hc2
        refine LW.no (by rfl) (by rfl) (by rfl) (by rfl) (by rfl) (by rfl) ?_
        refine LW.no (by rfl) (by rfl) (by rfl) (by rfl) (by rfl) (by rfl) ?_
        refine LW.v (r_pick) ?_
        refine LW.nil ?_
        refine TW.c rfl (fun _ => ?_) (fun h => by first | (cases h; done) | exact absurd h (by simp [hc0, hc1, hc2]))
        refine TW.seq ?_
        refine TW.region ?_
        refine LW.v (r_mv) ?_
        refine LW.c r_c1 ((rnum_spec _ _ _ _ a H).mono ?_)
        rintro _ w ⟨rfl, H⟩
        refine ⟨_, rfl, ?_⟩
        refine LW.v (r_as) ?_
        refine LW.nil ?_
        refine TW.region ?_
        refine LW.v (r_mv) ?_
        refine LW.c r_c1 ((rnum_spec _ _ _ _ b H).mono ?_)
        rintro _ w ⟨rfl, H⟩
        refine ⟨_, rfl, ?_⟩
        refine LW.v (r_as) ?_
        refine LW.nil ?_
        refine TW.seq <| TW.seq ?_
        refine TW.region ?_
        refine LW.v (r_mv) ?_
        refine LW.nil ?_
        refine TW.c rfl (fun _ => ?_) (fun h => by first | (cases h; done) | exact absurd h (by simp [hc0, hc1, hc2]))
        refine TW.seq ?_
        refine TW.region ?_
        refine LW.v (r_mv) ?_
        refine LW.v (r_mv) ?_
        refine LW.v (r_mv) ?_
        refine LW.v (r_quo (hb := (by first | exact num_ne h0 h1 (by assumption) | (show IntKind.i64.wrap b ≠ 0; rw [i64_id (by omega) (by omega)]; assumption)))) ?_
        refine LW.v (r_mv) ?_
        refine LW.v (r_bin) ?_
        refine LW.v (r_bin) ?_
        refine LW.v (r_cv) ?_
        refine LW.v (r_as) ?_
        refine LW.nil ?_
        refine TW.ret (ret1 (by rfl) rT ?_)
        exact ⟨by first | rfl | (simp [IntKind.bits, WhR.div, hc0, hc1, hc2]; done) | (exfalso; omega), by first | exact H | exact H.drop | exact H.drop.drop⟩
theorem rdo_spec (B : Nat) (w0 w : World) (L : List Ck) (op a b : Int) (h0 : 0 ≤ b) (h1 : b < 4294967296) (H : Hp B w0 w L) : Calls Tryz.prog 39 #[.int .i64 op, .int .u32 a, .int .u32 b] w fun e w' => e = .returned (.tuple #[.int .u32 (WhR.rdo op a b).1, .int .i64 (WhR.rdo op a b).2]) ∧ Hp B w0 w' L := by
  have hm : IntKind.i64.wrap (b.tmod 32) = b.tmod 32 := by
    have h2 : b.tmod 32 = b % 32 := Int.tmod_eq_emod_of_nonneg h0
    exact i64_id (by omega) (by omega)
  have hs1 : -40 ≤ IntKind.i64.wrap (b.tmod 32) ∧ IntKind.i64.wrap (b.tmod 32) ≤ 40 := by
    have h2 : b.tmod 32 = b % 32 := Int.tmod_eq_emod_of_nonneg h0
    rw [hm]; omega
  have hs2 : -40 ≤ IntKind.i64.wrap (0 - IntKind.i64.wrap (b.tmod 32)) ∧ IntKind.i64.wrap (0 - IntKind.i64.wrap (b.tmod 32)) ≤ 40 := by
    rw [i64_id (n := 0 - IntKind.i64.wrap (b.tmod 32)) (by omega) (by omega)]
    omega
  refine calls_go Tryz.func39 Tryz.ntmps39 rfl rfl ?_
  refine TW.seq ?_
  refine TW.region ?_
  refine LW.v (r_as) ?_
  refine LW.v (r_as) ?_
  refine LW.nil ?_
  refine TW.seq ?_
  refine TW.region ?_
  refine LW.v (r_mv) ?_
  refine LW.v (r_rem (hb := by decide)) ?_
  refine LW.v (r_cv) ?_
  refine LW.v (r_as) ?_
  refine LW.nil ?_
  refine TW.seq <| TW.seq ?_
  refine TW.region ?_
  refine LW.v (r_mv) ?_
  refine LW.nil ?_
  refine TW.block <| TW.seq ?_
  refine TW.region ?_
  refine LW.v (r_bin) ?_
  refine LW.v (r_as) ?_
  refine LW.nil ?_
  refine TW.c rfl (fun hb => ?_) (fun hb => ?_)
  · have hr0 := hb; have hc0 := hb; try simp only [beq_iff_eq, bne_iff_ne, beq_eq_false_iff_ne, bne_eq_false_iff_eq, decide_eq_true_eq, decide_eq_false_iff_not, Bool.not_eq_true', Bool.not_eq_false', Bool.true_eq, Bool.false_eq, ge_iff_le, gt_iff_lt, Bool.not_eq_eq_eq_not, Bool.not_true, Bool.not_false, ne_eq] at hc0
    refine TW.seq ?_
    refine TW.region ?_
    refine LW.v (r_mv) ?_
    refine LW.v (r_mv) ?_
    refine LW.v (r_bin) ?_
    refine LW.v (r_as) ?_
    refine LW.v (r_as) ?_
    refine LW.nil ?_
    refine TW.ret (ret2 (by rfl) rT rT ?_)
    exact ⟨by first | rfl | (simp [IntKind.bits, WhR.rdo, hc0]; done) | (exfalso; omega), by first | exact H | exact H.drop | exact H.drop.drop⟩
  · have hr0 := hb; have hc0 := hb; try simp only [beq_iff_eq, bne_iff_ne, beq_eq_false_iff_ne, bne_eq_false_iff_eq, decide_eq_true_eq, decide_eq_false_iff_not, Bool.not_eq_true', Bool.not_eq_false', Bool.true_eq, Bool.false_eq, ge_iff_le, gt_iff_lt, Bool.not_eq_eq_eq_not, Bool.not_true, Bool.not_false, ne_eq] at hc0
    refine TW.seq ?_
    refine TW.region ?_
    refine LW.v (r_bin) ?_
    refine LW.v (r_as) ?_
    refine LW.nil ?_
    refine TW.c rfl (fun hb => ?_) (fun hb => ?_)
    · have hr1 := hb; have hc1 := hb; try simp only [beq_iff_eq, bne_iff_ne, beq_eq_false_iff_ne, bne_eq_false_iff_eq, decide_eq_true_eq, decide_eq_false_iff_not, Bool.not_eq_true', Bool.not_eq_false', Bool.true_eq, Bool.false_eq, ge_iff_le, gt_iff_lt, Bool.not_eq_eq_eq_not, Bool.not_true, Bool.not_false, ne_eq] at hc1
      refine TW.seq ?_
      refine TW.region ?_
      refine LW.v (r_mv) ?_
      refine LW.v (r_mv) ?_
      refine LW.v (r_bin) ?_
      refine LW.v (r_as) ?_
      refine LW.v (r_as) ?_
      refine LW.nil ?_
      refine TW.ret (ret2 (by rfl) rT rT ?_)
      exact ⟨by first | rfl | (simp [IntKind.bits, WhR.rdo, hc0, hc1]; done) | (exfalso; omega), by first | exact H | exact H.drop | exact H.drop.drop⟩
    · have hr1 := hb; have hc1 := hb; try simp only [beq_iff_eq, bne_iff_ne, beq_eq_false_iff_ne, bne_eq_false_iff_eq, decide_eq_true_eq, decide_eq_false_iff_not, Bool.not_eq_true', Bool.not_eq_false', Bool.true_eq, Bool.false_eq, ge_iff_le, gt_iff_lt, Bool.not_eq_eq_eq_not, Bool.not_true, Bool.not_false, ne_eq] at hc1
      refine TW.seq <| TW.seq ?_
      refine TW.region ?_
      refine LW.v (r_bin) ?_
      refine LW.v (r_as) ?_
      refine LW.nil ?_
      refine TW.c rfl (fun hb => ?_) (fun hb => ?_)
      · have hr2 := hb; have hc2 := hb; try simp only [beq_iff_eq, bne_iff_ne, beq_eq_false_iff_ne, bne_eq_false_iff_eq, decide_eq_true_eq, decide_eq_false_iff_not, Bool.not_eq_true', Bool.not_eq_false', Bool.true_eq, Bool.false_eq, ge_iff_le, gt_iff_lt, Bool.not_eq_eq_eq_not, Bool.not_true, Bool.not_false, ne_eq] at hc2
        refine TW.skip ?_
        refine TW.c rfl (fun _ => ?_) (fun h => by first | (cases h; done) | exact absurd h (by simp [hc0, hc1, hc2]))
        refine TW.seq ?_
        refine TW.region ?_
        refine LW.v (r_mv) ?_
        refine LW.v (r_mv) ?_
        refine LW.v (r_mv) ?_
        refine LW.c r_c3 ((rbits_spec _ _ _ _ op a b H).mono ?_)
        rintro _ w ⟨rfl, H⟩
        refine ⟨_, rfl, ?_⟩
        refine LW.v (r_as) ?_
        refine LW.v (r_as) ?_
        refine LW.nil ?_
        refine TW.ret (ret2 (by rfl) rT rT ?_)
        exact ⟨by first | rfl | (simp [IntKind.bits, WhR.rdo, hc0, hc1, hc2]; done) | (exfalso; omega), by first | exact H | exact H.drop | exact H.drop.drop⟩
      · have hr2 := hb; have hc2 := hb; try simp only [beq_iff_eq, bne_iff_ne, beq_eq_false_iff_ne, bne_eq_false_iff_eq, decide_eq_true_eq, decide_eq_false_iff_not, Bool.not_eq_true', Bool.not_eq_false', Bool.true_eq, Bool.false_eq, ge_iff_le, gt_iff_lt, Bool.not_eq_eq_eq_not, Bool.not_true, Bool.not_false, ne_eq] at hc2
        refine TW.seq ?_
        refine TW.region ?_
        refine LW.v (r_bin) ?_
        refine LW.v (r_as) ?_
        refine LW.nil ?_
        refine TW.c rfl (fun hb => ?_) (fun hb => ?_)
        · have hr3 := hb; have hc3 := hb; try simp only [beq_iff_eq, bne_iff_ne, beq_eq_false_iff_ne, bne_eq_false_iff_eq, decide_eq_true_eq, decide_eq_false_iff_not, Bool.not_eq_true', Bool.not_eq_false', Bool.true_eq, Bool.false_eq, ge_iff_le, gt_iff_lt, Bool.not_eq_eq_eq_not, Bool.not_true, Bool.not_false, ne_eq] at hc3
          refine TW.skip ?_
          refine TW.c rfl (fun _ => ?_) (fun h => by first | (cases h; done) | exact absurd h (by simp [hc0, hc1, hc2, hc3]))
          refine TW.seq ?_
          refine TW.region ?_
          refine LW.v (r_mv) ?_
          refine LW.v (r_mv) ?_
          refine LW.v (r_mv) ?_
          refine LW.c r_c3 ((rbits_spec _ _ _ _ op a b H).mono ?_)
          rintro _ w ⟨rfl, H⟩
          refine ⟨_, rfl, ?_⟩
          refine LW.v (r_as) ?_
          refine LW.v (r_as) ?_
          refine LW.nil ?_
          refine TW.ret (ret2 (by rfl) rT rT ?_)
          exact ⟨by first | rfl | (simp [IntKind.bits, WhR.rdo, hc0, hc1, hc2, hc3]; done) | (exfalso; omega), by first | exact H | exact H.drop | exact H.drop.drop⟩
        · have hr3 := hb; have hc3 := hb; try simp only [beq_iff_eq, bne_iff_ne, beq_eq_false_iff_ne, bne_eq_false_iff_eq, decide_eq_true_eq, decide_eq_false_iff_not, Bool.not_eq_true', Bool.not_eq_false', Bool.true_eq, Bool.false_eq, ge_iff_le, gt_iff_lt, Bool.not_eq_eq_eq_not, Bool.not_true, Bool.not_false, ne_eq] at hc3
          refine TW.region ?_
          refine LW.v (r_bin) ?_
          refine LW.v (r_as) ?_
          refine LW.nil ?_
          refine TW.c rfl (fun hb => ?_) (fun hb => ?_)
          · have hr4 := hb; have hc4 := hb; try simp only [beq_iff_eq, bne_iff_ne, beq_eq_false_iff_ne, bne_eq_false_iff_eq, decide_eq_true_eq, decide_eq_false_iff_not, Bool.not_eq_true', Bool.not_eq_false', Bool.true_eq, Bool.false_eq, ge_iff_le, gt_iff_lt, Bool.not_eq_eq_eq_not, Bool.not_true, Bool.not_false, ne_eq] at hc4
            refine TW.seq ?_
            refine TW.region ?_
            refine LW.v (r_mv) ?_
            refine LW.v (r_mv) ?_
            refine LW.v (r_mv) ?_
            refine LW.c r_c3 ((rbits_spec _ _ _ _ op a b H).mono ?_)
            rintro _ w ⟨rfl, H⟩
            refine ⟨_, rfl, ?_⟩
            refine LW.v (r_as) ?_
            refine LW.v (r_as) ?_
            refine LW.nil ?_
            refine TW.ret (ret2 (by rfl) rT rT ?_)
            exact ⟨by first | rfl | (simp [IntKind.bits, WhR.rdo, hc0, hc1, hc2, hc3, hc4]; done) | (exfalso; omega), by first | exact H | exact H.drop | exact H.drop.drop⟩
          · have hr4 := hb; have hc4 := hb; try simp only [beq_iff_eq, bne_iff_ne, beq_eq_false_iff_ne, bne_eq_false_iff_eq, decide_eq_true_eq, decide_eq_false_iff_not, Bool.not_eq_true', Bool.not_eq_false', Bool.true_eq, Bool.false_eq, ge_iff_le, gt_iff_lt, Bool.not_eq_eq_eq_not, Bool.not_true, Bool.not_false, ne_eq] at hc4
            refine TW.seq ?_
            refine TW.region ?_
            refine LW.v (r_bin) ?_
            refine LW.v (r_as) ?_
            refine LW.nil ?_
            refine TW.c rfl (fun hb => ?_) (fun hb => ?_)
            · have hr5 := hb; have hc5 := hb; try simp only [beq_iff_eq, bne_iff_ne, beq_eq_false_iff_ne, bne_eq_false_iff_eq, decide_eq_true_eq, decide_eq_false_iff_not, Bool.not_eq_true', Bool.not_eq_false', Bool.true_eq, Bool.false_eq, ge_iff_le, gt_iff_lt, Bool.not_eq_eq_eq_not, Bool.not_true, Bool.not_false, ne_eq] at hc5
              refine TW.seq ?_
              refine TW.region ?_
              refine LW.v (r_mv) ?_
              refine LW.v (r_mv) ?_
              refine LW.c r_c3 ((rshift_spec _ _ _ _ a _ _ (by first | exact hs1 | exact hs2) H).mono ?_)
              rintro _ w ⟨rfl, H⟩
              refine ⟨_, rfl, ?_⟩
              refine LW.v (r_as) ?_
              refine LW.v (r_as) ?_
              refine LW.nil ?_
              refine TW.ret (ret2 (by rfl) rT rT ?_)
              exact ⟨by first | rfl | (simp [IntKind.bits, WhR.rdo, hc0, hc1, hc2, hc3, hc4, hc5]; done) | (exfalso; omega), by first | exact H | exact H.drop | exact H.drop.drop⟩
            · have hr5 := hb; have hc5 := hb; try simp only [beq_iff_eq, bne_iff_ne, beq_eq_false_iff_ne, bne_eq_false_iff_eq, decide_eq_true_eq, decide_eq_false_iff_not, Bool.not_eq_true', Bool.not_eq_false', Bool.true_eq, Bool.false_eq, ge_iff_le, gt_iff_lt, Bool.not_eq_eq_eq_not, Bool.not_true, Bool.not_false, ne_eq] at hc5
              refine TW.seq ?_
              refine TW.region ?_
              refine LW.v (r_bin) ?_
              refine LW.v (r_as) ?_
              refine LW.nil ?_
              refine TW.c rfl (fun hb => ?_) (fun hb => ?_)
              · have hr6 := hb; have hc6 := hb; try simp only [beq_iff_eq, bne_iff_ne, beq_eq_false_iff_ne, bne_eq_false_iff_eq, decide_eq_true_eq, decide_eq_false_iff_not, Bool.not_eq_true', Bool.not_eq_false', Bool.true_eq, Bool.false_eq, ge_iff_le, gt_iff_lt, Bool.not_eq_eq_eq_not, Bool.not_true, Bool.not_false, ne_eq] at hc6
                refine TW.seq ?_
                refine TW.region ?_
                refine LW.v (r_mv) ?_
                refine LW.v (r_mv) ?_
                refine LW.v (r_neg) ?_
                refine LW.c r_c3 ((rshift_spec _ _ _ _ a _ _ (by first | exact hs1 | exact hs2) H).mono ?_)
                rintro _ w ⟨rfl, H⟩
                refine ⟨_, rfl, ?_⟩
                refine LW.v (r_as) ?_
                refine LW.v (r_as) ?_
                refine LW.nil ?_
                refine TW.ret (ret2 (by rfl) rT rT ?_)
                exact ⟨by first | rfl | (simp [IntKind.bits, WhR.rdo, hc0, hc1, hc2, hc3, hc4, hc5, hc6]; done) | (exfalso; omega), by first | exact H | exact H.drop | exact H.drop.drop⟩
              · have hr6 := hb; have hc6 := hb; try simp only [beq_iff_eq, bne_iff_ne, beq_eq_false_iff_ne, bne_eq_false_iff_eq, decide_eq_true_eq, decide_eq_false_iff_not, Bool.not_eq_true', Bool.not_eq_false', Bool.true_eq, Bool.false_eq, ge_iff_le, gt_iff_lt, Bool.not_eq_eq_eq_not, Bool.not_true, Bool.not_false, ne_eq] at hc6
                refine TW.seq ?_
                refine TW.region ?_
                refine LW.v (r_bin) ?_
                refine LW.v (r_as) ?_
                refine LW.nil ?_
                refine TW.c rfl (fun hb => ?_) (fun hb => ?_)
                · have hr7 := hb; have hc7 := hb; try simp only [beq_iff_eq, bne_iff_ne, beq_eq_false_iff_ne, bne_eq_false_iff_eq, decide_eq_true_eq, decide_eq_false_iff_not, Bool.not_eq_true', Bool.not_eq_false', Bool.true_eq, Bool.false_eq, ge_iff_le, gt_iff_lt, Bool.not_eq_eq_eq_not, Bool.not_true, Bool.not_false, ne_eq] at hc7
                  refine TW.seq ?_
                  refine TW.region ?_
                  refine LW.v (r_mv) ?_
                  refine LW.v (r_mv) ?_
                  refine LW.v (r_neg) ?_
                  refine LW.v (r_mv) ?_
                  refine LW.c r_c2 ((rbit_spec _ _ _ _ a 31 H).mono ?_)
                  rintro _ w ⟨rfl, H⟩
                  refine ⟨_, rfl, ?_⟩
                  refine LW.c r_c3 ((rshift_spec _ _ _ _ a _ _ (by first | exact hs1 | exact hs2) H).mono ?_)
                  rintro _ w ⟨rfl, H⟩
                  refine ⟨_, rfl, ?_⟩
                  refine LW.v (r_as) ?_
                  refine LW.v (r_as) ?_
                  refine LW.nil ?_
                  refine TW.ret (ret2 (by rfl) rT rT ?_)
                  exact ⟨by first | rfl | (simp [IntKind.bits, WhR.rdo, hc0, hc1, hc2, hc3, hc4, hc5, hc6, hc7]; done) | (exfalso; omega), by first | exact H | exact H.drop | exact H.drop.drop⟩
                · have hr7 := hb; have hc7 := hb; try simp only [beq_iff_eq, bne_iff_ne, beq_eq_false_iff_ne, bne_eq_false_iff_eq, decide_eq_true_eq, decide_eq_false_iff_not, Bool.not_eq_true', Bool.not_eq_false', Bool.true_eq, Bool.false_eq, ge_iff_le, gt_iff_lt, Bool.not_eq_eq_eq_not, Bool.not_true, Bool.not_false, ne_eq] at hc7
                  refine TW.seq ?_
                  refine TW.region ?_
                  refine LW.v (r_bin) ?_
                  refine LW.v (r_as) ?_
                  refine LW.nil ?_
                  refine TW.c rfl (fun hb => ?_) (fun hb => ?_)
                  · have hr8 := hb; have hc8 := hb; try simp only [beq_iff_eq, bne_iff_ne, beq_eq_false_iff_ne, bne_eq_false_iff_eq, decide_eq_true_eq, decide_eq_false_iff_not, Bool.not_eq_true', Bool.not_eq_false', Bool.true_eq, Bool.false_eq, ge_iff_le, gt_iff_lt, Bool.not_eq_eq_eq_not, Bool.not_true, Bool.not_false, ne_eq] at hc8
                    refine TW.seq ?_
                    refine TW.region ?_
                    refine LW.v (r_mv) ?_
                    refine LW.c r_c1 ((rnum_spec _ _ _ _ a H).mono ?_)
                    rintro _ w ⟨rfl, H⟩
                    refine ⟨_, rfl, ?_⟩
                    refine LW.v (r_mv) ?_
                    refine LW.c r_c1 ((rnum_spec _ _ _ _ b H).mono ?_)
                    rintro _ w ⟨rfl, H⟩
                    refine ⟨_, rfl, ?_⟩
                    refine LW.v (r_bin) ?_
                    refine LW.c r_c1 ((rone_spec _ _ _ _ _ H).mono ?_)
                    rintro _ w ⟨rfl, H⟩
                    refine ⟨_, rfl, ?_⟩
                    refine LW.v (r_as) ?_
                    refine LW.v (r_as) ?_
                    refine LW.nil ?_
                    refine TW.ret (ret2 (by rfl) rT rT ?_)
                    exact ⟨by first | rfl | (simp [IntKind.bits, WhR.rdo, hc0, hc1, hc2, hc3, hc4, hc5, hc6, hc7, hc8]; done) | (exfalso; omega), by first | exact H | exact H.drop | exact H.drop.drop⟩
                  · have hr8 := hb; have hc8 := hb; try simp only [beq_iff_eq, bne_iff_ne, beq_eq_false_iff_ne, bne_eq_false_iff_eq, decide_eq_true_eq, decide_eq_false_iff_not, Bool.not_eq_true', Bool.not_eq_false', Bool.true_eq, Bool.false_eq, ge_iff_le, gt_iff_lt, Bool.not_eq_eq_eq_not, Bool.not_true, Bool.not_false, ne_eq] at hc8
                    refine TW.seq ?_
                    refine TW.region ?_
                    refine LW.v (r_bin) ?_
                    refine LW.v (r_as) ?_
                    refine LW.nil ?_
                    refine TW.c rfl (fun hb => ?_) (fun hb => ?_)
                    · have hr9 := hb; have hc9 := hb; try simp only [beq_iff_eq, bne_iff_ne, beq_eq_false_iff_ne, bne_eq_false_iff_eq, decide_eq_true_eq, decide_eq_false_iff_not, Bool.not_eq_true', Bool.not_eq_false', Bool.true_eq, Bool.false_eq, ge_iff_le, gt_iff_lt, Bool.not_eq_eq_eq_not, Bool.not_true, Bool.not_false, ne_eq] at hc9
                      refine TW.seq ?_
                      refine TW.region ?_
                      refine LW.v (r_mv) ?_
                      refine LW.v (r_mv) ?_
                      refine LW.v (r_bin) ?_
                      refine LW.c r_c1 ((rone_spec _ _ _ _ _ H).mono ?_)
                      rintro _ w ⟨rfl, H⟩
                      refine ⟨_, rfl, ?_⟩
                      refine LW.v (r_as) ?_
                      refine LW.v (r_as) ?_
                      refine LW.nil ?_
                      refine TW.ret (ret2 (by rfl) rT rT ?_)
                      exact ⟨by first | rfl | (simp [IntKind.bits, WhR.rdo, hc0, hc1, hc2, hc3, hc4, hc5, hc6, hc7, hc8, hc9]; done) | (exfalso; omega), by first | exact H | exact H.drop | exact H.drop.drop⟩
                    · have hr9 := hb; have hc9 := hb; try simp only [beq_iff_eq, bne_iff_ne, beq_eq_false_iff_ne, bne_eq_false_iff_eq, decide_eq_true_eq, decide_eq_false_iff_not, Bool.not_eq_true', Bool.not_eq_false', Bool.true_eq, Bool.false_eq, ge_iff_le, gt_iff_lt, Bool.not_eq_eq_eq_not, Bool.not_true, Bool.not_false, ne_eq] at hc9
                      refine TW.seq ?_
                      refine TW.region ?_
                      refine LW.v (r_bin) ?_
                      refine LW.v (r_as) ?_
                      refine LW.nil ?_
                      refine TW.c rfl (fun hb => ?_) (fun hb => ?_)
                      · have hr10 := hb; have hc10 := hb; try simp only [beq_iff_eq, bne_iff_ne, beq_eq_false_iff_ne, bne_eq_false_iff_eq, decide_eq_true_eq, decide_eq_false_iff_not, Bool.not_eq_true', Bool.not_eq_false', Bool.true_eq, Bool.false_eq, ge_iff_le, gt_iff_lt, Bool.not_eq_eq_eq_not, Bool.not_true, Bool.not_false, ne_eq] at hc10
                        refine TW.seq ?_
                        refine TW.region ?_
                        refine LW.v (r_mv) ?_
                        refine LW.v (r_mv) ?_
                        refine LW.v (r_bin) ?_
                        refine LW.v (r_as) ?_
                        refine LW.v (r_as) ?_
                        refine LW.nil ?_
                        refine TW.ret (ret2 (by rfl) rT rT ?_)
                        exact ⟨by first | rfl | (simp [IntKind.bits, WhR.rdo, hc0, hc1, hc2, hc3, hc4, hc5, hc6, hc7, hc8, hc9, hc10]; done) | (exfalso; omega), by first | exact H | exact H.drop | exact H.drop.drop⟩
                      · have hr10 := hb; have hc10 := hb; try simp only [beq_iff_eq, bne_iff_ne, beq_eq_false_iff_ne, bne_eq_false_iff_eq, decide_eq_true_eq, decide_eq_false_iff_not, Bool.not_eq_true', Bool.not_eq_false', Bool.true_eq, Bool.false_eq, ge_iff_le, gt_iff_lt, Bool.not_eq_eq_eq_not, Bool.not_true, Bool.not_false, ne_eq] at hc10
                        refine TW.seq <| TW.seq ?_
                        refine TW.region ?_
                        refine LW.v (r_bin) ?_
                        refine LW.v (r_as) ?_
                        refine LW.nil ?_
                        refine TW.c rfl (fun hb => ?_) (fun hb => ?_)
                        · have hr11 := hb; have hc11 := hb; try simp only [beq_iff_eq, bne_iff_ne, beq_eq_false_iff_ne, bne_eq_false_iff_eq, decide_eq_true_eq, decide_eq_false_iff_not, Bool.not_eq_true', Bool.not_eq_false', Bool.true_eq, Bool.false_eq, ge_iff_le, gt_iff_lt, Bool.not_eq_eq_eq_not, Bool.not_true, Bool.not_false, ne_eq] at hc11
                          refine TW.skip ?_
                          refine TW.c rfl (fun _ => ?_) (fun h => by first | (cases h; done) | exact absurd h (by simp [hc0, hc1, hc2, hc3, hc4, hc5, hc6, hc7, hc8, hc9, hc10, hc11]))
                          refine TW.seq ?_
                          refine TW.region ?_
                          refine LW.v (r_mv) ?_
                          refine LW.v (r_mv) ?_
                          refine LW.v (r_mv) ?_
                          refine LW.c r_c3 ((rhigh_spec _ _ _ _ op a b H).mono ?_)
                          rintro _ w ⟨rfl, H⟩
                          refine ⟨_, rfl, ?_⟩
                          refine LW.v (r_as) ?_
                          refine LW.v (r_as) ?_
                          refine LW.nil ?_
                          refine TW.ret (ret2 (by rfl) rT rT ?_)
                          exact ⟨by first | rfl | (simp [IntKind.bits, WhR.rdo, hc0, hc1, hc2, hc3, hc4, hc5, hc6, hc7, hc8, hc9, hc10, hc11]; done) | (exfalso; omega), by first | exact H | exact H.drop | exact H.drop.drop⟩
                        · have hr11 := hb; have hc11 := hb; try simp only [beq_iff_eq, bne_iff_ne, beq_eq_false_iff_ne, bne_eq_false_iff_eq, decide_eq_true_eq, decide_eq_false_iff_not, Bool.not_eq_true', Bool.not_eq_false', Bool.true_eq, Bool.false_eq, ge_iff_le, gt_iff_lt, Bool.not_eq_eq_eq_not, Bool.not_true, Bool.not_false, ne_eq] at hc11
                          refine TW.seq ?_
                          refine TW.region ?_
                          refine LW.v (r_bin) ?_
                          refine LW.v (r_as) ?_
                          refine LW.nil ?_
                          refine TW.c rfl (fun hb => ?_) (fun hb => ?_)
                          · have hr12 := hb; have hc12 := hb; try simp only [beq_iff_eq, bne_iff_ne, beq_eq_false_iff_ne, bne_eq_false_iff_eq, decide_eq_true_eq, decide_eq_false_iff_not, Bool.not_eq_true', Bool.not_eq_false', Bool.true_eq, Bool.false_eq, ge_iff_le, gt_iff_lt, Bool.not_eq_eq_eq_not, Bool.not_true, Bool.not_false, ne_eq] at hc12
                            refine TW.skip ?_
                            refine TW.c rfl (fun _ => ?_) (fun h => by first | (cases h; done) | exact absurd h (by simp [hc0, hc1, hc2, hc3, hc4, hc5, hc6, hc7, hc8, hc9, hc10, hc11, hc12]))
                            refine TW.seq ?_
                            refine TW.region ?_
                            refine LW.v (r_mv) ?_
                            refine LW.v (r_mv) ?_
                            refine LW.v (r_mv) ?_
                            refine LW.c r_c3 ((rhigh_spec _ _ _ _ op a b H).mono ?_)
                            rintro _ w ⟨rfl, H⟩
                            refine ⟨_, rfl, ?_⟩
                            refine LW.v (r_as) ?_
                            refine LW.v (r_as) ?_
                            refine LW.nil ?_
                            refine TW.ret (ret2 (by rfl) rT rT ?_)
                            exact ⟨by first | rfl | (simp [IntKind.bits, WhR.rdo, hc0, hc1, hc2, hc3, hc4, hc5, hc6, hc7, hc8, hc9, hc10, hc11, hc12]; done) | (exfalso; omega), by first | exact H | exact H.drop | exact H.drop.drop⟩
                          · have hr12 := hb; have hc12 := hb; try simp only [beq_iff_eq, bne_iff_ne, beq_eq_false_iff_ne, bne_eq_false_iff_eq, decide_eq_true_eq, decide_eq_false_iff_not, Bool.not_eq_true', Bool.not_eq_false', Bool.true_eq, Bool.false_eq, ge_iff_le, gt_iff_lt, Bool.not_eq_eq_eq_not, Bool.not_true, Bool.not_false, ne_eq] at hc12
                            refine TW.region ?_
                            refine LW.v (r_bin) ?_
                            refine LW.v (r_as) ?_
                            refine LW.nil ?_
                            refine TW.c rfl (fun hb => ?_) (fun hb => ?_)
                            · have hr13 := hb; have hc13 := hb; try simp only [beq_iff_eq, bne_iff_ne, beq_eq_false_iff_ne, bne_eq_false_iff_eq, decide_eq_true_eq, decide_eq_false_iff_not, Bool.not_eq_true', Bool.not_eq_false', Bool.true_eq, Bool.false_eq, ge_iff_le, gt_iff_lt, Bool.not_eq_eq_eq_not, Bool.not_true, Bool.not_false, ne_eq] at hc13
                              refine TW.seq ?_
                              refine TW.region ?_
                              refine LW.v (r_mv) ?_
                              refine LW.v (r_mv) ?_
                              refine LW.v (r_mv) ?_
                              refine LW.c r_c3 ((rhigh_spec _ _ _ _ op a b H).mono ?_)
                              rintro _ w ⟨rfl, H⟩
                              refine ⟨_, rfl, ?_⟩
                              refine LW.v (r_as) ?_
                              refine LW.v (r_as) ?_
                              refine LW.nil ?_
                              refine TW.ret (ret2 (by rfl) rT rT ?_)
                              exact ⟨by first | rfl | (simp [IntKind.bits, WhR.rdo, hc0, hc1, hc2, hc3, hc4, hc5, hc6, hc7, hc8, hc9, hc10, hc11, hc12, hc13]; done) | (exfalso; omega), by first | exact H | exact H.drop | exact H.drop.drop⟩
                            · have hr13 := hb; have hc13 := hb; try simp only [beq_iff_eq, bne_iff_ne, beq_eq_false_iff_ne, bne_eq_false_iff_eq, decide_eq_true_eq, decide_eq_false_iff_not, Bool.not_eq_true', Bool.not_eq_false', Bool.true_eq, Bool.false_eq, ge_iff_le, gt_iff_lt, Bool.not_eq_eq_eq_not, Bool.not_true, Bool.not_false, ne_eq] at hc13
                              refine TW.seq <| TW.seq ?_
                              refine TW.region ?_
                              refine LW.v (r_bin) ?_
                              refine LW.v (r_as) ?_
                              refine LW.nil ?_
                              refine TW.c rfl (fun hb => ?_) (fun hb => ?_)
                              · have hr14 := hb; have hc14 := hb; try simp only [beq_iff_eq, bne_iff_ne, beq_eq_false_iff_ne, bne_eq_false_iff_eq, decide_eq_true_eq, decide_eq_false_iff_not, Bool.not_eq_true', Bool.not_eq_false', Bool.true_eq, Bool.false_eq, ge_iff_le, gt_iff_lt, Bool.not_eq_eq_eq_not, Bool.not_true, Bool.not_false, ne_eq] at hc14
                                refine TW.skip ?_
                                refine TW.c rfl (fun _ => ?_) (fun h => by first | (cases h; done) | exact absurd h (by simp [hc0, hc1, hc2, hc3, hc4, hc5, hc6, hc7, hc8, hc9, hc10, hc11, hc12, hc13, hc14]))
                                refine TW.seq ?_
                                refine TW.region ?_
                                refine LW.v (r_mv) ?_
                                refine LW.v (r_mv) ?_
                                refine LW.v (r_mv) ?_
                                refine LW.c r_c3 ((rdiv_spec _ _ _ _ op a b h0 h1 H).mono ?_)
                                rintro _ w ⟨rfl, H⟩
                                refine ⟨_, rfl, ?_⟩
                                refine LW.v (r_as) ?_
                                refine LW.v (r_as) ?_
                                refine LW.nil ?_
                                refine TW.ret (ret2 (by rfl) rT rT ?_)
                                exact ⟨by first | rfl | (simp [IntKind.bits, WhR.rdo, hc0, hc1, hc2, hc3, hc4, hc5, hc6, hc7, hc8, hc9, hc10, hc11, hc12, hc13, hc14]; done) | (exfalso; omega), by first | exact H | exact H.drop | exact H.drop.drop⟩
                              · have hr14 := hb; have hc14 := hb; try simp only [beq_iff_eq, bne_iff_ne, beq_eq_false_iff_ne, bne_eq_false_iff_eq, decide_eq_true_eq, decide_eq_false_iff_not, Bool.not_eq_true', Bool.not_eq_false', Bool.true_eq, Bool.false_eq, ge_iff_le, gt_iff_lt, Bool.not_eq_eq_eq_not, Bool.not_true, Bool.not_false, ne_eq] at hc14
                                refine TW.seq ?_
                                refine TW.region ?_
                                refine LW.v (r_bin) ?_
                                refine LW.v (r_as) ?_
                                refine LW.nil ?_
                                refine TW.c rfl (fun hb => ?_) (fun hb => ?_)
                                · have hr15 := hb; have hc15 := hb; try simp only [beq_iff_eq, bne_iff_ne, beq_eq_false_iff_ne, bne_eq_false_iff_eq, decide_eq_true_eq, decide_eq_false_iff_not, Bool.not_eq_true', Bool.not_eq_false', Bool.true_eq, Bool.false_eq, ge_iff_le, gt_iff_lt, Bool.not_eq_eq_eq_not, Bool.not_true, Bool.not_false, ne_eq] at hc15
                                  refine TW.skip ?_
                                  refine TW.c rfl (fun _ => ?_) (fun h => by first | (cases h; done) | exact absurd h (by simp [hc0, hc1, hc2, hc3, hc4, hc5, hc6, hc7, hc8, hc9, hc10, hc11, hc12, hc13, hc14, hc15]))
                                  refine TW.seq ?_
                                  refine TW.region ?_
                                  refine LW.v (r_mv) ?_
                                  refine LW.v (r_mv) ?_
                                  refine LW.v (r_mv) ?_
                                  refine LW.c r_c3 ((rdiv_spec _ _ _ _ op a b h0 h1 H).mono ?_)
                                  rintro _ w ⟨rfl, H⟩
                                  refine ⟨_, rfl, ?_⟩
                                  refine LW.v (r_as) ?_
                                  refine LW.v (r_as) ?_
                                  refine LW.nil ?_
                                  refine TW.ret (ret2 (by rfl) rT rT ?_)
                                  exact ⟨by first | rfl | (simp [IntKind.bits, WhR.rdo, hc0, hc1, hc2, hc3, hc4, hc5, hc6, hc7, hc8, hc9, hc10, hc11, hc12, hc13, hc14, hc15]; done) | (exfalso; omega), by first | exact H | exact H.drop | exact H.drop.drop⟩
                                · have hr15 := hb; have hc15 := hb; try simp only [beq_iff_eq, bne_iff_ne, beq_eq_false_iff_ne, bne_eq_false_iff_eq, decide_eq_true_eq, decide_eq_false_iff_not, Bool.not_eq_true', Bool.not_eq_false', Bool.true_eq, Bool.false_eq, ge_iff_le, gt_iff_lt, Bool.not_eq_eq_eq_not, Bool.not_true, Bool.not_false, ne_eq] at hc15
                                  refine TW.seq ?_
                                  refine TW.region ?_
                                  refine LW.v (r_bin) ?_
                                  refine LW.v (r_as) ?_
                                  refine LW.nil ?_
                                  refine TW.c rfl (fun hb => ?_) (fun hb => ?_)
                                  · have hr16 := hb; have hc16 := hb; try simp only [beq_iff_eq, bne_iff_ne, beq_eq_false_iff_ne, bne_eq_false_iff_eq, decide_eq_true_eq, decide_eq_false_iff_not, Bool.not_eq_true', Bool.not_eq_false', Bool.true_eq, Bool.false_eq, ge_iff_le, gt_iff_lt, Bool.not_eq_eq_eq_not, Bool.not_true, Bool.not_false, ne_eq] at hc16
                                    refine TW.skip ?_
                                    refine TW.c rfl (fun _ => ?_) (fun h => by first | (cases h; done) | exact absurd h (by simp [hc0, hc1, hc2, hc3, hc4, hc5, hc6, hc7, hc8, hc9, hc10, hc11, hc12, hc13, hc14, hc15, hc16]))
                                    refine TW.seq ?_
                                    refine TW.region ?_
                                    refine LW.v (r_mv) ?_
                                    refine LW.v (r_mv) ?_
                                    refine LW.v (r_mv) ?_
                                    refine LW.c r_c3 ((rdiv_spec _ _ _ _ op a b h0 h1 H).mono ?_)
                                    rintro _ w ⟨rfl, H⟩
                                    refine ⟨_, rfl, ?_⟩
                                    refine LW.v (r_as) ?_
                                    refine LW.v (r_as) ?_
                                    refine LW.nil ?_
                                    refine TW.ret (ret2 (by rfl) rT rT ?_)
                                    exact ⟨by first | rfl | (simp [IntKind.bits, WhR.rdo, hc0, hc1, hc2, hc3, hc4, hc5, hc6, hc7, hc8, hc9, hc10, hc11, hc12, hc13, hc14, hc15, hc16]; done) | (exfalso; omega), by first | exact H | exact H.drop | exact H.drop.drop⟩
                                  · have hr16 := hb; have hc16 := hb; try simp only [beq_iff_eq, bne_iff_ne, beq_eq_false_iff_ne, bne_eq_false_iff_eq, decide_eq_true_eq, decide_eq_false_iff_not, Bool.not_eq_true', Bool.not_eq_false', Bool.true_eq, Bool.false_eq, ge_iff_le, gt_iff_lt, Bool.not_eq_eq_eq_not, Bool.not_true, Bool.not_false, ne_eq] at hc16
                                    refine TW.region ?_
                                    refine LW.v (r_bin) ?_
                                    refine LW.v (r_as) ?_
                                    refine LW.nil ?_
                                    refine TW.c rfl (fun hb => ?_) (fun hb => ?_)
                                    · have hr17 := hb; have hc17 := hb; try simp only [beq_iff_eq, bne_iff_ne, beq_eq_false_iff_ne, bne_eq_false_iff_eq, decide_eq_true_eq, decide_eq_false_iff_not, Bool.not_eq_true', Bool.not_eq_false', Bool.true_eq, Bool.false_eq, ge_iff_le, gt_iff_lt, Bool.not_eq_eq_eq_not, Bool.not_true, Bool.not_false, ne_eq] at hc17
                                      refine TW.seq ?_
                                      refine TW.region ?_
                                      refine LW.v (r_mv) ?_
                                      refine LW.v (r_mv) ?_
                                      refine LW.v (r_mv) ?_
                                      refine LW.c r_c3 ((rdiv_spec _ _ _ _ op a b h0 h1 H).mono ?_)
                                      rintro _ w ⟨rfl, H⟩
                                      refine ⟨_, rfl, ?_⟩
                                      refine LW.v (r_as) ?_
                                      refine LW.v (r_as) ?_
                                      refine LW.nil ?_
                                      refine TW.ret (ret2 (by rfl) rT rT ?_)
                                      exact ⟨by first | rfl | (simp [IntKind.bits, WhR.rdo, hc0, hc1, hc2, hc3, hc4, hc5, hc6, hc7, hc8, hc9, hc10, hc11, hc12, hc13, hc14, hc15, hc16, hc17]; done) | (exfalso; omega), by first | exact H | exact H.drop | exact H.drop.drop⟩
                                    · have hr17 := hb; have hc17 := hb; try simp only [beq_iff_eq, bne_iff_ne, beq_eq_false_iff_ne, bne_eq_false_iff_eq, decide_eq_true_eq, decide_eq_false_iff_not, Bool.not_eq_true', Bool.not_eq_false', Bool.true_eq, Bool.false_eq, ge_iff_le, gt_iff_lt, Bool.not_eq_eq_eq_not, Bool.not_true, Bool.not_false, ne_eq] at hc17
                                      refine TW.skip <| TW.inBlock <| TW.seq ?_
                                      refine TW.region ?_
                                      refine LW.v (r_as) ?_
                                      refine LW.v (r_as) ?_
                                      refine LW.nil ?_
                                      refine TW.ret (ret2 (by rfl) rT rT ?_)
                                      exact ⟨by first | rfl | (simp [IntKind.bits, WhR.rdo, hc0, hc1, hc2, hc3, hc4, hc5, hc6, hc7, hc8, hc9, hc10, hc11, hc12, hc13, hc14, hc15, hc16, hc17]; done) | (exfalso; omega), by first | exact H | exact H.drop | exact H.drop.drop⟩
end Wh
