/- A part of the walk through the code: contracts of functions, printed by a program of the prover. -/
import Derived.Test.YtjdckpeoinkafaaGreatDoorSp
import Derived.Test.YtjdckpeoinkafaaGreatDoorSync
set_option linter.all false
namespace Wh
open Go Go.Proofs
set_option maxRecDepth 100000
theorem flag_spec (B : Nat) (w0 w : World) (L : List Ck) (b : Bool) (H : Hp B w0 w L) : Calls Tryz.prog 76 #[.bool b] w fun e w' => e = .returned (.int .u32 (if b then 1 else 0)) ∧ Hp B w0 w' L := by
  refine calls_go Tryz.func76 Tryz.ntmps76 rfl rfl ?_
  refine TW.seq ?_
  refine TW.region ?_
  refine LW.v (r_as) ?_
  refine LW.nil ?_
  refine TW.seq <| TW.seq ?_
  refine TW.region ?_
  refine LW.v (r_mv) ?_
  refine LW.nil ?_
  refine TW.c rfl (fun hb => ?_) (fun hb => ?_)
  · have hr0 := hb; have hc0 := hb; try simp only [beq_iff_eq, bne_iff_ne, beq_eq_false_iff_ne, bne_eq_false_iff_eq, decide_eq_true_eq, decide_eq_false_iff_not, Bool.not_eq_true', Bool.not_eq_false', Bool.true_eq, Bool.false_eq, ge_iff_le, gt_iff_lt, Bool.not_eq_eq_eq_not, Bool.not_true, Bool.not_false, ne_eq] at hc0
    refine TW.seq ?_
    refine TW.region ?_
    refine LW.v (r_as) ?_
    refine LW.nil ?_
    refine TW.ret (ret1 (by rfl) rT ?_)
    exact ⟨by first | rfl | (simp [IntKind.bits, hc0]; done) | (exfalso; omega), by first | exact H | exact H.drop | exact H.drop.drop⟩
  · have hr0 := hb; have hc0 := hb; try simp only [beq_iff_eq, bne_iff_ne, beq_eq_false_iff_ne, bne_eq_false_iff_eq, decide_eq_true_eq, decide_eq_false_iff_not, Bool.not_eq_true', Bool.not_eq_false', Bool.true_eq, Bool.false_eq, ge_iff_le, gt_iff_lt, Bool.not_eq_eq_eq_not, Bool.not_true, Bool.not_false, ne_eq] at hc0
    refine TW.skip <| TW.seq ?_
    refine TW.region ?_
    refine LW.v (r_as) ?_
    refine LW.nil ?_
    refine TW.ret (ret1 (by rfl) rT ?_)
    exact ⟨by first | rfl | (simp [IntKind.bits, hc0]; done) | (exfalso; omega), by first | exact H | exact H.drop | exact H.drop.drop⟩
theorem high_spec (B : Nat) (w0 w : World) (L : List Ck) (op a b : Int) (H : Hp B w0 w L) : Calls Tryz.prog 77 #[.int .i64 op, .int .u32 a, .int .u32 b] w fun e w' => e = .returned (.int .u32 (WhI.high op a b)) ∧ Hp B w0 w' L := by
  refine calls_go Tryz.func77 Tryz.ntmps77 rfl rfl ?_
  refine TW.seq ?_
  refine TW.region ?_
  refine LW.v (r_as) ?_
  refine LW.nil ?_
  refine TW.seq ?_
  refine TW.region ?_
  refine LW.v (r_mv) ?_
  refine LW.v (r_cv) ?_
  refine LW.v (r_mv) ?_
  refine LW.v (r_cv) ?_
  refine LW.v (r_as) ?_
  refine LW.v (r_as) ?_
  refine LW.nil ?_
  refine TW.seq <| TW.seq ?_
  refine TW.region ?_
  refine LW.v (r_mv) ?_
  refine LW.nil ?_
  refine TW.block <| TW.seq ?_
  refine TW.region ?_
  refine LW.v (r_bin) ?_
  refine LW.v (r_as) ?_
  refine LW.nil ?_
  refine TW.c rfl (fun hb => ?_) (fun hb => ?_)
  · have hr0 := hb; have hc0 := hb; try simp only [beq_iff_eq, bne_iff_ne, beq_eq_false_iff_ne, bne_eq_false_iff_eq, decide_eq_true_eq, decide_eq_false_iff_not, Bool.not_eq_true', Bool.not_eq_false', Bool.true_eq, Bool.false_eq, ge_iff_le, gt_iff_lt, Bool.not_eq_eq_eq_not, Bool.not_true, Bool.not_false, ne_eq] at hc0
    refine TW.seq ?_
    refine TW.region ?_
    refine LW.v (r_mv) ?_
    refine LW.v (r_cv) ?_
    refine LW.v (r_mv) ?_
    refine LW.v (r_cv) ?_
    refine LW.v (r_bin) ?_
    refine LW.v (r_shr (hb := by first | omega | exact WhI.bits_nn _ _ _ | exact WhI.u32_nn _)) ?_
    refine LW.v (r_cv) ?_
    refine LW.v (r_as) ?_
    refine LW.nil ?_
    refine TW.ret (ret1 (by rfl) rT ?_)
    exact ⟨by first | rfl | (simp [IntKind.bits, WhI.high, WhI.u32, WhI.i32, hc0]; done) | (exfalso; omega), by first | exact H | exact H.drop | exact H.drop.drop⟩
  · have hr0 := hb; have hc0 := hb; try simp only [beq_iff_eq, bne_iff_ne, beq_eq_false_iff_ne, bne_eq_false_iff_eq, decide_eq_true_eq, decide_eq_false_iff_not, Bool.not_eq_true', Bool.not_eq_false', Bool.true_eq, Bool.false_eq, ge_iff_le, gt_iff_lt, Bool.not_eq_eq_eq_not, Bool.not_true, Bool.not_false, ne_eq] at hc0
    refine TW.seq ?_
    refine TW.region ?_
    refine LW.v (r_bin) ?_
    refine LW.v (r_as) ?_
    refine LW.nil ?_
    refine TW.c rfl (fun hb => ?_) (fun hb => ?_)
    · have hr1 := hb; have hc1 := hb; try simp only [beq_iff_eq, bne_iff_ne, beq_eq_false_iff_ne, bne_eq_false_iff_eq, decide_eq_true_eq, decide_eq_false_iff_not, Bool.not_eq_true', Bool.not_eq_false', Bool.true_eq, Bool.false_eq, ge_iff_le, gt_iff_lt, Bool.not_eq_eq_eq_not, Bool.not_true, Bool.not_false, ne_eq] at hc1
      refine TW.region ?_
      refine LW.v (r_mv) ?_
      refine LW.v (r_cv) ?_
      refine LW.v (r_cv) ?_
      refine LW.v (r_mv) ?_
      refine LW.v (r_cv) ?_
      refine LW.v (r_cv) ?_
      refine LW.v (r_as) ?_
      refine LW.v (r_as) ?_
      refine LW.nil ?_
      refine TW.inBlock <| TW.seq ?_
      refine TW.region ?_
      refine LW.v (r_mv) ?_
      refine LW.v (r_mv) ?_
      first | refine LW.v (r_mul (hk := w64 (by omega) (by omega))) ?_ | refine LW.v (r_bin) ?_
      refine LW.v (r_shr (hb := by first | omega | exact WhI.bits_nn _ _ _ | exact WhI.u32_nn _)) ?_
      refine LW.v (r_cv) ?_
      refine LW.v (r_as) ?_
      refine LW.nil ?_
      refine TW.ret (ret1 (by rfl) rT ?_)
      exact ⟨by first | rfl | (simp [IntKind.bits, WhI.high, WhI.u32, WhI.i32, hc0, hc1]; done) | (exfalso; omega), by first | exact H | exact H.drop | exact H.drop.drop⟩
    · have hr1 := hb; have hc1 := hb; try simp only [beq_iff_eq, bne_iff_ne, beq_eq_false_iff_ne, bne_eq_false_iff_eq, decide_eq_true_eq, decide_eq_false_iff_not, Bool.not_eq_true', Bool.not_eq_false', Bool.true_eq, Bool.false_eq, ge_iff_le, gt_iff_lt, Bool.not_eq_eq_eq_not, Bool.not_true, Bool.not_false, ne_eq] at hc1
      refine TW.seq ?_
      refine TW.region ?_
      refine LW.v (r_bin) ?_
      refine LW.v (r_as) ?_
      refine LW.nil ?_
      refine TW.c rfl (fun hb => ?_) (fun hb => ?_)
      · have hr2 := hb; have hc2 := hb; try simp only [beq_iff_eq, bne_iff_ne, beq_eq_false_iff_ne, bne_eq_false_iff_eq, decide_eq_true_eq, decide_eq_false_iff_not, Bool.not_eq_true', Bool.not_eq_false', Bool.true_eq, Bool.false_eq, ge_iff_le, gt_iff_lt, Bool.not_eq_eq_eq_not, Bool.not_true, Bool.not_false, ne_eq] at hc2
        refine TW.region ?_
        refine LW.v (r_mv) ?_
        refine LW.v (r_cv) ?_
        refine LW.v (r_cv) ?_
        refine LW.v (r_as) ?_
        refine LW.nil ?_
        refine TW.inBlock <| TW.seq ?_
        refine TW.region ?_
        refine LW.v (r_mv) ?_
        refine LW.v (r_mv) ?_
        first | refine LW.v (r_mul (hk := w64 (by omega) (by omega))) ?_ | refine LW.v (r_bin) ?_
        refine LW.v (r_shr (hb := by first | omega | exact WhI.bits_nn _ _ _ | exact WhI.u32_nn _)) ?_
        refine LW.v (r_cv) ?_
        refine LW.v (r_as) ?_
        refine LW.nil ?_
        refine TW.ret (ret1 (by rfl) rT ?_)
        exact ⟨by first | rfl | (simp [IntKind.bits, WhI.high, WhI.u32, WhI.i32, hc0, hc1, hc2]; done) | (exfalso; omega), by first | exact H | exact H.drop | exact H.drop.drop⟩
      · have hr2 := hb; have hc2 := hb; try simp only [beq_iff_eq, bne_iff_ne, beq_eq_false_iff_ne, bne_eq_false_iff_eq, decide_eq_true_eq, decide_eq_false_iff_not, Bool.not_eq_true', Bool.not_eq_false', Bool.true_eq, Bool.false_eq, ge_iff_le, gt_iff_lt, Bool.not_eq_eq_eq_not, Bool.not_true, Bool.not_false, ne_eq] at hc2
        refine TW.skip <| TW.inBlock <| TW.seq ?_
        refine TW.region ?_
        refine LW.v (r_mv) ?_
        refine LW.v (r_mv) ?_
        first | refine LW.v (r_mul (hk := w64 (by omega) (by omega))) ?_ | refine LW.v (r_bin) ?_
        refine LW.v (r_shr (hb := by first | omega | exact WhI.bits_nn _ _ _ | exact WhI.u32_nn _)) ?_
        refine LW.v (r_cv) ?_
        refine LW.v (r_as) ?_
        refine LW.nil ?_
        refine TW.ret (ret1 (by rfl) rT ?_)
        exact ⟨by first | rfl | (simp [IntKind.bits, WhI.high, WhI.u32, WhI.i32, hc0, hc1, hc2]; done) | (exfalso; omega), by first | exact H | exact H.drop | exact H.drop.drop⟩
theorem divided_spec (B : Nat) (w0 w : World) (L : List Ck) (op a b : Int) (h0 : 0 ≤ b) (h1 : b < 4294967296) (H : Hp B w0 w L) : Calls Tryz.prog 78 #[.int .i64 op, .int .u32 a, .int .u32 b] w fun e w' => e = .returned (.int .u32 (WhI.divided op a b)) ∧ Hp B w0 w' L := by
  refine calls_go Tryz.func78 Tryz.ntmps78 rfl rfl ?_
  refine TW.seq ?_
  refine TW.region ?_
  refine LW.v (r_as) ?_
  refine LW.nil ?_
  refine TW.seq ?_
  refine TW.region ?_
  refine LW.v (r_mv) ?_
  refine LW.v (r_bin) ?_
  refine LW.v (r_mv) ?_
  refine LW.gen fun b hb => ?_; cases b
  · have hr0 := hb.symm; have hc0 := hb.symm; try simp only [beq_iff_eq, bne_iff_ne, beq_eq_false_iff_ne, bne_eq_false_iff_eq, decide_eq_true_eq, decide_eq_false_iff_not, Bool.not_eq_true', Bool.not_eq_false', Bool.true_eq, Bool.false_eq, ge_iff_le, gt_iff_lt, Bool.not_eq_eq_eq_not, Bool.not_true, Bool.not_false, ne_eq] at hc0
    refine LW.yes (by rfl) (by rfl) (by rfl) (by rfl) (by rfl) ?_
    refine LW.v (r_mv) ?_
    refine LW.yes (by rfl) (by rfl) (by rfl) (by rfl) (by rfl) ?_
    refine LW.v (r_bin) ?_
    refine LW.v (r_pick) ?_
    refine LW.v (r_as) ?_
    refine LW.nil ?_
    refine TW.seq <| TW.block <| TW.seq ?_
    refine TW.region ?_
    refine LW.v (r_mv) ?_
    refine LW.v (r_bin) ?_
    refine LW.v (r_mv) ?_
    refine LW.gen fun b hb => ?_; cases b
    · have hr1 := hb.symm; have hc1 := hb.symm; try simp only [beq_iff_eq, bne_iff_ne, beq_eq_false_iff_ne, bne_eq_false_iff_eq, decide_eq_true_eq, decide_eq_false_iff_not, Bool.not_eq_true', Bool.not_eq_false', Bool.true_eq, Bool.false_eq, ge_iff_le, gt_iff_lt, Bool.not_eq_eq_eq_not, Bool.not_true, Bool.not_false, ne_eq] at hc1
      refine LW.no (by rfl) (by rfl) (by rfl) (by rfl) (by rfl) (by rfl) ?_
      refine LW.v (r_pick) ?_
      refine LW.v (r_as) ?_
      refine LW.nil ?_
      refine TW.c rfl (fun h => by first | (cases h; done) | exact absurd h (by simp [hc0, hc1])) (fun _ => ?_)
      refine TW.seq ?_
      refine TW.region ?_
      refine LW.v (r_mv) ?_
      refine LW.v (r_bin) ?_
      refine LW.v (r_as) ?_
      refine LW.nil ?_
      refine TW.c rfl (fun hb => ?_) (fun hb => ?_)
      · have hr2 := hb; have hc2 := hb; try simp only [beq_iff_eq, bne_iff_ne, beq_eq_false_iff_ne, bne_eq_false_iff_eq, decide_eq_true_eq, decide_eq_false_iff_not, Bool.not_eq_true', Bool.not_eq_false', Bool.true_eq, Bool.false_eq, ge_iff_le, gt_iff_lt, Bool.not_eq_eq_eq_not, Bool.not_true, Bool.not_false, ne_eq] at hc2
        refine TW.seq ?_
        refine TW.region ?_
        refine LW.v (r_as) ?_
        refine LW.nil ?_
        refine TW.ret (ret1 (by rfl) rT ?_)
        exact ⟨by first | rfl | (simp [IntKind.bits, WhI.divided, WhI.u32, WhI.i32, hc0, hc1, hc2]; done) | (exfalso; omega), by first | exact H | exact H.drop | exact H.drop.drop⟩
      · have hr2 := hb; have hc2 := hb; try simp only [beq_iff_eq, bne_iff_ne, beq_eq_false_iff_ne, bne_eq_false_iff_eq, decide_eq_true_eq, decide_eq_false_iff_not, Bool.not_eq_true', Bool.not_eq_false', Bool.true_eq, Bool.false_eq, ge_iff_le, gt_iff_lt, Bool.not_eq_eq_eq_not, Bool.not_true, Bool.not_false, ne_eq] at hc2
        refine TW.seq ?_
        refine TW.region ?_
        refine LW.v (r_mv) ?_
        refine LW.v (r_bin) ?_
        refine LW.v (r_as) ?_
        refine LW.nil ?_
        refine TW.c rfl (fun hb => ?_) (fun hb => ?_)
        · have hr3 := hb; have hc3 := hb; try simp only [beq_iff_eq, bne_iff_ne, beq_eq_false_iff_ne, bne_eq_false_iff_eq, decide_eq_true_eq, decide_eq_false_iff_not, Bool.not_eq_true', Bool.not_eq_false', Bool.true_eq, Bool.false_eq, ge_iff_le, gt_iff_lt, Bool.not_eq_eq_eq_not, Bool.not_true, Bool.not_false, ne_eq] at hc3
          refine TW.seq ?_
          refine TW.region ?_
          refine LW.v (r_mv) ?_
          refine LW.v (r_mv) ?_
          refine LW.v (r_quo (hb := by omega)) ?_
          refine LW.v (r_as) ?_
          refine LW.nil ?_
          refine TW.ret (ret1 (by rfl) rT ?_)
          exact ⟨by first | rfl | (simp [IntKind.bits, WhI.divided, WhI.u32, WhI.i32, hc0, hc1, hc2, hc3]; done) | (exfalso; omega), by first | exact H | exact H.drop | exact H.drop.drop⟩
        · have hr3 := hb; have hc3 := hb; try simp only [beq_iff_eq, bne_iff_ne, beq_eq_false_iff_ne, bne_eq_false_iff_eq, decide_eq_true_eq, decide_eq_false_iff_not, Bool.not_eq_true', Bool.not_eq_false', Bool.true_eq, Bool.false_eq, ge_iff_le, gt_iff_lt, Bool.not_eq_eq_eq_not, Bool.not_true, Bool.not_false, ne_eq] at hc3
          refine TW.seq ?_
          refine TW.region ?_
          refine LW.v (r_mv) ?_
          refine LW.v (r_bin) ?_
          refine LW.v (r_as) ?_
          refine LW.nil ?_
          refine TW.c rfl (fun hb => ?_) (fun hb => ?_)
          · have hr4 := hb; have hc4 := hb; try simp only [beq_iff_eq, bne_iff_ne, beq_eq_false_iff_ne, bne_eq_false_iff_eq, decide_eq_true_eq, decide_eq_false_iff_not, Bool.not_eq_true', Bool.not_eq_false', Bool.true_eq, Bool.false_eq, ge_iff_le, gt_iff_lt, Bool.not_eq_eq_eq_not, Bool.not_true, Bool.not_false, ne_eq] at hc4
            refine TW.seq ?_
            refine TW.region ?_
            refine LW.v (r_mv) ?_
            refine LW.v (r_mv) ?_
            refine LW.v (r_rem (hb := by omega)) ?_
            refine LW.v (r_as) ?_
            refine LW.nil ?_
            refine TW.ret (ret1 (by rfl) rT ?_)
            exact ⟨by first | rfl | (simp [IntKind.bits, WhI.divided, WhI.u32, WhI.i32, hc0, hc1, hc2, hc3, hc4]; done) | (exfalso; omega), by first | exact H | exact H.drop | exact H.drop.drop⟩
          · have hr4 := hb; have hc4 := hb; try simp only [beq_iff_eq, bne_iff_ne, beq_eq_false_iff_ne, bne_eq_false_iff_eq, decide_eq_true_eq, decide_eq_false_iff_not, Bool.not_eq_true', Bool.not_eq_false', Bool.true_eq, Bool.false_eq, ge_iff_le, gt_iff_lt, Bool.not_eq_eq_eq_not, Bool.not_true, Bool.not_false, ne_eq] at hc4
            refine TW.seq ?_
            refine TW.region ?_
            refine LW.v (r_mv) ?_
            refine LW.v (r_bin) ?_
            refine LW.v (r_mv) ?_
            refine LW.gen fun b hb => ?_; cases b
            · have hr5 := hb.symm; have hc5 := hb.symm; try simp only [beq_iff_eq, bne_iff_ne, beq_eq_false_iff_ne, bne_eq_false_iff_eq, decide_eq_true_eq, decide_eq_false_iff_not, Bool.not_eq_true', Bool.not_eq_false', Bool.true_eq, Bool.false_eq, ge_iff_le, gt_iff_lt, Bool.not_eq_eq_eq_not, Bool.not_true, Bool.not_false, ne_eq] at hc5
              refine LW.no (by rfl) (by rfl) (by rfl) (by rfl) (by rfl) (by rfl) ?_
              refine LW.no (by rfl) (by rfl) (by rfl) (by rfl) (by rfl) (by rfl) ?_
              refine LW.v (r_pick) ?_
              refine LW.v (r_mv) ?_
              refine LW.no (by rfl) (by rfl) (by rfl) (by rfl) (by rfl) (by rfl) ?_
              refine LW.v (r_pick) ?_
              refine LW.v (r_as) ?_
              refine LW.nil ?_
              refine TW.c rfl (fun h => by first | (cases h; done) | exact absurd h (by simp [hc0, hc1, hc2, hc3, hc4, hc5])) (fun _ => ?_)
              refine TW.seq ?_
              refine TW.region ?_
              refine LW.v (r_mv) ?_
              refine LW.v (r_bin) ?_
              refine LW.v (r_mv) ?_
              refine LW.gen fun b hb => ?_; cases b
              · have hr6 := hb.symm; have hc6 := hb.symm; try simp only [beq_iff_eq, bne_iff_ne, beq_eq_false_iff_ne, bne_eq_false_iff_eq, decide_eq_true_eq, decide_eq_false_iff_not, Bool.not_eq_true', Bool.not_eq_false', Bool.true_eq, Bool.false_eq, ge_iff_le, gt_iff_lt, Bool.not_eq_eq_eq_not, Bool.not_true, Bool.not_false, ne_eq] at hc6
                refine LW.no (by rfl) (by rfl) (by rfl) (by rfl) (by rfl) (by rfl) ?_
                refine LW.no (by rfl) (by rfl) (by rfl) (by rfl) (by rfl) (by rfl) ?_
                refine LW.v (r_pick) ?_
                refine LW.v (r_as) ?_
                refine LW.nil ?_
                refine TW.c rfl (fun h => by first | (cases h; done) | exact absurd h (by simp [hc0, hc1, hc2, hc3, hc4, hc5, hc6])) (fun _ => ?_)
                refine TW.seq ?_
                refine TW.region ?_
                refine LW.v (r_mv) ?_
                refine LW.v (r_as) ?_
                refine LW.nil ?_
                refine TW.c rfl (fun hb => ?_) (fun hb => ?_)
                · have hr7 := hb; have hc7 := hb; try simp only [beq_iff_eq, bne_iff_ne, beq_eq_false_iff_ne, bne_eq_false_iff_eq, decide_eq_true_eq, decide_eq_false_iff_not, Bool.not_eq_true', Bool.not_eq_false', Bool.true_eq, Bool.false_eq, ge_iff_le, gt_iff_lt, Bool.not_eq_eq_eq_not, Bool.not_true, Bool.not_false, ne_eq] at hc7
                  refine TW.seq ?_
                  refine TW.region ?_
                  refine LW.v (r_mv) ?_
                  refine LW.v (r_cv) ?_
                  refine LW.v (r_mv) ?_
                  refine LW.v (r_cv) ?_
                  refine LW.v (r_rem (hb := by show IntKind.i32.wrap b ≠ 0; exact WhI.wrap_ne h0 h1 (by assumption))) ?_
                  refine LW.v (r_cv) ?_
                  refine LW.v (r_as) ?_
                  refine LW.nil ?_
                  refine TW.ret (ret1 (by rfl) rT ?_)
                  exact ⟨by first | rfl | (simp [IntKind.bits, WhI.divided, WhI.u32, WhI.i32, hc0, hc1, hc2, hc3, hc4, hc5, hc6, hc7]; done) | (exfalso; omega), by first | exact H | exact H.drop | exact H.drop.drop⟩
                · have hr7 := hb; have hc7 := hb; try simp only [beq_iff_eq, bne_iff_ne, beq_eq_false_iff_ne, bne_eq_false_iff_eq, decide_eq_true_eq, decide_eq_false_iff_not, Bool.not_eq_true', Bool.not_eq_false', Bool.true_eq, Bool.false_eq, ge_iff_le, gt_iff_lt, Bool.not_eq_eq_eq_not, Bool.not_true, Bool.not_false, ne_eq] at hc7
                  refine TW.skip <| TW.inBlock <| TW.seq ?_
                  refine TW.region ?_
                  refine LW.v (r_mv) ?_
                  refine LW.v (r_cv) ?_
                  refine LW.v (r_mv) ?_
                  refine LW.v (r_cv) ?_
                  refine LW.v (r_quo (hb := by show IntKind.i32.wrap b ≠ 0; exact WhI.wrap_ne h0 h1 (by assumption))) ?_
                  refine LW.v (r_cv) ?_
                  refine LW.v (r_as) ?_
                  refine LW.nil ?_
                  refine TW.ret (ret1 (by rfl) rT ?_)
                  exact ⟨by first | rfl | (simp [IntKind.bits, WhI.divided, WhI.u32, WhI.i32, hc0, hc1, hc2, hc3, hc4, hc5, hc6, hc7]; done) | (exfalso; omega), by first | exact H | exact H.drop | exact H.drop.drop⟩
              · have hr6 := hb.symm; have hc6 := hb.symm; try simp only [beq_iff_eq, bne_iff_ne, beq_eq_false_iff_ne, bne_eq_false_iff_eq, decide_eq_true_eq, decide_eq_false_iff_not, Bool.not_eq_true', Bool.not_eq_false', Bool.true_eq, Bool.false_eq, ge_iff_le, gt_iff_lt, Bool.not_eq_eq_eq_not, Bool.not_true, Bool.not_false, ne_eq] at hc6
                refine LW.yes (by rfl) (by rfl) (by rfl) (by rfl) (by rfl) ?_
                refine LW.v (r_mv) ?_
                refine LW.yes (by rfl) (by rfl) (by rfl) (by rfl) (by rfl) ?_
                refine LW.v (r_bin) ?_
                refine LW.v (r_pick) ?_
                refine LW.v (r_as) ?_
                refine LW.nil ?_
                refine TW.c rfl (fun hb => ?_) (fun hb => ?_)
                · have hr7 := hb; have hc7 := hb; try simp only [beq_iff_eq, bne_iff_ne, beq_eq_false_iff_ne, bne_eq_false_iff_eq, decide_eq_true_eq, decide_eq_false_iff_not, Bool.not_eq_true', Bool.not_eq_false', Bool.true_eq, Bool.false_eq, ge_iff_le, gt_iff_lt, Bool.not_eq_eq_eq_not, Bool.not_true, Bool.not_false, ne_eq] at hc7
                  refine TW.seq ?_
                  refine TW.region ?_
                  refine LW.v (r_mv) ?_
                  refine LW.v (r_as) ?_
                  refine LW.nil ?_
                  refine TW.ret (ret1 (by rfl) rT ?_)
                  exact ⟨by first | rfl | (simp [IntKind.bits, WhI.divided, WhI.u32, WhI.i32, hc0, hc1, hc2, hc3, hc4, hc5, hc6, hc7]; done) | (exfalso; omega), by first | exact H | exact H.drop | exact H.drop.drop⟩
                · have hr7 := hb; have hc7 := hb; try simp only [beq_iff_eq, bne_iff_ne, beq_eq_false_iff_ne, bne_eq_false_iff_eq, decide_eq_true_eq, decide_eq_false_iff_not, Bool.not_eq_true', Bool.not_eq_false', Bool.true_eq, Bool.false_eq, ge_iff_le, gt_iff_lt, Bool.not_eq_eq_eq_not, Bool.not_true, Bool.not_false, ne_eq] at hc7
                  refine TW.seq ?_
                  refine TW.region ?_
                  refine LW.v (r_mv) ?_
                  refine LW.v (r_as) ?_
                  refine LW.nil ?_
                  refine TW.c rfl (fun hb => ?_) (fun hb => ?_)
                  · have hr8 := hb; have hc8 := hb; try simp only [beq_iff_eq, bne_iff_ne, beq_eq_false_iff_ne, bne_eq_false_iff_eq, decide_eq_true_eq, decide_eq_false_iff_not, Bool.not_eq_true', Bool.not_eq_false', Bool.true_eq, Bool.false_eq, ge_iff_le, gt_iff_lt, Bool.not_eq_eq_eq_not, Bool.not_true, Bool.not_false, ne_eq] at hc8
                    refine TW.seq ?_
                    refine TW.region ?_
                    refine LW.v (r_mv) ?_
                    refine LW.v (r_cv) ?_
                    refine LW.v (r_mv) ?_
                    refine LW.v (r_cv) ?_
                    refine LW.v (r_rem (hb := by show IntKind.i32.wrap b ≠ 0; exact WhI.wrap_ne h0 h1 (by assumption))) ?_
                    refine LW.v (r_cv) ?_
                    refine LW.v (r_as) ?_
                    refine LW.nil ?_
                    refine TW.ret (ret1 (by rfl) rT ?_)
                    exact ⟨by first | rfl | (simp [IntKind.bits, WhI.divided, WhI.u32, WhI.i32, hc0, hc1, hc2, hc3, hc4, hc5, hc6, hc7, hc8]; done) | (exfalso; omega), by first | exact H | exact H.drop | exact H.drop.drop⟩
                  · have hr8 := hb; have hc8 := hb; try simp only [beq_iff_eq, bne_iff_ne, beq_eq_false_iff_ne, bne_eq_false_iff_eq, decide_eq_true_eq, decide_eq_false_iff_not, Bool.not_eq_true', Bool.not_eq_false', Bool.true_eq, Bool.false_eq, ge_iff_le, gt_iff_lt, Bool.not_eq_eq_eq_not, Bool.not_true, Bool.not_false, ne_eq] at hc8
                    refine TW.skip <| TW.inBlock <| TW.seq ?_
                    refine TW.region ?_
                    refine LW.v (r_mv) ?_
                    refine LW.v (r_cv) ?_
                    refine LW.v (r_mv) ?_
                    refine LW.v (r_cv) ?_
                    refine LW.v (r_quo (hb := by show IntKind.i32.wrap b ≠ 0; exact WhI.wrap_ne h0 h1 (by assumption))) ?_
                    refine LW.v (r_cv) ?_
                    refine LW.v (r_as) ?_
                    refine LW.nil ?_
                    refine TW.ret (ret1 (by rfl) rT ?_)
                    exact ⟨by first | rfl | (simp [IntKind.bits, WhI.divided, WhI.u32, WhI.i32, hc0, hc1, hc2, hc3, hc4, hc5, hc6, hc7, hc8]; done) | (exfalso; omega), by first | exact H | exact H.drop | exact H.drop.drop⟩
            · have hr5 := hb.symm; have hc5 := hb.symm; try simp only [beq_iff_eq, bne_iff_ne, beq_eq_false_iff_ne, bne_eq_false_iff_eq, decide_eq_true_eq, decide_eq_false_iff_not, Bool.not_eq_true', Bool.not_eq_false', Bool.true_eq, Bool.false_eq, ge_iff_le, gt_iff_lt, Bool.not_eq_eq_eq_not, Bool.not_true, Bool.not_false, ne_eq] at hc5
              refine LW.yes (by rfl) (by rfl) (by rfl) (by rfl) (by rfl) ?_
              refine LW.v (r_mv) ?_
              refine LW.yes (by rfl) (by rfl) (by rfl) (by rfl) (by rfl) ?_
              refine LW.v (r_bin) ?_
              refine LW.v (r_pick) ?_
              refine LW.v (r_mv) ?_
              refine LW.gen fun b hb => ?_; cases b
              · have hr6 := hb.symm; have hc6 := hb.symm; try simp only [beq_iff_eq, bne_iff_ne, beq_eq_false_iff_ne, bne_eq_false_iff_eq, decide_eq_true_eq, decide_eq_false_iff_not, Bool.not_eq_true', Bool.not_eq_false', Bool.true_eq, Bool.false_eq, ge_iff_le, gt_iff_lt, Bool.not_eq_eq_eq_not, Bool.not_true, Bool.not_false, ne_eq] at hc6
                refine LW.no (by rfl) (by rfl) (by rfl) (by rfl) (by rfl) (by rfl) ?_
                refine LW.v (r_pick) ?_
                refine LW.v (r_as) ?_
                refine LW.nil ?_
                refine TW.c rfl (fun h => by first | (cases h; done) | exact absurd h (by simp [hc0, hc1, hc2, hc3, hc4, hc5, hc6])) (fun _ => ?_)
                refine TW.seq ?_
                refine TW.region ?_
                refine LW.v (r_mv) ?_
                refine LW.v (r_bin) ?_
                refine LW.v (r_mv) ?_
                refine LW.gen fun b hb => ?_; cases b
                · have hr7 := hb.symm; have hc7 := hb.symm; try simp only [beq_iff_eq, bne_iff_ne, beq_eq_false_iff_ne, bne_eq_false_iff_eq, decide_eq_true_eq, decide_eq_false_iff_not, Bool.not_eq_true', Bool.not_eq_false', Bool.true_eq, Bool.false_eq, ge_iff_le, gt_iff_lt, Bool.not_eq_eq_eq_not, Bool.not_true, Bool.not_false, ne_eq] at hc7
                  refine LW.no (by rfl) (by rfl) (by rfl) (by rfl) (by rfl) (by rfl) ?_
                  refine LW.no (by rfl) (by rfl) (by rfl) (by rfl) (by rfl) (by rfl) ?_
                  refine LW.v (r_pick) ?_
                  refine LW.v (r_as) ?_
                  refine LW.nil ?_
                  refine TW.c rfl (fun h => by first | (cases h; done) | exact absurd h (by simp [hc0, hc1, hc2, hc3, hc4, hc5, hc6, hc7])) (fun _ => ?_)
                  refine TW.seq ?_
                  refine TW.region ?_
                  refine LW.v (r_mv) ?_
                  refine LW.v (r_as) ?_
                  refine LW.nil ?_
                  refine TW.c rfl (fun hb => ?_) (fun hb => ?_)
                  · have hr8 := hb; have hc8 := hb; try simp only [beq_iff_eq, bne_iff_ne, beq_eq_false_iff_ne, bne_eq_false_iff_eq, decide_eq_true_eq, decide_eq_false_iff_not, Bool.not_eq_true', Bool.not_eq_false', Bool.true_eq, Bool.false_eq, ge_iff_le, gt_iff_lt, Bool.not_eq_eq_eq_not, Bool.not_true, Bool.not_false, ne_eq] at hc8
                    refine TW.seq ?_
                    refine TW.region ?_
                    refine LW.v (r_mv) ?_
                    refine LW.v (r_cv) ?_
                    refine LW.v (r_mv) ?_
                    refine LW.v (r_cv) ?_
                    refine LW.v (r_rem (hb := by show IntKind.i32.wrap b ≠ 0; exact WhI.wrap_ne h0 h1 (by assumption))) ?_
                    refine LW.v (r_cv) ?_
                    refine LW.v (r_as) ?_
                    refine LW.nil ?_
                    refine TW.ret (ret1 (by rfl) rT ?_)
                    exact ⟨by first | rfl | (simp [IntKind.bits, WhI.divided, WhI.u32, WhI.i32, hc0, hc1, hc2, hc3, hc4, hc5, hc6, hc7, hc8]; done) | (exfalso; omega), by first | exact H | exact H.drop | exact H.drop.drop⟩
                  · have hr8 := hb; have hc8 := hb; try simp only [beq_iff_eq, bne_iff_ne, beq_eq_false_iff_ne, bne_eq_false_iff_eq, decide_eq_true_eq, decide_eq_false_iff_not, Bool.not_eq_true', Bool.not_eq_false', Bool.true_eq, Bool.false_eq, ge_iff_le, gt_iff_lt, Bool.not_eq_eq_eq_not, Bool.not_true, Bool.not_false, ne_eq] at hc8
                    refine TW.skip <| TW.inBlock <| TW.seq ?_
                    refine TW.region ?_
                    refine LW.v (r_mv) ?_
                    refine LW.v (r_cv) ?_
                    refine LW.v (r_mv) ?_
                    refine LW.v (r_cv) ?_
                    refine LW.v (r_quo (hb := by show IntKind.i32.wrap b ≠ 0; exact WhI.wrap_ne h0 h1 (by assumption))) ?_
                    refine LW.v (r_cv) ?_
                    refine LW.v (r_as) ?_
                    refine LW.nil ?_
                    refine TW.ret (ret1 (by rfl) rT ?_)
                    exact ⟨by first | rfl | (simp [IntKind.bits, WhI.divided, WhI.u32, WhI.i32, hc0, hc1, hc2, hc3, hc4, hc5, hc6, hc7, hc8]; done) | (exfalso; omega), by first | exact H | exact H.drop | exact H.drop.drop⟩
                · have hr7 := hb.symm; have hc7 := hb.symm; try simp only [beq_iff_eq, bne_iff_ne, beq_eq_false_iff_ne, bne_eq_false_iff_eq, decide_eq_true_eq, decide_eq_false_iff_not, Bool.not_eq_true', Bool.not_eq_false', Bool.true_eq, Bool.false_eq, ge_iff_le, gt_iff_lt, Bool.not_eq_eq_eq_not, Bool.not_true, Bool.not_false, ne_eq] at hc7
                  refine LW.yes (by rfl) (by rfl) (by rfl) (by rfl) (by rfl) ?_
                  refine LW.v (r_mv) ?_
                  refine LW.yes (by rfl) (by rfl) (by rfl) (by rfl) (by rfl) ?_
                  refine LW.v (r_bin) ?_
                  refine LW.v (r_pick) ?_
                  refine LW.v (r_as) ?_
                  refine LW.nil ?_
                  refine TW.c rfl (fun hb => ?_) (fun hb => ?_)
                  · have hr8 := hb; have hc8 := hb; try simp only [beq_iff_eq, bne_iff_ne, beq_eq_false_iff_ne, bne_eq_false_iff_eq, decide_eq_true_eq, decide_eq_false_iff_not, Bool.not_eq_true', Bool.not_eq_false', Bool.true_eq, Bool.false_eq, ge_iff_le, gt_iff_lt, Bool.not_eq_eq_eq_not, Bool.not_true, Bool.not_false, ne_eq] at hc8
                    refine TW.seq ?_
                    refine TW.region ?_
                    refine LW.v (r_mv) ?_
                    refine LW.v (r_as) ?_
                    refine LW.nil ?_
                    refine TW.ret (ret1 (by rfl) rT ?_)
                    exact ⟨by first | rfl | (simp [IntKind.bits, WhI.divided, WhI.u32, WhI.i32, hc0, hc1, hc2, hc3, hc4, hc5, hc6, hc7, hc8]; done) | (exfalso; omega), by first | exact H | exact H.drop | exact H.drop.drop⟩
                  · have hr8 := hb; have hc8 := hb; try simp only [beq_iff_eq, bne_iff_ne, beq_eq_false_iff_ne, bne_eq_false_iff_eq, decide_eq_true_eq, decide_eq_false_iff_not, Bool.not_eq_true', Bool.not_eq_false', Bool.true_eq, Bool.false_eq, ge_iff_le, gt_iff_lt, Bool.not_eq_eq_eq_not, Bool.not_true, Bool.not_false, ne_eq] at hc8
                    refine TW.seq ?_
                    refine TW.region ?_
                    refine LW.v (r_mv) ?_
                    refine LW.v (r_as) ?_
                    refine LW.nil ?_
                    refine TW.c rfl (fun hb => ?_) (fun hb => ?_)
                    · have hr9 := hb; have hc9 := hb; try simp only [beq_iff_eq, bne_iff_ne, beq_eq_false_iff_ne, bne_eq_false_iff_eq, decide_eq_true_eq, decide_eq_false_iff_not, Bool.not_eq_true', Bool.not_eq_false', Bool.true_eq, Bool.false_eq, ge_iff_le, gt_iff_lt, Bool.not_eq_eq_eq_not, Bool.not_true, Bool.not_false, ne_eq] at hc9
                      refine TW.seq ?_
                      refine TW.region ?_
                      refine LW.v (r_mv) ?_
                      refine LW.v (r_cv) ?_
                      refine LW.v (r_mv) ?_
                      refine LW.v (r_cv) ?_
                      refine LW.v (r_rem (hb := by show IntKind.i32.wrap b ≠ 0; exact WhI.wrap_ne h0 h1 (by assumption))) ?_
                      refine LW.v (r_cv) ?_
                      refine LW.v (r_as) ?_
                      refine LW.nil ?_
                      refine TW.ret (ret1 (by rfl) rT ?_)
                      exact ⟨by first | rfl | (simp [IntKind.bits, WhI.divided, WhI.u32, WhI.i32, hc0, hc1, hc2, hc3, hc4, hc5, hc6, hc7, hc8, hc9]; done) | (exfalso; omega), by first | exact H | exact H.drop | exact H.drop.drop⟩
                    · have hr9 := hb; have hc9 := hb; try simp only [beq_iff_eq, bne_iff_ne, beq_eq_false_iff_ne, bne_eq_false_iff_eq, decide_eq_true_eq, decide_eq_false_iff_not, Bool.not_eq_true', Bool.not_eq_false', Bool.true_eq, Bool.false_eq, ge_iff_le, gt_iff_lt, Bool.not_eq_eq_eq_not, Bool.not_true, Bool.not_false, ne_eq] at hc9
                      refine TW.skip <| TW.inBlock <| TW.seq ?_
                      refine TW.region ?_
                      refine LW.v (r_mv) ?_
                      refine LW.v (r_cv) ?_
                      refine LW.v (r_mv) ?_
                      refine LW.v (r_cv) ?_
                      refine LW.v (r_quo (hb := by show IntKind.i32.wrap b ≠ 0; exact WhI.wrap_ne h0 h1 (by assumption))) ?_
                      refine LW.v (r_cv) ?_
                      refine LW.v (r_as) ?_
                      refine LW.nil ?_
                      refine TW.ret (ret1 (by rfl) rT ?_)
                      exact ⟨by first | rfl | (simp [IntKind.bits, WhI.divided, WhI.u32, WhI.i32, hc0, hc1, hc2, hc3, hc4, hc5, hc6, hc7, hc8, hc9]; done) | (exfalso; omega), by first | exact H | exact H.drop | exact H.drop.drop⟩
              · have hr6 := hb.symm; have hc6 := hb.symm; try simp only [beq_iff_eq, bne_iff_ne, beq_eq_false_iff_ne, bne_eq_false_iff_eq, decide_eq_true_eq, decide_eq_false_iff_not, Bool.not_eq_true', Bool.not_eq_false', Bool.true_eq, Bool.false_eq, ge_iff_le, gt_iff_lt, Bool.not_eq_eq_eq_not, Bool.not_true, Bool.not_false, ne_eq] at hc6
                refine LW.yes (by rfl) (by rfl) (by rfl) (by rfl) (by rfl) ?_
                refine LW.v (r_mv) ?_
                refine LW.v (r_pick) ?_
                refine LW.v (r_as) ?_
                refine LW.nil ?_
                refine TW.c rfl (fun hb => ?_) (fun hb => ?_)
                · have hr7 := hb; have hc7 := hb; try simp only [beq_iff_eq, bne_iff_ne, beq_eq_false_iff_ne, bne_eq_false_iff_eq, decide_eq_true_eq, decide_eq_false_iff_not, Bool.not_eq_true', Bool.not_eq_false', Bool.true_eq, Bool.false_eq, ge_iff_le, gt_iff_lt, Bool.not_eq_eq_eq_not, Bool.not_true, Bool.not_false, ne_eq] at hc7
                  refine TW.seq ?_
                  refine TW.region ?_
                  refine LW.v (r_as) ?_
                  refine LW.nil ?_
                  refine TW.ret (ret1 (by rfl) rT ?_)
                  exact ⟨by first | rfl | (simp [IntKind.bits, WhI.divided, WhI.u32, WhI.i32, hc0, hc1, hc2, hc3, hc4, hc5, hc6, hc7]; done) | (exfalso; omega), by first | exact H | exact H.drop | exact H.drop.drop⟩
                · have hr7 := hb; have hc7 := hb; try simp only [beq_iff_eq, bne_iff_ne, beq_eq_false_iff_ne, bne_eq_false_iff_eq, decide_eq_true_eq, decide_eq_false_iff_not, Bool.not_eq_true', Bool.not_eq_false', Bool.true_eq, Bool.false_eq, ge_iff_le, gt_iff_lt, Bool.not_eq_eq_eq_not, Bool.not_true, Bool.not_false, ne_eq] at hc7
                  refine TW.seq ?_
                  refine TW.region ?_
                  refine LW.v (r_mv) ?_
                  refine LW.v (r_bin) ?_
                  refine LW.v (r_mv) ?_
                  refine LW.gen fun b hb => ?_; cases b
                  · have hr8 := hb.symm; have hc8 := hb.symm; try simp only [beq_iff_eq, bne_iff_ne, beq_eq_false_iff_ne, bne_eq_false_iff_eq, decide_eq_true_eq, decide_eq_false_iff_not, Bool.not_eq_true', Bool.not_eq_false', Bool.true_eq, Bool.false_eq, ge_iff_le, gt_iff_lt, Bool.not_eq_eq_eq_not, Bool.not_true, Bool.not_false, ne_eq] at hc8
                    refine LW.no (by rfl) (by rfl) (by rfl) (by rfl) (by rfl) (by rfl) ?_
                    refine LW.no (by rfl) (by rfl) (by rfl) (by rfl) (by rfl) (by rfl) ?_
                    refine LW.v (r_pick) ?_
                    refine LW.v (r_as) ?_
                    refine LW.nil ?_
                    refine TW.c rfl (fun h => by first | (cases h; done) | exact absurd h (by simp [hc0, hc1, hc2, hc3, hc4, hc5, hc6, hc7, hc8])) (fun _ => ?_)
                    refine TW.seq ?_
                    refine TW.region ?_
                    refine LW.v (r_mv) ?_
                    refine LW.v (r_as) ?_
                    refine LW.nil ?_
                    refine TW.c rfl (fun hb => ?_) (fun hb => ?_)
                    · have hr9 := hb; have hc9 := hb; try simp only [beq_iff_eq, bne_iff_ne, beq_eq_false_iff_ne, bne_eq_false_iff_eq, decide_eq_true_eq, decide_eq_false_iff_not, Bool.not_eq_true', Bool.not_eq_false', Bool.true_eq, Bool.false_eq, ge_iff_le, gt_iff_lt, Bool.not_eq_eq_eq_not, Bool.not_true, Bool.not_false, ne_eq] at hc9
                      refine TW.seq ?_
                      refine TW.region ?_
                      refine LW.v (r_mv) ?_
                      refine LW.v (r_cv) ?_
                      refine LW.v (r_mv) ?_
                      refine LW.v (r_cv) ?_
                      refine LW.v (r_rem (hb := by show IntKind.i32.wrap b ≠ 0; exact WhI.wrap_ne h0 h1 (by assumption))) ?_
                      refine LW.v (r_cv) ?_
                      refine LW.v (r_as) ?_
                      refine LW.nil ?_
                      refine TW.ret (ret1 (by rfl) rT ?_)
                      exact ⟨by first | rfl | (simp [IntKind.bits, WhI.divided, WhI.u32, WhI.i32, hc0, hc1, hc2, hc3, hc4, hc5, hc6, hc7, hc8, hc9]; done) | (exfalso; omega), by first | exact H | exact H.drop | exact H.drop.drop⟩
                    · have hr9 := hb; have hc9 := hb; try simp only [beq_iff_eq, bne_iff_ne, beq_eq_false_iff_ne, bne_eq_false_iff_eq, decide_eq_true_eq, decide_eq_false_iff_not, Bool.not_eq_true', Bool.not_eq_false', Bool.true_eq, Bool.false_eq, ge_iff_le, gt_iff_lt, Bool.not_eq_eq_eq_not, Bool.not_true, Bool.not_false, ne_eq] at hc9
                      refine TW.skip <| TW.inBlock <| TW.seq ?_
                      refine TW.region ?_
                      refine LW.v (r_mv) ?_
                      refine LW.v (r_cv) ?_
                      refine LW.v (r_mv) ?_
                      refine LW.v (r_cv) ?_
                      refine LW.v (r_quo (hb := by show IntKind.i32.wrap b ≠ 0; exact WhI.wrap_ne h0 h1 (by assumption))) ?_
                      refine LW.v (r_cv) ?_
                      refine LW.v (r_as) ?_
                      refine LW.nil ?_
                      refine TW.ret (ret1 (by rfl) rT ?_)
                      exact ⟨by first | rfl | (simp [IntKind.bits, WhI.divided, WhI.u32, WhI.i32, hc0, hc1, hc2, hc3, hc4, hc5, hc6, hc7, hc8, hc9]; done) | (exfalso; omega), by first | exact H | exact H.drop | exact H.drop.drop⟩
                  · have hr8 := hb.symm; have hc8 := hb.symm; try simp only [beq_iff_eq, bne_iff_ne, beq_eq_false_iff_ne, bne_eq_false_iff_eq, decide_eq_true_eq, decide_eq_false_iff_not, Bool.not_eq_true', Bool.not_eq_false', Bool.true_eq, Bool.false_eq, ge_iff_le, gt_iff_lt, Bool.not_eq_eq_eq_not, Bool.not_true, Bool.not_false, ne_eq] at hc8
                    refine LW.yes (by rfl) (by rfl) (by rfl) (by rfl) (by rfl) ?_
                    refine LW.v (r_mv) ?_
                    refine LW.yes (by rfl) (by rfl) (by rfl) (by rfl) (by rfl) ?_
                    refine LW.v (r_bin) ?_
                    refine LW.v (r_pick) ?_
                    refine LW.v (r_as) ?_
                    refine LW.nil ?_
                    refine TW.c rfl (fun hb => ?_) (fun hb => ?_)
                    · have hr9 := hb; have hc9 := hb; try simp only [beq_iff_eq, bne_iff_ne, beq_eq_false_iff_ne, bne_eq_false_iff_eq, decide_eq_true_eq, decide_eq_false_iff_not, Bool.not_eq_true', Bool.not_eq_false', Bool.true_eq, Bool.false_eq, ge_iff_le, gt_iff_lt, Bool.not_eq_eq_eq_not, Bool.not_true, Bool.not_false, ne_eq] at hc9
                      refine TW.seq ?_
                      refine TW.region ?_
                      refine LW.v (r_mv) ?_
                      refine LW.v (r_as) ?_
                      refine LW.nil ?_
                      refine TW.ret (ret1 (by rfl) rT ?_)
                      exact ⟨by first | rfl | (simp [IntKind.bits, WhI.divided, WhI.u32, WhI.i32, hc0, hc1, hc2, hc3, hc4, hc5, hc6, hc7, hc8, hc9]; done) | (exfalso; omega), by first | exact H | exact H.drop | exact H.drop.drop⟩
                    · have hr9 := hb; have hc9 := hb; try simp only [beq_iff_eq, bne_iff_ne, beq_eq_false_iff_ne, bne_eq_false_iff_eq, decide_eq_true_eq, decide_eq_false_iff_not, Bool.not_eq_true', Bool.not_eq_false', Bool.true_eq, Bool.false_eq, ge_iff_le, gt_iff_lt, Bool.not_eq_eq_eq_not, Bool.not_true, Bool.not_false, ne_eq] at hc9
                      refine TW.seq ?_
                      refine TW.region ?_
                      refine LW.v (r_mv) ?_
                      refine LW.v (r_as) ?_
                      refine LW.nil ?_
                      refine TW.c rfl (fun hb => ?_) (fun hb => ?_)
                      · have hr10 := hb; have hc10 := hb; try simp only [beq_iff_eq, bne_iff_ne, beq_eq_false_iff_ne, bne_eq_false_iff_eq, decide_eq_true_eq, decide_eq_false_iff_not, Bool.not_eq_true', Bool.not_eq_false', Bool.true_eq, Bool.false_eq, ge_iff_le, gt_iff_lt, Bool.not_eq_eq_eq_not, Bool.not_true, Bool.not_false, ne_eq] at hc10
                        refine TW.seq ?_
                        refine TW.region ?_
                        refine LW.v (r_mv) ?_
                        refine LW.v (r_cv) ?_
                        refine LW.v (r_mv) ?_
                        refine LW.v (r_cv) ?_
                        refine LW.v (r_rem (hb := by show IntKind.i32.wrap b ≠ 0; exact WhI.wrap_ne h0 h1 (by assumption))) ?_
                        refine LW.v (r_cv) ?_
                        refine LW.v (r_as) ?_
                        refine LW.nil ?_
                        refine TW.ret (ret1 (by rfl) rT ?_)
                        exact ⟨by first | rfl | (simp [IntKind.bits, WhI.divided, WhI.u32, WhI.i32, hc0, hc1, hc2, hc3, hc4, hc5, hc6, hc7, hc8, hc9, hc10]; done) | (exfalso; omega), by first | exact H | exact H.drop | exact H.drop.drop⟩
                      · have hr10 := hb; have hc10 := hb; try simp only [beq_iff_eq, bne_iff_ne, beq_eq_false_iff_ne, bne_eq_false_iff_eq, decide_eq_true_eq, decide_eq_false_iff_not, Bool.not_eq_true', Bool.not_eq_false', Bool.true_eq, Bool.false_eq, ge_iff_le, gt_iff_lt, Bool.not_eq_eq_eq_not, Bool.not_true, Bool.not_false, ne_eq] at hc10
                        refine TW.skip <| TW.inBlock <| TW.seq ?_
                        refine TW.region ?_
                        refine LW.v (r_mv) ?_
                        refine LW.v (r_cv) ?_
                        refine LW.v (r_mv) ?_
                        refine LW.v (r_cv) ?_
                        refine LW.v (r_quo (hb := by show IntKind.i32.wrap b ≠ 0; exact WhI.wrap_ne h0 h1 (by assumption))) ?_
                        refine LW.v (r_cv) ?_
                        refine LW.v (r_as) ?_
                        refine LW.nil ?_
                        refine TW.ret (ret1 (by rfl) rT ?_)
                        exact ⟨by first | rfl | (simp [IntKind.bits, WhI.divided, WhI.u32, WhI.i32, hc0, hc1, hc2, hc3, hc4, hc5, hc6, hc7, hc8, hc9, hc10]; done) | (exfalso; omega), by first | exact H | exact H.drop | exact H.drop.drop⟩
    · have hr1 := hb.symm; have hc1 := hb.symm; try simp only [beq_iff_eq, bne_iff_ne, beq_eq_false_iff_ne, bne_eq_false_iff_eq, decide_eq_true_eq, decide_eq_false_iff_not, Bool.not_eq_true', Bool.not_eq_false', Bool.true_eq, Bool.false_eq, ge_iff_le, gt_iff_lt, Bool.not_eq_eq_eq_not, Bool.not_true, Bool.not_false, ne_eq] at hc1
      refine LW.yes (by rfl) (by rfl) (by rfl) (by rfl) (by rfl) ?_
      refine LW.v (r_mv) ?_
      refine LW.v (r_pick) ?_
      refine LW.v (r_as) ?_
      refine LW.nil ?_
      refine TW.c rfl (fun hb => ?_) (fun hb => ?_)
      · have hr2 := hb; have hc2 := hb; try simp only [beq_iff_eq, bne_iff_ne, beq_eq_false_iff_ne, bne_eq_false_iff_eq, decide_eq_true_eq, decide_eq_false_iff_not, Bool.not_eq_true', Bool.not_eq_false', Bool.true_eq, Bool.false_eq, ge_iff_le, gt_iff_lt, Bool.not_eq_eq_eq_not, Bool.not_true, Bool.not_false, ne_eq] at hc2
        refine TW.seq ?_
        refine TW.region ?_
        refine LW.v (r_mv) ?_
        refine LW.v (r_as) ?_
        refine LW.nil ?_
        refine TW.ret (ret1 (by rfl) rT ?_)
        exact ⟨by first | rfl | (simp [IntKind.bits, WhI.divided, WhI.u32, WhI.i32, hc0, hc1, hc2]; done) | (exfalso; omega), by first | exact H | exact H.drop | exact H.drop.drop⟩
      · have hr2 := hb; have hc2 := hb; try simp only [beq_iff_eq, bne_iff_ne, beq_eq_false_iff_ne, bne_eq_false_iff_eq, decide_eq_true_eq, decide_eq_false_iff_not, Bool.not_eq_true', Bool.not_eq_false', Bool.true_eq, Bool.false_eq, ge_iff_le, gt_iff_lt, Bool.not_eq_eq_eq_not, Bool.not_true, Bool.not_false, ne_eq] at hc2
        refine TW.seq ?_
        refine TW.region ?_
        refine LW.v (r_mv) ?_
        refine LW.v (r_bin) ?_
        refine LW.v (r_as) ?_
        refine LW.nil ?_
        refine TW.c rfl (fun hb => ?_) (fun hb => ?_)
        · have hr3 := hb; have hc3 := hb; try simp only [beq_iff_eq, bne_iff_ne, beq_eq_false_iff_ne, bne_eq_false_iff_eq, decide_eq_true_eq, decide_eq_false_iff_not, Bool.not_eq_true', Bool.not_eq_false', Bool.true_eq, Bool.false_eq, ge_iff_le, gt_iff_lt, Bool.not_eq_eq_eq_not, Bool.not_true, Bool.not_false, ne_eq] at hc3
          refine TW.seq ?_
          refine TW.region ?_
          refine LW.v (r_as) ?_
          refine LW.nil ?_
          refine TW.ret (ret1 (by rfl) rT ?_)
          exact ⟨by first | rfl | (simp [IntKind.bits, WhI.divided, WhI.u32, WhI.i32, hc0, hc1, hc2, hc3]; done) | (exfalso; omega), by first | exact H | exact H.drop | exact H.drop.drop⟩
        · have hr3 := hb; have hc3 := hb; try simp only [beq_iff_eq, bne_iff_ne, beq_eq_false_iff_ne, bne_eq_false_iff_eq, decide_eq_true_eq, decide_eq_false_iff_not, Bool.not_eq_true', Bool.not_eq_false', Bool.true_eq, Bool.false_eq, ge_iff_le, gt_iff_lt, Bool.not_eq_eq_eq_not, Bool.not_true, Bool.not_false, ne_eq] at hc3
          refine TW.seq ?_
          refine TW.region ?_
          refine LW.v (r_mv) ?_
          refine LW.v (r_bin) ?_
          refine LW.v (r_as) ?_
          refine LW.nil ?_
          refine TW.c rfl (fun hb => ?_) (fun hb => ?_)
          · have hr4 := hb; have hc4 := hb; try simp only [beq_iff_eq, bne_iff_ne, beq_eq_false_iff_ne, bne_eq_false_iff_eq, decide_eq_true_eq, decide_eq_false_iff_not, Bool.not_eq_true', Bool.not_eq_false', Bool.true_eq, Bool.false_eq, ge_iff_le, gt_iff_lt, Bool.not_eq_eq_eq_not, Bool.not_true, Bool.not_false, ne_eq] at hc4
            refine TW.seq ?_
            refine TW.region ?_
            refine LW.v (r_mv) ?_
            refine LW.v (r_mv) ?_
            refine LW.v (r_quo (hb := by omega)) ?_
            refine LW.v (r_as) ?_
            refine LW.nil ?_
            refine TW.ret (ret1 (by rfl) rT ?_)
            exact ⟨by first | rfl | (simp [IntKind.bits, WhI.divided, WhI.u32, WhI.i32, hc0, hc1, hc2, hc3, hc4]; done) | (exfalso; omega), by first | exact H | exact H.drop | exact H.drop.drop⟩
          · have hr4 := hb; have hc4 := hb; try simp only [beq_iff_eq, bne_iff_ne, beq_eq_false_iff_ne, bne_eq_false_iff_eq, decide_eq_true_eq, decide_eq_false_iff_not, Bool.not_eq_true', Bool.not_eq_false', Bool.true_eq, Bool.false_eq, ge_iff_le, gt_iff_lt, Bool.not_eq_eq_eq_not, Bool.not_true, Bool.not_false, ne_eq] at hc4
            refine TW.seq ?_
            refine TW.region ?_
            refine LW.v (r_mv) ?_
            refine LW.v (r_bin) ?_
            refine LW.v (r_as) ?_
            refine LW.nil ?_
            refine TW.c rfl (fun hb => ?_) (fun hb => ?_)
            · have hr5 := hb; have hc5 := hb; try simp only [beq_iff_eq, bne_iff_ne, beq_eq_false_iff_ne, bne_eq_false_iff_eq, decide_eq_true_eq, decide_eq_false_iff_not, Bool.not_eq_true', Bool.not_eq_false', Bool.true_eq, Bool.false_eq, ge_iff_le, gt_iff_lt, Bool.not_eq_eq_eq_not, Bool.not_true, Bool.not_false, ne_eq] at hc5
              refine TW.seq ?_
              refine TW.region ?_
              refine LW.v (r_mv) ?_
              refine LW.v (r_mv) ?_
              refine LW.v (r_rem (hb := by omega)) ?_
              refine LW.v (r_as) ?_
              refine LW.nil ?_
              refine TW.ret (ret1 (by rfl) rT ?_)
              exact ⟨by first | rfl | (simp [IntKind.bits, WhI.divided, WhI.u32, WhI.i32, hc0, hc1, hc2, hc3, hc4, hc5]; done) | (exfalso; omega), by first | exact H | exact H.drop | exact H.drop.drop⟩
            · have hr5 := hb; have hc5 := hb; try simp only [beq_iff_eq, bne_iff_ne, beq_eq_false_iff_ne, bne_eq_false_iff_eq, decide_eq_true_eq, decide_eq_false_iff_not, Bool.not_eq_true', Bool.not_eq_false', Bool.true_eq, Bool.false_eq, ge_iff_le, gt_iff_lt, Bool.not_eq_eq_eq_not, Bool.not_true, Bool.not_false, ne_eq] at hc5
              refine TW.seq ?_
              refine TW.region ?_
              refine LW.v (r_mv) ?_
              refine LW.v (r_bin) ?_
              refine LW.v (r_mv) ?_
              refine LW.gen fun b hb => ?_; cases b
              · have hr6 := hb.symm; have hc6 := hb.symm; try simp only [beq_iff_eq, bne_iff_ne, beq_eq_false_iff_ne, bne_eq_false_iff_eq, decide_eq_true_eq, decide_eq_false_iff_not, Bool.not_eq_true', Bool.not_eq_false', Bool.true_eq, Bool.false_eq, ge_iff_le, gt_iff_lt, Bool.not_eq_eq_eq_not, Bool.not_true, Bool.not_false, ne_eq] at hc6
                refine LW.no (by rfl) (by rfl) (by rfl) (by rfl) (by rfl) (by rfl) ?_
                refine LW.no (by rfl) (by rfl) (by rfl) (by rfl) (by rfl) (by rfl) ?_
                refine LW.v (r_pick) ?_
                refine LW.v (r_mv) ?_
                refine LW.no (by rfl) (by rfl) (by rfl) (by rfl) (by rfl) (by rfl) ?_
                refine LW.v (r_pick) ?_
                refine LW.v (r_as) ?_
                refine LW.nil ?_
                refine TW.c rfl (fun h => by first | (cases h; done) | exact absurd h (by simp [hc0, hc1, hc2, hc3, hc4, hc5, hc6])) (fun _ => ?_)
                refine TW.seq ?_
                refine TW.region ?_
                refine LW.v (r_mv) ?_
                refine LW.v (r_bin) ?_
                refine LW.v (r_mv) ?_
                refine LW.gen fun b hb => ?_; cases b
                · have hr7 := hb.symm; have hc7 := hb.symm; try simp only [beq_iff_eq, bne_iff_ne, beq_eq_false_iff_ne, bne_eq_false_iff_eq, decide_eq_true_eq, decide_eq_false_iff_not, Bool.not_eq_true', Bool.not_eq_false', Bool.true_eq, Bool.false_eq, ge_iff_le, gt_iff_lt, Bool.not_eq_eq_eq_not, Bool.not_true, Bool.not_false, ne_eq] at hc7
                  refine LW.no (by rfl) (by rfl) (by rfl) (by rfl) (by rfl) (by rfl) ?_
                  refine LW.no (by rfl) (by rfl) (by rfl) (by rfl) (by rfl) (by rfl) ?_
                  refine LW.v (r_pick) ?_
                  refine LW.v (r_as) ?_
                  refine LW.nil ?_
                  refine TW.c rfl (fun h => by first | (cases h; done) | exact absurd h (by simp [hc0, hc1, hc2, hc3, hc4, hc5, hc6, hc7])) (fun _ => ?_)
                  refine TW.seq ?_
                  refine TW.region ?_
                  refine LW.v (r_mv) ?_
                  refine LW.v (r_as) ?_
                  refine LW.nil ?_
                  refine TW.c rfl (fun hb => ?_) (fun hb => ?_)
                  · have hr8 := hb; have hc8 := hb; try simp only [beq_iff_eq, bne_iff_ne, beq_eq_false_iff_ne, bne_eq_false_iff_eq, decide_eq_true_eq, decide_eq_false_iff_not, Bool.not_eq_true', Bool.not_eq_false', Bool.true_eq, Bool.false_eq, ge_iff_le, gt_iff_lt, Bool.not_eq_eq_eq_not, Bool.not_true, Bool.not_false, ne_eq] at hc8
                    refine TW.seq ?_
                    refine TW.region ?_
                    refine LW.v (r_mv) ?_
                    refine LW.v (r_cv) ?_
                    refine LW.v (r_mv) ?_
                    refine LW.v (r_cv) ?_
                    refine LW.v (r_rem (hb := by show IntKind.i32.wrap b ≠ 0; exact WhI.wrap_ne h0 h1 (by assumption))) ?_
                    refine LW.v (r_cv) ?_
                    refine LW.v (r_as) ?_
                    refine LW.nil ?_
                    refine TW.ret (ret1 (by rfl) rT ?_)
                    exact ⟨by first | rfl | (simp [IntKind.bits, WhI.divided, WhI.u32, WhI.i32, hc0, hc1, hc2, hc3, hc4, hc5, hc6, hc7, hc8]; done) | (exfalso; omega), by first | exact H | exact H.drop | exact H.drop.drop⟩
                  · have hr8 := hb; have hc8 := hb; try simp only [beq_iff_eq, bne_iff_ne, beq_eq_false_iff_ne, bne_eq_false_iff_eq, decide_eq_true_eq, decide_eq_false_iff_not, Bool.not_eq_true', Bool.not_eq_false', Bool.true_eq, Bool.false_eq, ge_iff_le, gt_iff_lt, Bool.not_eq_eq_eq_not, Bool.not_true, Bool.not_false, ne_eq] at hc8
                    refine TW.skip <| TW.inBlock <| TW.seq ?_
                    refine TW.region ?_
                    refine LW.v (r_mv) ?_
                    refine LW.v (r_cv) ?_
                    refine LW.v (r_mv) ?_
                    refine LW.v (r_cv) ?_
                    refine LW.v (r_quo (hb := by show IntKind.i32.wrap b ≠ 0; exact WhI.wrap_ne h0 h1 (by assumption))) ?_
                    refine LW.v (r_cv) ?_
                    refine LW.v (r_as) ?_
                    refine LW.nil ?_
                    refine TW.ret (ret1 (by rfl) rT ?_)
                    exact ⟨by first | rfl | (simp [IntKind.bits, WhI.divided, WhI.u32, WhI.i32, hc0, hc1, hc2, hc3, hc4, hc5, hc6, hc7, hc8]; done) | (exfalso; omega), by first | exact H | exact H.drop | exact H.drop.drop⟩
                · have hr7 := hb.symm; have hc7 := hb.symm; try simp only [beq_iff_eq, bne_iff_ne, beq_eq_false_iff_ne, bne_eq_false_iff_eq, decide_eq_true_eq, decide_eq_false_iff_not, Bool.not_eq_true', Bool.not_eq_false', Bool.true_eq, Bool.false_eq, ge_iff_le, gt_iff_lt, Bool.not_eq_eq_eq_not, Bool.not_true, Bool.not_false, ne_eq] at hc7
                  refine LW.yes (by rfl) (by rfl) (by rfl) (by rfl) (by rfl) ?_
                  refine LW.v (r_mv) ?_
                  refine LW.yes (by rfl) (by rfl) (by rfl) (by rfl) (by rfl) ?_
                  refine LW.v (r_bin) ?_
                  refine LW.v (r_pick) ?_
                  refine LW.v (r_as) ?_
                  refine LW.nil ?_
                  refine TW.c rfl (fun hb => ?_) (fun hb => ?_)
                  · have hr8 := hb; have hc8 := hb; try simp only [beq_iff_eq, bne_iff_ne, beq_eq_false_iff_ne, bne_eq_false_iff_eq, decide_eq_true_eq, decide_eq_false_iff_not, Bool.not_eq_true', Bool.not_eq_false', Bool.true_eq, Bool.false_eq, ge_iff_le, gt_iff_lt, Bool.not_eq_eq_eq_not, Bool.not_true, Bool.not_false, ne_eq] at hc8
                    refine TW.seq ?_
                    refine TW.region ?_
                    refine LW.v (r_mv) ?_
                    refine LW.v (r_as) ?_
                    refine LW.nil ?_
                    refine TW.ret (ret1 (by rfl) rT ?_)
                    exact ⟨by first | rfl | (simp [IntKind.bits, WhI.divided, WhI.u32, WhI.i32, hc0, hc1, hc2, hc3, hc4, hc5, hc6, hc7, hc8]; done) | (exfalso; omega), by first | exact H | exact H.drop | exact H.drop.drop⟩
                  · have hr8 := hb; have hc8 := hb; try simp only [beq_iff_eq, bne_iff_ne, beq_eq_false_iff_ne, bne_eq_false_iff_eq, decide_eq_true_eq, decide_eq_false_iff_not, Bool.not_eq_true', Bool.not_eq_false', Bool.true_eq, Bool.false_eq, ge_iff_le, gt_iff_lt, Bool.not_eq_eq_eq_not, Bool.not_true, Bool.not_false, ne_eq] at hc8
                    refine TW.seq ?_
                    refine TW.region ?_
                    refine LW.v (r_mv) ?_
                    refine LW.v (r_as) ?_
                    refine LW.nil ?_
                    refine TW.c rfl (fun hb => ?_) (fun hb => ?_)
                    · have hr9 := hb; have hc9 := hb; try simp only [beq_iff_eq, bne_iff_ne, beq_eq_false_iff_ne, bne_eq_false_iff_eq, decide_eq_true_eq, decide_eq_false_iff_not, Bool.not_eq_true', Bool.not_eq_false', Bool.true_eq, Bool.false_eq, ge_iff_le, gt_iff_lt, Bool.not_eq_eq_eq_not, Bool.not_true, Bool.not_false, ne_eq] at hc9
                      refine TW.seq ?_
                      refine TW.region ?_
                      refine LW.v (r_mv) ?_
                      refine LW.v (r_cv) ?_
                      refine LW.v (r_mv) ?_
                      refine LW.v (r_cv) ?_
                      refine LW.v (r_rem (hb := by show IntKind.i32.wrap b ≠ 0; exact WhI.wrap_ne h0 h1 (by assumption))) ?_
                      refine LW.v (r_cv) ?_
                      refine LW.v (r_as) ?_
                      refine LW.nil ?_
                      refine TW.ret (ret1 (by rfl) rT ?_)
                      exact ⟨by first | rfl | (simp [IntKind.bits, WhI.divided, WhI.u32, WhI.i32, hc0, hc1, hc2, hc3, hc4, hc5, hc6, hc7, hc8, hc9]; done) | (exfalso; omega), by first | exact H | exact H.drop | exact H.drop.drop⟩
                    · have hr9 := hb; have hc9 := hb; try simp only [beq_iff_eq, bne_iff_ne, beq_eq_false_iff_ne, bne_eq_false_iff_eq, decide_eq_true_eq, decide_eq_false_iff_not, Bool.not_eq_true', Bool.not_eq_false', Bool.true_eq, Bool.false_eq, ge_iff_le, gt_iff_lt, Bool.not_eq_eq_eq_not, Bool.not_true, Bool.not_false, ne_eq] at hc9
                      refine TW.skip <| TW.inBlock <| TW.seq ?_
                      refine TW.region ?_
                      refine LW.v (r_mv) ?_
                      refine LW.v (r_cv) ?_
                      refine LW.v (r_mv) ?_
                      refine LW.v (r_cv) ?_
                      refine LW.v (r_quo (hb := by show IntKind.i32.wrap b ≠ 0; exact WhI.wrap_ne h0 h1 (by assumption))) ?_
                      refine LW.v (r_cv) ?_
                      refine LW.v (r_as) ?_
                      refine LW.nil ?_
                      refine TW.ret (ret1 (by rfl) rT ?_)
                      exact ⟨by first | rfl | (simp [IntKind.bits, WhI.divided, WhI.u32, WhI.i32, hc0, hc1, hc2, hc3, hc4, hc5, hc6, hc7, hc8, hc9]; done) | (exfalso; omega), by first | exact H | exact H.drop | exact H.drop.drop⟩
              · have hr6 := hb.symm; have hc6 := hb.symm; try simp only [beq_iff_eq, bne_iff_ne, beq_eq_false_iff_ne, bne_eq_false_iff_eq, decide_eq_true_eq, decide_eq_false_iff_not, Bool.not_eq_true', Bool.not_eq_false', Bool.true_eq, Bool.false_eq, ge_iff_le, gt_iff_lt, Bool.not_eq_eq_eq_not, Bool.not_true, Bool.not_false, ne_eq] at hc6
                refine LW.yes (by rfl) (by rfl) (by rfl) (by rfl) (by rfl) ?_
                refine LW.v (r_mv) ?_
                refine LW.yes (by rfl) (by rfl) (by rfl) (by rfl) (by rfl) ?_
                refine LW.v (r_bin) ?_
                refine LW.v (r_pick) ?_
                refine LW.v (r_mv) ?_
                refine LW.gen fun b hb => ?_; cases b
                · have hr7 := hb.symm; have hc7 := hb.symm; try simp only [beq_iff_eq, bne_iff_ne, beq_eq_false_iff_ne, bne_eq_false_iff_eq, decide_eq_true_eq, decide_eq_false_iff_not, Bool.not_eq_true', Bool.not_eq_false', Bool.true_eq, Bool.false_eq, ge_iff_le, gt_iff_lt, Bool.not_eq_eq_eq_not, Bool.not_true, Bool.not_false, ne_eq] at hc7
                  refine LW.no (by rfl) (by rfl) (by rfl) (by rfl) (by rfl) (by rfl) ?_
                  refine LW.v (r_pick) ?_
                  refine LW.v (r_as) ?_
                  refine LW.nil ?_
                  refine TW.c rfl (fun h => by first | (cases h; done) | exact absurd h (by simp [hc0, hc1, hc2, hc3, hc4, hc5, hc6, hc7])) (fun _ => ?_)
                  refine TW.seq ?_
                  refine TW.region ?_
                  refine LW.v (r_mv) ?_
                  refine LW.v (r_bin) ?_
                  refine LW.v (r_mv) ?_
                  refine LW.gen fun b hb => ?_; cases b
                  · have hr8 := hb.symm; have hc8 := hb.symm; try simp only [beq_iff_eq, bne_iff_ne, beq_eq_false_iff_ne, bne_eq_false_iff_eq, decide_eq_true_eq, decide_eq_false_iff_not, Bool.not_eq_true', Bool.not_eq_false', Bool.true_eq, Bool.false_eq, ge_iff_le, gt_iff_lt, Bool.not_eq_eq_eq_not, Bool.not_true, Bool.not_false, ne_eq] at hc8
                    refine LW.no (by rfl) (by rfl) (by rfl) (by rfl) (by rfl) (by rfl) ?_
                    refine LW.no (by rfl) (by rfl) (by rfl) (by rfl) (by rfl) (by rfl) ?_
                    refine LW.v (r_pick) ?_
                    refine LW.v (r_as) ?_
                    refine LW.nil ?_
                    refine TW.c rfl (fun h => by first | (cases h; done) | exact absurd h (by simp [hc0, hc1, hc2, hc3, hc4, hc5, hc6, hc7, hc8])) (fun _ => ?_)
                    refine TW.seq ?_
                    refine TW.region ?_
                    refine LW.v (r_mv) ?_
                    refine LW.v (r_as) ?_
                    refine LW.nil ?_
                    refine TW.c rfl (fun hb => ?_) (fun hb => ?_)
                    · have hr9 := hb; have hc9 := hb; try simp only [beq_iff_eq, bne_iff_ne, beq_eq_false_iff_ne, bne_eq_false_iff_eq, decide_eq_true_eq, decide_eq_false_iff_not, Bool.not_eq_true', Bool.not_eq_false', Bool.true_eq, Bool.false_eq, ge_iff_le, gt_iff_lt, Bool.not_eq_eq_eq_not, Bool.not_true, Bool.not_false, ne_eq] at hc9
                      refine TW.seq ?_
                      refine TW.region ?_
                      refine LW.v (r_mv) ?_
                      refine LW.v (r_cv) ?_
                      refine LW.v (r_mv) ?_
                      refine LW.v (r_cv) ?_
                      refine LW.v (r_rem (hb := by show IntKind.i32.wrap b ≠ 0; exact WhI.wrap_ne h0 h1 (by assumption))) ?_
                      refine LW.v (r_cv) ?_
                      refine LW.v (r_as) ?_
                      refine LW.nil ?_
                      refine TW.ret (ret1 (by rfl) rT ?_)
                      exact ⟨by first | rfl | (simp [IntKind.bits, WhI.divided, WhI.u32, WhI.i32, hc0, hc1, hc2, hc3, hc4, hc5, hc6, hc7, hc8, hc9]; done) | (exfalso; omega), by first | exact H | exact H.drop | exact H.drop.drop⟩
                    · have hr9 := hb; have hc9 := hb; try simp only [beq_iff_eq, bne_iff_ne, beq_eq_false_iff_ne, bne_eq_false_iff_eq, decide_eq_true_eq, decide_eq_false_iff_not, Bool.not_eq_true', Bool.not_eq_false', Bool.true_eq, Bool.false_eq, ge_iff_le, gt_iff_lt, Bool.not_eq_eq_eq_not, Bool.not_true, Bool.not_false, ne_eq] at hc9
                      refine TW.skip <| TW.inBlock <| TW.seq ?_
                      refine TW.region ?_
                      refine LW.v (r_mv) ?_
                      refine LW.v (r_cv) ?_
                      refine LW.v (r_mv) ?_
                      refine LW.v (r_cv) ?_
                      refine LW.v (r_quo (hb := by show IntKind.i32.wrap b ≠ 0; exact WhI.wrap_ne h0 h1 (by assumption))) ?_
                      refine LW.v (r_cv) ?_
                      refine LW.v (r_as) ?_
                      refine LW.nil ?_
                      refine TW.ret (ret1 (by rfl) rT ?_)
                      exact ⟨by first | rfl | (simp [IntKind.bits, WhI.divided, WhI.u32, WhI.i32, hc0, hc1, hc2, hc3, hc4, hc5, hc6, hc7, hc8, hc9]; done) | (exfalso; omega), by first | exact H | exact H.drop | exact H.drop.drop⟩
                  · have hr8 := hb.symm; have hc8 := hb.symm; try simp only [beq_iff_eq, bne_iff_ne, beq_eq_false_iff_ne, bne_eq_false_iff_eq, decide_eq_true_eq, decide_eq_false_iff_not, Bool.not_eq_true', Bool.not_eq_false', Bool.true_eq, Bool.false_eq, ge_iff_le, gt_iff_lt, Bool.not_eq_eq_eq_not, Bool.not_true, Bool.not_false, ne_eq] at hc8
                    refine LW.yes (by rfl) (by rfl) (by rfl) (by rfl) (by rfl) ?_
                    refine LW.v (r_mv) ?_
                    refine LW.yes (by rfl) (by rfl) (by rfl) (by rfl) (by rfl) ?_
                    refine LW.v (r_bin) ?_
                    refine LW.v (r_pick) ?_
                    refine LW.v (r_as) ?_
                    refine LW.nil ?_
                    refine TW.c rfl (fun hb => ?_) (fun hb => ?_)
                    · have hr9 := hb; have hc9 := hb; try simp only [beq_iff_eq, bne_iff_ne, beq_eq_false_iff_ne, bne_eq_false_iff_eq, decide_eq_true_eq, decide_eq_false_iff_not, Bool.not_eq_true', Bool.not_eq_false', Bool.true_eq, Bool.false_eq, ge_iff_le, gt_iff_lt, Bool.not_eq_eq_eq_not, Bool.not_true, Bool.not_false, ne_eq] at hc9
                      refine TW.seq ?_
                      refine TW.region ?_
                      refine LW.v (r_mv) ?_
                      refine LW.v (r_as) ?_
                      refine LW.nil ?_
                      refine TW.ret (ret1 (by rfl) rT ?_)
                      exact ⟨by first | rfl | (simp [IntKind.bits, WhI.divided, WhI.u32, WhI.i32, hc0, hc1, hc2, hc3, hc4, hc5, hc6, hc7, hc8, hc9]; done) | (exfalso; omega), by first | exact H | exact H.drop | exact H.drop.drop⟩
                    · have hr9 := hb; have hc9 := hb; try simp only [beq_iff_eq, bne_iff_ne, beq_eq_false_iff_ne, bne_eq_false_iff_eq, decide_eq_true_eq, decide_eq_false_iff_not, Bool.not_eq_true', Bool.not_eq_false', Bool.true_eq, Bool.false_eq, ge_iff_le, gt_iff_lt, Bool.not_eq_eq_eq_not, Bool.not_true, Bool.not_false, ne_eq] at hc9
                      refine TW.seq ?_
                      refine TW.region ?_
                      refine LW.v (r_mv) ?_
                      refine LW.v (r_as) ?_
                      refine LW.nil ?_
                      refine TW.c rfl (fun hb => ?_) (fun hb => ?_)
                      · have hr10 := hb; have hc10 := hb; try simp only [beq_iff_eq, bne_iff_ne, beq_eq_false_iff_ne, bne_eq_false_iff_eq, decide_eq_true_eq, decide_eq_false_iff_not, Bool.not_eq_true', Bool.not_eq_false', Bool.true_eq, Bool.false_eq, ge_iff_le, gt_iff_lt, Bool.not_eq_eq_eq_not, Bool.not_true, Bool.not_false, ne_eq] at hc10
                        refine TW.seq ?_
                        refine TW.region ?_
                        refine LW.v (r_mv) ?_
                        refine LW.v (r_cv) ?_
                        refine LW.v (r_mv) ?_
                        refine LW.v (r_cv) ?_
                        refine LW.v (r_rem (hb := by show IntKind.i32.wrap b ≠ 0; exact WhI.wrap_ne h0 h1 (by assumption))) ?_
                        refine LW.v (r_cv) ?_
                        refine LW.v (r_as) ?_
                        refine LW.nil ?_
                        refine TW.ret (ret1 (by rfl) rT ?_)
                        exact ⟨by first | rfl | (simp [IntKind.bits, WhI.divided, WhI.u32, WhI.i32, hc0, hc1, hc2, hc3, hc4, hc5, hc6, hc7, hc8, hc9, hc10]; done) | (exfalso; omega), by first | exact H | exact H.drop | exact H.drop.drop⟩
                      · have hr10 := hb; have hc10 := hb; try simp only [beq_iff_eq, bne_iff_ne, beq_eq_false_iff_ne, bne_eq_false_iff_eq, decide_eq_true_eq, decide_eq_false_iff_not, Bool.not_eq_true', Bool.not_eq_false', Bool.true_eq, Bool.false_eq, ge_iff_le, gt_iff_lt, Bool.not_eq_eq_eq_not, Bool.not_true, Bool.not_false, ne_eq] at hc10
                        refine TW.skip <| TW.inBlock <| TW.seq ?_
                        refine TW.region ?_
                        refine LW.v (r_mv) ?_
                        refine LW.v (r_cv) ?_
                        refine LW.v (r_mv) ?_
                        refine LW.v (r_cv) ?_
                        refine LW.v (r_quo (hb := by show IntKind.i32.wrap b ≠ 0; exact WhI.wrap_ne h0 h1 (by assumption))) ?_
                        refine LW.v (r_cv) ?_
                        refine LW.v (r_as) ?_
                        refine LW.nil ?_
                        refine TW.ret (ret1 (by rfl) rT ?_)
                        exact ⟨by first | rfl | (simp [IntKind.bits, WhI.divided, WhI.u32, WhI.i32, hc0, hc1, hc2, hc3, hc4, hc5, hc6, hc7, hc8, hc9, hc10]; done) | (exfalso; omega), by first | exact H | exact H.drop | exact H.drop.drop⟩
                · have hr7 := hb.symm; have hc7 := hb.symm; try simp only [beq_iff_eq, bne_iff_ne, beq_eq_false_iff_ne, bne_eq_false_iff_eq, decide_eq_true_eq, decide_eq_false_iff_not, Bool.not_eq_true', Bool.not_eq_false', Bool.true_eq, Bool.false_eq, ge_iff_le, gt_iff_lt, Bool.not_eq_eq_eq_not, Bool.not_true, Bool.not_false, ne_eq] at hc7
                  refine LW.yes (by rfl) (by rfl) (by rfl) (by rfl) (by rfl) ?_
                  refine LW.v (r_mv) ?_
                  refine LW.v (r_pick) ?_
                  refine LW.v (r_as) ?_
                  refine LW.nil ?_
                  refine TW.c rfl (fun hb => ?_) (fun hb => ?_)
                  · have hr8 := hb; have hc8 := hb; try simp only [beq_iff_eq, bne_iff_ne, beq_eq_false_iff_ne, bne_eq_false_iff_eq, decide_eq_true_eq, decide_eq_false_iff_not, Bool.not_eq_true', Bool.not_eq_false', Bool.true_eq, Bool.false_eq, ge_iff_le, gt_iff_lt, Bool.not_eq_eq_eq_not, Bool.not_true, Bool.not_false, ne_eq] at hc8
                    refine TW.seq ?_
                    refine TW.region ?_
                    refine LW.v (r_as) ?_
                    refine LW.nil ?_
                    refine TW.ret (ret1 (by rfl) rT ?_)
                    exact ⟨by first | rfl | (simp [IntKind.bits, WhI.divided, WhI.u32, WhI.i32, hc0, hc1, hc2, hc3, hc4, hc5, hc6, hc7, hc8]; done) | (exfalso; omega), by first | exact H | exact H.drop | exact H.drop.drop⟩
                  · have hr8 := hb; have hc8 := hb; try simp only [beq_iff_eq, bne_iff_ne, beq_eq_false_iff_ne, bne_eq_false_iff_eq, decide_eq_true_eq, decide_eq_false_iff_not, Bool.not_eq_true', Bool.not_eq_false', Bool.true_eq, Bool.false_eq, ge_iff_le, gt_iff_lt, Bool.not_eq_eq_eq_not, Bool.not_true, Bool.not_false, ne_eq] at hc8
                    refine TW.seq ?_
                    refine TW.region ?_
                    refine LW.v (r_mv) ?_
                    refine LW.v (r_bin) ?_
                    refine LW.v (r_mv) ?_
                    refine LW.gen fun b hb => ?_; cases b
                    · have hr9 := hb.symm; have hc9 := hb.symm; try simp only [beq_iff_eq, bne_iff_ne, beq_eq_false_iff_ne, bne_eq_false_iff_eq, decide_eq_true_eq, decide_eq_false_iff_not, Bool.not_eq_true', Bool.not_eq_false', Bool.true_eq, Bool.false_eq, ge_iff_le, gt_iff_lt, Bool.not_eq_eq_eq_not, Bool.not_true, Bool.not_false, ne_eq] at hc9
                      refine LW.no (by rfl) (by rfl) (by rfl) (by rfl) (by rfl) (by rfl) ?_
                      refine LW.no (by rfl) (by rfl) (by rfl) (by rfl) (by rfl) (by rfl) ?_
                      refine LW.v (r_pick) ?_
                      refine LW.v (r_as) ?_
                      refine LW.nil ?_
                      refine TW.c rfl (fun h => by first | (cases h; done) | exact absurd h (by simp [hc0, hc1, hc2, hc3, hc4, hc5, hc6, hc7, hc8, hc9])) (fun _ => ?_)
                      refine TW.seq ?_
                      refine TW.region ?_
                      refine LW.v (r_mv) ?_
                      refine LW.v (r_as) ?_
                      refine LW.nil ?_
                      refine TW.c rfl (fun hb => ?_) (fun hb => ?_)
                      · have hr10 := hb; have hc10 := hb; try simp only [beq_iff_eq, bne_iff_ne, beq_eq_false_iff_ne, bne_eq_false_iff_eq, decide_eq_true_eq, decide_eq_false_iff_not, Bool.not_eq_true', Bool.not_eq_false', Bool.true_eq, Bool.false_eq, ge_iff_le, gt_iff_lt, Bool.not_eq_eq_eq_not, Bool.not_true, Bool.not_false, ne_eq] at hc10
                        refine TW.seq ?_
                        refine TW.region ?_
                        refine LW.v (r_mv) ?_
                        refine LW.v (r_cv) ?_
                        refine LW.v (r_mv) ?_
                        refine LW.v (r_cv) ?_
                        refine LW.v (r_rem (hb := by show IntKind.i32.wrap b ≠ 0; exact WhI.wrap_ne h0 h1 (by assumption))) ?_
                        refine LW.v (r_cv) ?_
                        refine LW.v (r_as) ?_
                        refine LW.nil ?_
                        refine TW.ret (ret1 (by rfl) rT ?_)
                        exact ⟨by first | rfl | (simp [IntKind.bits, WhI.divided, WhI.u32, WhI.i32, hc0, hc1, hc2, hc3, hc4, hc5, hc6, hc7, hc8, hc9, hc10]; done) | (exfalso; omega), by first | exact H | exact H.drop | exact H.drop.drop⟩
                      · have hr10 := hb; have hc10 := hb; try simp only [beq_iff_eq, bne_iff_ne, beq_eq_false_iff_ne, bne_eq_false_iff_eq, decide_eq_true_eq, decide_eq_false_iff_not, Bool.not_eq_true', Bool.not_eq_false', Bool.true_eq, Bool.false_eq, ge_iff_le, gt_iff_lt, Bool.not_eq_eq_eq_not, Bool.not_true, Bool.not_false, ne_eq] at hc10
                        refine TW.skip <| TW.inBlock <| TW.seq ?_
                        refine TW.region ?_
                        refine LW.v (r_mv) ?_
                        refine LW.v (r_cv) ?_
                        refine LW.v (r_mv) ?_
                        refine LW.v (r_cv) ?_
                        refine LW.v (r_quo (hb := by show IntKind.i32.wrap b ≠ 0; exact WhI.wrap_ne h0 h1 (by assumption))) ?_
                        refine LW.v (r_cv) ?_
                        refine LW.v (r_as) ?_
                        refine LW.nil ?_
                        refine TW.ret (ret1 (by rfl) rT ?_)
                        exact ⟨by first | rfl | (simp [IntKind.bits, WhI.divided, WhI.u32, WhI.i32, hc0, hc1, hc2, hc3, hc4, hc5, hc6, hc7, hc8, hc9, hc10]; done) | (exfalso; omega), by first | exact H | exact H.drop | exact H.drop.drop⟩
                    · have hr9 := hb.symm; have hc9 := hb.symm; try simp only [beq_iff_eq, bne_iff_ne, beq_eq_false_iff_ne, bne_eq_false_iff_eq, decide_eq_true_eq, decide_eq_false_iff_not, Bool.not_eq_true', Bool.not_eq_false', Bool.true_eq, Bool.false_eq, ge_iff_le, gt_iff_lt, Bool.not_eq_eq_eq_not, Bool.not_true, Bool.not_false, ne_eq] at hc9
                      refine LW.yes (by rfl) (by rfl) (by rfl) (by rfl) (by rfl) ?_
                      refine LW.v (r_mv) ?_
                      refine LW.yes (by rfl) (by rfl) (by rfl) (by rfl) (by rfl) ?_
                      refine LW.v (r_bin) ?_
                      refine LW.v (r_pick) ?_
                      refine LW.v (r_as) ?_
                      refine LW.nil ?_
                      refine TW.c rfl (fun hb => ?_) (fun hb => ?_)
                      · have hr10 := hb; have hc10 := hb; try simp only [beq_iff_eq, bne_iff_ne, beq_eq_false_iff_ne, bne_eq_false_iff_eq, decide_eq_true_eq, decide_eq_false_iff_not, Bool.not_eq_true', Bool.not_eq_false', Bool.true_eq, Bool.false_eq, ge_iff_le, gt_iff_lt, Bool.not_eq_eq_eq_not, Bool.not_true, Bool.not_false, ne_eq] at hc10
                        refine TW.seq ?_
                        refine TW.region ?_
                        refine LW.v (r_mv) ?_
                        refine LW.v (r_as) ?_
                        refine LW.nil ?_
                        refine TW.ret (ret1 (by rfl) rT ?_)
                        exact ⟨by first | rfl | (simp [IntKind.bits, WhI.divided, WhI.u32, WhI.i32, hc0, hc1, hc2, hc3, hc4, hc5, hc6, hc7, hc8, hc9, hc10]; done) | (exfalso; omega), by first | exact H | exact H.drop | exact H.drop.drop⟩
                      · have hr10 := hb; have hc10 := hb; try simp only [beq_iff_eq, bne_iff_ne, beq_eq_false_iff_ne, bne_eq_false_iff_eq, decide_eq_true_eq, decide_eq_false_iff_not, Bool.not_eq_true', Bool.not_eq_false', Bool.true_eq, Bool.false_eq, ge_iff_le, gt_iff_lt, Bool.not_eq_eq_eq_not, Bool.not_true, Bool.not_false, ne_eq] at hc10
                        refine TW.seq ?_
                        refine TW.region ?_
                        refine LW.v (r_mv) ?_
                        refine LW.v (r_as) ?_
                        refine LW.nil ?_
                        refine TW.c rfl (fun hb => ?_) (fun hb => ?_)
                        · have hr11 := hb; have hc11 := hb; try simp only [beq_iff_eq, bne_iff_ne, beq_eq_false_iff_ne, bne_eq_false_iff_eq, decide_eq_true_eq, decide_eq_false_iff_not, Bool.not_eq_true', Bool.not_eq_false', Bool.true_eq, Bool.false_eq, ge_iff_le, gt_iff_lt, Bool.not_eq_eq_eq_not, Bool.not_true, Bool.not_false, ne_eq] at hc11
                          refine TW.seq ?_
                          refine TW.region ?_
                          refine LW.v (r_mv) ?_
                          refine LW.v (r_cv) ?_
                          refine LW.v (r_mv) ?_
                          refine LW.v (r_cv) ?_
                          refine LW.v (r_rem (hb := by show IntKind.i32.wrap b ≠ 0; exact WhI.wrap_ne h0 h1 (by assumption))) ?_
                          refine LW.v (r_cv) ?_
                          refine LW.v (r_as) ?_
                          refine LW.nil ?_
                          refine TW.ret (ret1 (by rfl) rT ?_)
                          exact ⟨by first | rfl | (simp [IntKind.bits, WhI.divided, WhI.u32, WhI.i32, hc0, hc1, hc2, hc3, hc4, hc5, hc6, hc7, hc8, hc9, hc10, hc11]; done) | (exfalso; omega), by first | exact H | exact H.drop | exact H.drop.drop⟩
                        · have hr11 := hb; have hc11 := hb; try simp only [beq_iff_eq, bne_iff_ne, beq_eq_false_iff_ne, bne_eq_false_iff_eq, decide_eq_true_eq, decide_eq_false_iff_not, Bool.not_eq_true', Bool.not_eq_false', Bool.true_eq, Bool.false_eq, ge_iff_le, gt_iff_lt, Bool.not_eq_eq_eq_not, Bool.not_true, Bool.not_false, ne_eq] at hc11
                          refine TW.skip <| TW.inBlock <| TW.seq ?_
                          refine TW.region ?_
                          refine LW.v (r_mv) ?_
                          refine LW.v (r_cv) ?_
                          refine LW.v (r_mv) ?_
                          refine LW.v (r_cv) ?_
                          refine LW.v (r_quo (hb := by show IntKind.i32.wrap b ≠ 0; exact WhI.wrap_ne h0 h1 (by assumption))) ?_
                          refine LW.v (r_cv) ?_
                          refine LW.v (r_as) ?_
                          refine LW.nil ?_
                          refine TW.ret (ret1 (by rfl) rT ?_)
                          exact ⟨by first | rfl | (simp [IntKind.bits, WhI.divided, WhI.u32, WhI.i32, hc0, hc1, hc2, hc3, hc4, hc5, hc6, hc7, hc8, hc9, hc10, hc11]; done) | (exfalso; omega), by first | exact H | exact H.drop | exact H.drop.drop⟩
  · have hr0 := hb.symm; have hc0 := hb.symm; try simp only [beq_iff_eq, bne_iff_ne, beq_eq_false_iff_ne, bne_eq_false_iff_eq, decide_eq_true_eq, decide_eq_false_iff_not, Bool.not_eq_true', Bool.not_eq_false', Bool.true_eq, Bool.false_eq, ge_iff_le, gt_iff_lt, Bool.not_eq_eq_eq_not, Bool.not_true, Bool.not_false, ne_eq] at hc0
    refine LW.no (by rfl) (by rfl) (by rfl) (by rfl) (by rfl) (by rfl) ?_
    refine LW.no (by rfl) (by rfl) (by rfl) (by rfl) (by rfl) (by rfl) ?_
    refine LW.v (r_pick) ?_
    refine LW.v (r_as) ?_
    refine LW.nil ?_
    refine TW.seq <| TW.block <| TW.seq ?_
    refine TW.region ?_
    refine LW.v (r_mv) ?_
    refine LW.v (r_bin) ?_
    refine LW.v (r_mv) ?_
    refine LW.gen fun b hb => ?_; cases b
    · have hr1 := hb.symm; have hc1 := hb.symm; try simp only [beq_iff_eq, bne_iff_ne, beq_eq_false_iff_ne, bne_eq_false_iff_eq, decide_eq_true_eq, decide_eq_false_iff_not, Bool.not_eq_true', Bool.not_eq_false', Bool.true_eq, Bool.false_eq, ge_iff_le, gt_iff_lt, Bool.not_eq_eq_eq_not, Bool.not_true, Bool.not_false, ne_eq] at hc1
      refine LW.no (by rfl) (by rfl) (by rfl) (by rfl) (by rfl) (by rfl) ?_
      refine LW.v (r_pick) ?_
      refine LW.v (r_as) ?_
      refine LW.nil ?_
      refine TW.c rfl (fun h => by first | (cases h; done) | exact absurd h (by simp [hc0, hc1])) (fun _ => ?_)
      refine TW.seq ?_
      refine TW.region ?_
      refine LW.v (r_mv) ?_
      refine LW.v (r_bin) ?_
      refine LW.v (r_as) ?_
      refine LW.nil ?_
      refine TW.c rfl (fun hb => ?_) (fun hb => ?_)
      · have hr2 := hb; have hc2 := hb; try simp only [beq_iff_eq, bne_iff_ne, beq_eq_false_iff_ne, bne_eq_false_iff_eq, decide_eq_true_eq, decide_eq_false_iff_not, Bool.not_eq_true', Bool.not_eq_false', Bool.true_eq, Bool.false_eq, ge_iff_le, gt_iff_lt, Bool.not_eq_eq_eq_not, Bool.not_true, Bool.not_false, ne_eq] at hc2
        refine TW.seq ?_
        refine TW.region ?_
        refine LW.v (r_as) ?_
        refine LW.nil ?_
        refine TW.ret (ret1 (by rfl) rT ?_)
        exact ⟨by first | rfl | (simp [IntKind.bits, WhI.divided, WhI.u32, WhI.i32, hc0, hc1, hc2]; done) | (exfalso; omega), by first | exact H | exact H.drop | exact H.drop.drop⟩
      · have hr2 := hb; have hc2 := hb; try simp only [beq_iff_eq, bne_iff_ne, beq_eq_false_iff_ne, bne_eq_false_iff_eq, decide_eq_true_eq, decide_eq_false_iff_not, Bool.not_eq_true', Bool.not_eq_false', Bool.true_eq, Bool.false_eq, ge_iff_le, gt_iff_lt, Bool.not_eq_eq_eq_not, Bool.not_true, Bool.not_false, ne_eq] at hc2
        refine TW.seq ?_
        refine TW.region ?_
        refine LW.v (r_mv) ?_
        refine LW.v (r_bin) ?_
        refine LW.v (r_as) ?_
        refine LW.nil ?_
        refine TW.c rfl (fun hb => ?_) (fun hb => ?_)
        · have hr3 := hb; have hc3 := hb; try simp only [beq_iff_eq, bne_iff_ne, beq_eq_false_iff_ne, bne_eq_false_iff_eq, decide_eq_true_eq, decide_eq_false_iff_not, Bool.not_eq_true', Bool.not_eq_false', Bool.true_eq, Bool.false_eq, ge_iff_le, gt_iff_lt, Bool.not_eq_eq_eq_not, Bool.not_true, Bool.not_false, ne_eq] at hc3
          refine TW.seq ?_
          refine TW.region ?_
          refine LW.v (r_mv) ?_
          refine LW.v (r_mv) ?_
          refine LW.v (r_quo (hb := by omega)) ?_
          refine LW.v (r_as) ?_
          refine LW.nil ?_
          refine TW.ret (ret1 (by rfl) rT ?_)
          exact ⟨by first | rfl | (simp [IntKind.bits, WhI.divided, WhI.u32, WhI.i32, hc0, hc1, hc2, hc3]; done) | (exfalso; omega), by first | exact H | exact H.drop | exact H.drop.drop⟩
        · have hr3 := hb; have hc3 := hb; try simp only [beq_iff_eq, bne_iff_ne, beq_eq_false_iff_ne, bne_eq_false_iff_eq, decide_eq_true_eq, decide_eq_false_iff_not, Bool.not_eq_true', Bool.not_eq_false', Bool.true_eq, Bool.false_eq, ge_iff_le, gt_iff_lt, Bool.not_eq_eq_eq_not, Bool.not_true, Bool.not_false, ne_eq] at hc3
          refine TW.seq ?_
          refine TW.region ?_
          refine LW.v (r_mv) ?_
          refine LW.v (r_bin) ?_
          refine LW.v (r_as) ?_
          refine LW.nil ?_
          refine TW.c rfl (fun hb => ?_) (fun hb => ?_)
          · have hr4 := hb; have hc4 := hb; try simp only [beq_iff_eq, bne_iff_ne, beq_eq_false_iff_ne, bne_eq_false_iff_eq, decide_eq_true_eq, decide_eq_false_iff_not, Bool.not_eq_true', Bool.not_eq_false', Bool.true_eq, Bool.false_eq, ge_iff_le, gt_iff_lt, Bool.not_eq_eq_eq_not, Bool.not_true, Bool.not_false, ne_eq] at hc4
            refine TW.seq ?_
            refine TW.region ?_
            refine LW.v (r_mv) ?_
            refine LW.v (r_mv) ?_
            refine LW.v (r_rem (hb := by omega)) ?_
            refine LW.v (r_as) ?_
            refine LW.nil ?_
            refine TW.ret (ret1 (by rfl) rT ?_)
            exact ⟨by first | rfl | (simp [IntKind.bits, WhI.divided, WhI.u32, WhI.i32, hc0, hc1, hc2, hc3, hc4]; done) | (exfalso; omega), by first | exact H | exact H.drop | exact H.drop.drop⟩
          · have hr4 := hb; have hc4 := hb; try simp only [beq_iff_eq, bne_iff_ne, beq_eq_false_iff_ne, bne_eq_false_iff_eq, decide_eq_true_eq, decide_eq_false_iff_not, Bool.not_eq_true', Bool.not_eq_false', Bool.true_eq, Bool.false_eq, ge_iff_le, gt_iff_lt, Bool.not_eq_eq_eq_not, Bool.not_true, Bool.not_false, ne_eq] at hc4
            refine TW.seq ?_
            refine TW.region ?_
            refine LW.v (r_mv) ?_
            refine LW.v (r_bin) ?_
            refine LW.v (r_mv) ?_
            refine LW.gen fun b hb => ?_; cases b
            · have hr5 := hb.symm; have hc5 := hb.symm; try simp only [beq_iff_eq, bne_iff_ne, beq_eq_false_iff_ne, bne_eq_false_iff_eq, decide_eq_true_eq, decide_eq_false_iff_not, Bool.not_eq_true', Bool.not_eq_false', Bool.true_eq, Bool.false_eq, ge_iff_le, gt_iff_lt, Bool.not_eq_eq_eq_not, Bool.not_true, Bool.not_false, ne_eq] at hc5
              refine LW.no (by rfl) (by rfl) (by rfl) (by rfl) (by rfl) (by rfl) ?_
              refine LW.no (by rfl) (by rfl) (by rfl) (by rfl) (by rfl) (by rfl) ?_
              refine LW.v (r_pick) ?_
              refine LW.v (r_mv) ?_
              refine LW.no (by rfl) (by rfl) (by rfl) (by rfl) (by rfl) (by rfl) ?_
              refine LW.v (r_pick) ?_
              refine LW.v (r_as) ?_
              refine LW.nil ?_
              refine TW.c rfl (fun h => by first | (cases h; done) | exact absurd h (by simp [hc0, hc1, hc2, hc3, hc4, hc5])) (fun _ => ?_)
              refine TW.seq ?_
              refine TW.region ?_
              refine LW.v (r_mv) ?_
              refine LW.v (r_bin) ?_
              refine LW.v (r_mv) ?_
              refine LW.gen fun b hb => ?_; cases b
              · have hr6 := hb.symm; have hc6 := hb.symm; try simp only [beq_iff_eq, bne_iff_ne, beq_eq_false_iff_ne, bne_eq_false_iff_eq, decide_eq_true_eq, decide_eq_false_iff_not, Bool.not_eq_true', Bool.not_eq_false', Bool.true_eq, Bool.false_eq, ge_iff_le, gt_iff_lt, Bool.not_eq_eq_eq_not, Bool.not_true, Bool.not_false, ne_eq] at hc6
                refine LW.no (by rfl) (by rfl) (by rfl) (by rfl) (by rfl) (by rfl) ?_
                refine LW.no (by rfl) (by rfl) (by rfl) (by rfl) (by rfl) (by rfl) ?_
                refine LW.v (r_pick) ?_
                refine LW.v (r_as) ?_
                refine LW.nil ?_
                refine TW.c rfl (fun h => by first | (cases h; done) | exact absurd h (by simp [hc0, hc1, hc2, hc3, hc4, hc5, hc6])) (fun _ => ?_)
                refine TW.seq ?_
                refine TW.region ?_
                refine LW.v (r_mv) ?_
                refine LW.v (r_as) ?_
                refine LW.nil ?_
                refine TW.c rfl (fun _ => ?_) (fun h => by first | (cases h; done) | exact absurd h (by simp [hc0, hc1, hc2, hc3, hc4, hc5, hc6]))
                refine TW.seq ?_
                refine TW.region ?_
                refine LW.v (r_mv) ?_
                refine LW.v (r_cv) ?_
                refine LW.v (r_mv) ?_
                refine LW.v (r_cv) ?_
                refine LW.v (r_rem (hb := by show IntKind.i32.wrap b ≠ 0; exact WhI.wrap_ne h0 h1 (by assumption))) ?_
                refine LW.v (r_cv) ?_
                refine LW.v (r_as) ?_
                refine LW.nil ?_
                refine TW.ret (ret1 (by rfl) rT ?_)
                exact ⟨by first | rfl | (simp [IntKind.bits, WhI.divided, WhI.u32, WhI.i32, hc0, hc1, hc2, hc3, hc4, hc5, hc6]; done) | (exfalso; omega), by first | exact H | exact H.drop | exact H.drop.drop⟩
              · have hr6 := hb.symm; have hc6 := hb.symm; try simp only [beq_iff_eq, bne_iff_ne, beq_eq_false_iff_ne, bne_eq_false_iff_eq, decide_eq_true_eq, decide_eq_false_iff_not, Bool.not_eq_true', Bool.not_eq_false', Bool.true_eq, Bool.false_eq, ge_iff_le, gt_iff_lt, Bool.not_eq_eq_eq_not, Bool.not_true, Bool.not_false, ne_eq] at hc6
                refine LW.yes (by rfl) (by rfl) (by rfl) (by rfl) (by rfl) ?_
                refine LW.v (r_mv) ?_
                refine LW.yes (by rfl) (by rfl) (by rfl) (by rfl) (by rfl) ?_
                refine LW.v (r_bin) ?_
                refine LW.v (r_pick) ?_
                refine LW.v (r_as) ?_
                refine LW.nil ?_
                refine TW.c rfl (fun hb => ?_) (fun hb => ?_)
                · have hr7 := hb; have hc7 := hb; try simp only [beq_iff_eq, bne_iff_ne, beq_eq_false_iff_ne, bne_eq_false_iff_eq, decide_eq_true_eq, decide_eq_false_iff_not, Bool.not_eq_true', Bool.not_eq_false', Bool.true_eq, Bool.false_eq, ge_iff_le, gt_iff_lt, Bool.not_eq_eq_eq_not, Bool.not_true, Bool.not_false, ne_eq] at hc7
                  refine TW.seq ?_
                  refine TW.region ?_
                  refine LW.v (r_mv) ?_
                  refine LW.v (r_as) ?_
                  refine LW.nil ?_
                  refine TW.ret (ret1 (by rfl) rT ?_)
                  exact ⟨by first | rfl | (simp [IntKind.bits, WhI.divided, WhI.u32, WhI.i32, hc0, hc1, hc2, hc3, hc4, hc5, hc6, hc7]; done) | (exfalso; omega), by first | exact H | exact H.drop | exact H.drop.drop⟩
                · have hr7 := hb; have hc7 := hb; try simp only [beq_iff_eq, bne_iff_ne, beq_eq_false_iff_ne, bne_eq_false_iff_eq, decide_eq_true_eq, decide_eq_false_iff_not, Bool.not_eq_true', Bool.not_eq_false', Bool.true_eq, Bool.false_eq, ge_iff_le, gt_iff_lt, Bool.not_eq_eq_eq_not, Bool.not_true, Bool.not_false, ne_eq] at hc7
                  refine TW.seq ?_
                  refine TW.region ?_
                  refine LW.v (r_mv) ?_
                  refine LW.v (r_as) ?_
                  refine LW.nil ?_
                  refine TW.c rfl (fun _ => ?_) (fun h => by first | (cases h; done) | exact absurd h (by simp [hc0, hc1, hc2, hc3, hc4, hc5, hc6, hc7]))
                  refine TW.seq ?_
                  refine TW.region ?_
                  refine LW.v (r_mv) ?_
                  refine LW.v (r_cv) ?_
                  refine LW.v (r_mv) ?_
                  refine LW.v (r_cv) ?_
                  refine LW.v (r_rem (hb := by show IntKind.i32.wrap b ≠ 0; exact WhI.wrap_ne h0 h1 (by assumption))) ?_
                  refine LW.v (r_cv) ?_
                  refine LW.v (r_as) ?_
                  refine LW.nil ?_
                  refine TW.ret (ret1 (by rfl) rT ?_)
                  exact ⟨by first | rfl | (simp [IntKind.bits, WhI.divided, WhI.u32, WhI.i32, hc0, hc1, hc2, hc3, hc4, hc5, hc6, hc7]; done) | (exfalso; omega), by first | exact H | exact H.drop | exact H.drop.drop⟩
            · have hr5 := hb.symm; have hc5 := hb.symm; try simp only [beq_iff_eq, bne_iff_ne, beq_eq_false_iff_ne, bne_eq_false_iff_eq, decide_eq_true_eq, decide_eq_false_iff_not, Bool.not_eq_true', Bool.not_eq_false', Bool.true_eq, Bool.false_eq, ge_iff_le, gt_iff_lt, Bool.not_eq_eq_eq_not, Bool.not_true, Bool.not_false, ne_eq] at hc5
              refine LW.yes (by rfl) (by rfl) (by rfl) (by rfl) (by rfl) ?_
              refine LW.v (r_mv) ?_
              refine LW.yes (by rfl) (by rfl) (by rfl) (by rfl) (by rfl) ?_
              refine LW.v (r_bin) ?_
              refine LW.v (r_pick) ?_
              refine LW.v (r_mv) ?_
              refine LW.gen fun b hb => ?_; cases b
              · have hr6 := hb.symm; have hc6 := hb.symm; try simp only [beq_iff_eq, bne_iff_ne, beq_eq_false_iff_ne, bne_eq_false_iff_eq, decide_eq_true_eq, decide_eq_false_iff_not, Bool.not_eq_true', Bool.not_eq_false', Bool.true_eq, Bool.false_eq, ge_iff_le, gt_iff_lt, Bool.not_eq_eq_eq_not, Bool.not_true, Bool.not_false, ne_eq] at hc6
                refine LW.no (by rfl) (by rfl) (by rfl) (by rfl) (by rfl) (by rfl) ?_
                refine LW.v (r_pick) ?_
                refine LW.v (r_as) ?_
                refine LW.nil ?_
                refine TW.c rfl (fun h => by first | (cases h; done) | exact absurd h (by simp [hc0, hc1, hc2, hc3, hc4, hc5, hc6])) (fun _ => ?_)
                refine TW.seq ?_
                refine TW.region ?_
                refine LW.v (r_mv) ?_
                refine LW.v (r_bin) ?_
                refine LW.v (r_mv) ?_
                refine LW.gen fun b hb => ?_; cases b
                · have hr7 := hb.symm; have hc7 := hb.symm; try simp only [beq_iff_eq, bne_iff_ne, beq_eq_false_iff_ne, bne_eq_false_iff_eq, decide_eq_true_eq, decide_eq_false_iff_not, Bool.not_eq_true', Bool.not_eq_false', Bool.true_eq, Bool.false_eq, ge_iff_le, gt_iff_lt, Bool.not_eq_eq_eq_not, Bool.not_true, Bool.not_false, ne_eq] at hc7
                  refine LW.no (by rfl) (by rfl) (by rfl) (by rfl) (by rfl) (by rfl) ?_
                  refine LW.no (by rfl) (by rfl) (by rfl) (by rfl) (by rfl) (by rfl) ?_
                  refine LW.v (r_pick) ?_
                  refine LW.v (r_as) ?_
                  refine LW.nil ?_
                  refine TW.c rfl (fun h => by first | (cases h; done) | exact absurd h (by simp [hc0, hc1, hc2, hc3, hc4, hc5, hc6, hc7])) (fun _ => ?_)
                  refine TW.seq ?_
                  refine TW.region ?_
                  refine LW.v (r_mv) ?_
                  refine LW.v (r_as) ?_
                  refine LW.nil ?_
                  refine TW.c rfl (fun _ => ?_) (fun h => by first | (cases h; done) | exact absurd h (by simp [hc0, hc1, hc2, hc3, hc4, hc5, hc6, hc7]))
                  refine TW.seq ?_
                  refine TW.region ?_
                  refine LW.v (r_mv) ?_
                  refine LW.v (r_cv) ?_
                  refine LW.v (r_mv) ?_
                  refine LW.v (r_cv) ?_
                  refine LW.v (r_rem (hb := by show IntKind.i32.wrap b ≠ 0; exact WhI.wrap_ne h0 h1 (by assumption))) ?_
                  refine LW.v (r_cv) ?_
                  refine LW.v (r_as) ?_
                  refine LW.nil ?_
                  refine TW.ret (ret1 (by rfl) rT ?_)
                  exact ⟨by first | rfl | (simp [IntKind.bits, WhI.divided, WhI.u32, WhI.i32, hc0, hc1, hc2, hc3, hc4, hc5, hc6, hc7]; done) | (exfalso; omega), by first | exact H | exact H.drop | exact H.drop.drop⟩
                · have hr7 := hb.symm; have hc7 := hb.symm; try simp only [beq_iff_eq, bne_iff_ne, beq_eq_false_iff_ne, bne_eq_false_iff_eq, decide_eq_true_eq, decide_eq_false_iff_not, Bool.not_eq_true', Bool.not_eq_false', Bool.true_eq, Bool.false_eq, ge_iff_le, gt_iff_lt, Bool.not_eq_eq_eq_not, Bool.not_true, Bool.not_false, ne_eq] at hc7
                  refine LW.yes (by rfl) (by rfl) (by rfl) (by rfl) (by rfl) ?_
                  refine LW.v (r_mv) ?_
                  refine LW.yes (by rfl) (by rfl) (by rfl) (by rfl) (by rfl) ?_
                  refine LW.v (r_bin) ?_
                  refine LW.v (r_pick) ?_
                  refine LW.v (r_as) ?_
                  refine LW.nil ?_
                  refine TW.c rfl (fun hb => ?_) (fun hb => ?_)
                  · have hr8 := hb; have hc8 := hb; try simp only [beq_iff_eq, bne_iff_ne, beq_eq_false_iff_ne, bne_eq_false_iff_eq, decide_eq_true_eq, decide_eq_false_iff_not, Bool.not_eq_true', Bool.not_eq_false', Bool.true_eq, Bool.false_eq, ge_iff_le, gt_iff_lt, Bool.not_eq_eq_eq_not, Bool.not_true, Bool.not_false, ne_eq] at hc8
                    refine TW.seq ?_
                    refine TW.region ?_
                    refine LW.v (r_mv) ?_
                    refine LW.v (r_as) ?_
                    refine LW.nil ?_
                    refine TW.ret (ret1 (by rfl) rT ?_)
                    exact ⟨by first | rfl | (simp [IntKind.bits, WhI.divided, WhI.u32, WhI.i32, hc0, hc1, hc2, hc3, hc4, hc5, hc6, hc7, hc8]; done) | (exfalso; omega), by first | exact H | exact H.drop | exact H.drop.drop⟩
                  · have hr8 := hb; have hc8 := hb; try simp only [beq_iff_eq, bne_iff_ne, beq_eq_false_iff_ne, bne_eq_false_iff_eq, decide_eq_true_eq, decide_eq_false_iff_not, Bool.not_eq_true', Bool.not_eq_false', Bool.true_eq, Bool.false_eq, ge_iff_le, gt_iff_lt, Bool.not_eq_eq_eq_not, Bool.not_true, Bool.not_false, ne_eq] at hc8
                    refine TW.seq ?_
                    refine TW.region ?_
                    refine LW.v (r_mv) ?_
                    refine LW.v (r_as) ?_
                    refine LW.nil ?_
                    refine TW.c rfl (fun _ => ?_) (fun h => by first | (cases h; done) | exact absurd h (by simp [hc0, hc1, hc2, hc3, hc4, hc5, hc6, hc7, hc8]))
                    refine TW.seq ?_
                    refine TW.region ?_
                    refine LW.v (r_mv) ?_
                    refine LW.v (r_cv) ?_
                    refine LW.v (r_mv) ?_
                    refine LW.v (r_cv) ?_
                    refine LW.v (r_rem (hb := by show IntKind.i32.wrap b ≠ 0; exact WhI.wrap_ne h0 h1 (by assumption))) ?_
                    refine LW.v (r_cv) ?_
                    refine LW.v (r_as) ?_
                    refine LW.nil ?_
                    refine TW.ret (ret1 (by rfl) rT ?_)
                    exact ⟨by first | rfl | (simp [IntKind.bits, WhI.divided, WhI.u32, WhI.i32, hc0, hc1, hc2, hc3, hc4, hc5, hc6, hc7, hc8]; done) | (exfalso; omega), by first | exact H | exact H.drop | exact H.drop.drop⟩
              · have hr6 := hb.symm; have hc6 := hb.symm; try simp only [beq_iff_eq, bne_iff_ne, beq_eq_false_iff_ne, bne_eq_false_iff_eq, decide_eq_true_eq, decide_eq_false_iff_not, Bool.not_eq_true', Bool.not_eq_false', Bool.true_eq, Bool.false_eq, ge_iff_le, gt_iff_lt, Bool.not_eq_eq_eq_not, Bool.not_true, Bool.not_false, ne_eq] at hc6
                refine LW.yes (by rfl) (by rfl) (by rfl) (by rfl) (by rfl) ?_
                refine LW.v (r_mv) ?_
                refine LW.v (r_pick) ?_
                refine LW.v (r_as) ?_
                refine LW.nil ?_
                refine TW.c rfl (fun _ => ?_) (fun h => by first | (cases h; done) | exact absurd h (by simp [hc0, hc1, hc2, hc3, hc4, hc5, hc6]))
                refine TW.seq ?_
                refine TW.region ?_
                refine LW.v (r_as) ?_
                refine LW.nil ?_
                refine TW.ret (ret1 (by rfl) rT ?_)
                exact ⟨by first | rfl | (simp [IntKind.bits, WhI.divided, WhI.u32, WhI.i32, hc0, hc1, hc2, hc3, hc4, hc5, hc6]; done) | (exfalso; omega), by first | exact H | exact H.drop | exact H.drop.drop⟩
    · have hr1 := hb.symm; have hc1 := hb.symm; try simp only [beq_iff_eq, bne_iff_ne, beq_eq_false_iff_ne, bne_eq_false_iff_eq, decide_eq_true_eq, decide_eq_false_iff_not, Bool.not_eq_true', Bool.not_eq_false', Bool.true_eq, Bool.false_eq, ge_iff_le, gt_iff_lt, Bool.not_eq_eq_eq_not, Bool.not_true, Bool.not_false, ne_eq] at hc1
      refine LW.yes (by rfl) (by rfl) (by rfl) (by rfl) (by rfl) ?_
      refine LW.v (r_mv) ?_
      refine LW.v (r_pick) ?_
      refine LW.v (r_as) ?_
      refine LW.nil ?_
      refine TW.c rfl (fun _ => ?_) (fun h => by first | (cases h; done) | exact absurd h (by simp [hc0, hc1]))
      refine TW.seq ?_
      refine TW.region ?_
      refine LW.v (r_mv) ?_
      refine LW.v (r_as) ?_
      refine LW.nil ?_
      refine TW.ret (ret1 (by rfl) rT ?_)
      exact ⟨by first | rfl | (simp [IntKind.bits, WhI.divided, WhI.u32, WhI.i32, hc0, hc1]; done) | (exfalso; omega), by first | exact H | exact H.drop | exact H.drop.drop⟩
theorem wdo_spec (B : Nat) (w0 w : World) (L : List Ck) (op a b : Int) (h0 : 0 ≤ b) (h1 : b < 4294967296) (H : Hp B w0 w L) : Calls Tryz.prog 42 #[.int .i64 op, .int .u32 a, .int .u32 b] w fun e w' => e = .returned (.tuple #[.int .u32 (WhI.wdo op a b).1, .int .i64 (WhI.wdo op a b).2]) ∧ Hp B w0 w' L := by
  refine calls_go Tryz.func42 Tryz.ntmps42 rfl rfl ?_
  refine TW.seq ?_
  refine TW.region ?_
  refine LW.v (r_as) ?_
  refine LW.v (r_as) ?_
  refine LW.nil ?_
  refine TW.seq <| TW.seq ?_
  refine TW.region ?_
  refine LW.v (r_mv) ?_
  refine LW.nil ?_
  refine TW.block <| TW.seq ?_
  refine TW.region ?_
  refine LW.v (r_bin) ?_
  refine LW.v (r_as) ?_
  refine LW.nil ?_
  refine TW.c rfl (fun hb => ?_) (fun hb => ?_)
  · have hr0 := hb; have hc0 := hb; try simp only [beq_iff_eq, bne_iff_ne, beq_eq_false_iff_ne, bne_eq_false_iff_eq, decide_eq_true_eq, decide_eq_false_iff_not, Bool.not_eq_true', Bool.not_eq_false', Bool.true_eq, Bool.false_eq, ge_iff_le, gt_iff_lt, Bool.not_eq_eq_eq_not, Bool.not_true, Bool.not_false, ne_eq] at hc0
    refine TW.seq ?_
    refine TW.region ?_
    refine LW.v (r_mv) ?_
    refine LW.v (r_mv) ?_
    refine LW.v (r_bin) ?_
    refine LW.v (r_as) ?_
    refine LW.v (r_as) ?_
    refine LW.nil ?_
    refine TW.ret (ret2 (by rfl) rT rT ?_)
    exact ⟨by first | rfl | (simp [IntKind.bits, WhI.wdo, WhI.u32, WhI.i32, WhI.flag, hc0]; done) | (exfalso; omega), by first | exact H | exact H.drop | exact H.drop.drop⟩
  · have hr0 := hb; have hc0 := hb; try simp only [beq_iff_eq, bne_iff_ne, beq_eq_false_iff_ne, bne_eq_false_iff_eq, decide_eq_true_eq, decide_eq_false_iff_not, Bool.not_eq_true', Bool.not_eq_false', Bool.true_eq, Bool.false_eq, ge_iff_le, gt_iff_lt, Bool.not_eq_eq_eq_not, Bool.not_true, Bool.not_false, ne_eq] at hc0
    refine TW.seq ?_
    refine TW.region ?_
    refine LW.v (r_bin) ?_
    refine LW.v (r_as) ?_
    refine LW.nil ?_
    refine TW.c rfl (fun hb => ?_) (fun hb => ?_)
    · have hr1 := hb; have hc1 := hb; try simp only [beq_iff_eq, bne_iff_ne, beq_eq_false_iff_ne, bne_eq_false_iff_eq, decide_eq_true_eq, decide_eq_false_iff_not, Bool.not_eq_true', Bool.not_eq_false', Bool.true_eq, Bool.false_eq, ge_iff_le, gt_iff_lt, Bool.not_eq_eq_eq_not, Bool.not_true, Bool.not_false, ne_eq] at hc1
      refine TW.seq ?_
      refine TW.region ?_
      refine LW.v (r_mv) ?_
      refine LW.v (r_mv) ?_
      refine LW.v (r_bin) ?_
      refine LW.v (r_as) ?_
      refine LW.v (r_as) ?_
      refine LW.nil ?_
      refine TW.ret (ret2 (by rfl) rT rT ?_)
      exact ⟨by first | rfl | (simp [IntKind.bits, WhI.wdo, WhI.u32, WhI.i32, WhI.flag, hc0, hc1]; done) | (exfalso; omega), by first | exact H | exact H.drop | exact H.drop.drop⟩
    · have hr1 := hb; have hc1 := hb; try simp only [beq_iff_eq, bne_iff_ne, beq_eq_false_iff_ne, bne_eq_false_iff_eq, decide_eq_true_eq, decide_eq_false_iff_not, Bool.not_eq_true', Bool.not_eq_false', Bool.true_eq, Bool.false_eq, ge_iff_le, gt_iff_lt, Bool.not_eq_eq_eq_not, Bool.not_true, Bool.not_false, ne_eq] at hc1
      refine TW.seq ?_
      refine TW.region ?_
      refine LW.v (r_bin) ?_
      refine LW.v (r_as) ?_
      refine LW.nil ?_
      refine TW.c rfl (fun hb => ?_) (fun hb => ?_)
      · have hr2 := hb; have hc2 := hb; try simp only [beq_iff_eq, bne_iff_ne, beq_eq_false_iff_ne, bne_eq_false_iff_eq, decide_eq_true_eq, decide_eq_false_iff_not, Bool.not_eq_true', Bool.not_eq_false', Bool.true_eq, Bool.false_eq, ge_iff_le, gt_iff_lt, Bool.not_eq_eq_eq_not, Bool.not_true, Bool.not_false, ne_eq] at hc2
        refine TW.seq ?_
        refine TW.region ?_
        refine LW.v (r_mv) ?_
        refine LW.v (r_mv) ?_
        refine LW.v (r_bin) ?_
        refine LW.v (r_as) ?_
        refine LW.v (r_as) ?_
        refine LW.nil ?_
        refine TW.ret (ret2 (by rfl) rT rT ?_)
        exact ⟨by first | rfl | (simp [IntKind.bits, WhI.wdo, WhI.u32, WhI.i32, WhI.flag, hc0, hc1, hc2]; done) | (exfalso; omega), by first | exact H | exact H.drop | exact H.drop.drop⟩
      · have hr2 := hb; have hc2 := hb; try simp only [beq_iff_eq, bne_iff_ne, beq_eq_false_iff_ne, bne_eq_false_iff_eq, decide_eq_true_eq, decide_eq_false_iff_not, Bool.not_eq_true', Bool.not_eq_false', Bool.true_eq, Bool.false_eq, ge_iff_le, gt_iff_lt, Bool.not_eq_eq_eq_not, Bool.not_true, Bool.not_false, ne_eq] at hc2
        refine TW.seq ?_
        refine TW.region ?_
        refine LW.v (r_bin) ?_
        refine LW.v (r_as) ?_
        refine LW.nil ?_
        refine TW.c rfl (fun hb => ?_) (fun hb => ?_)
        · have hr3 := hb; have hc3 := hb; try simp only [beq_iff_eq, bne_iff_ne, beq_eq_false_iff_ne, bne_eq_false_iff_eq, decide_eq_true_eq, decide_eq_false_iff_not, Bool.not_eq_true', Bool.not_eq_false', Bool.true_eq, Bool.false_eq, ge_iff_le, gt_iff_lt, Bool.not_eq_eq_eq_not, Bool.not_true, Bool.not_false, ne_eq] at hc3
          refine TW.seq ?_
          refine TW.region ?_
          refine LW.v (r_mv) ?_
          refine LW.v (r_mv) ?_
          refine LW.v (r_bin) ?_
          refine LW.v (r_as) ?_
          refine LW.v (r_as) ?_
          refine LW.nil ?_
          refine TW.ret (ret2 (by rfl) rT rT ?_)
          exact ⟨by first | rfl | (simp [IntKind.bits, WhI.wdo, WhI.u32, WhI.i32, WhI.flag, hc0, hc1, hc2, hc3]; done) | (exfalso; omega), by first | exact H | exact H.drop | exact H.drop.drop⟩
        · have hr3 := hb; have hc3 := hb; try simp only [beq_iff_eq, bne_iff_ne, beq_eq_false_iff_ne, bne_eq_false_iff_eq, decide_eq_true_eq, decide_eq_false_iff_not, Bool.not_eq_true', Bool.not_eq_false', Bool.true_eq, Bool.false_eq, ge_iff_le, gt_iff_lt, Bool.not_eq_eq_eq_not, Bool.not_true, Bool.not_false, ne_eq] at hc3
          refine TW.seq ?_
          refine TW.region ?_
          refine LW.v (r_bin) ?_
          refine LW.v (r_as) ?_
          refine LW.nil ?_
          refine TW.c rfl (fun hb => ?_) (fun hb => ?_)
          · have hr4 := hb; have hc4 := hb; try simp only [beq_iff_eq, bne_iff_ne, beq_eq_false_iff_ne, bne_eq_false_iff_eq, decide_eq_true_eq, decide_eq_false_iff_not, Bool.not_eq_true', Bool.not_eq_false', Bool.true_eq, Bool.false_eq, ge_iff_le, gt_iff_lt, Bool.not_eq_eq_eq_not, Bool.not_true, Bool.not_false, ne_eq] at hc4
            refine TW.seq ?_
            refine TW.region ?_
            refine LW.v (r_mv) ?_
            refine LW.v (r_mv) ?_
            refine LW.v (r_bin) ?_
            refine LW.v (r_as) ?_
            refine LW.v (r_as) ?_
            refine LW.nil ?_
            refine TW.ret (ret2 (by rfl) rT rT ?_)
            exact ⟨by first | rfl | (simp [IntKind.bits, WhI.wdo, WhI.u32, WhI.i32, WhI.flag, hc0, hc1, hc2, hc3, hc4]; done) | (exfalso; omega), by first | exact H | exact H.drop | exact H.drop.drop⟩
          · have hr4 := hb; have hc4 := hb; try simp only [beq_iff_eq, bne_iff_ne, beq_eq_false_iff_ne, bne_eq_false_iff_eq, decide_eq_true_eq, decide_eq_false_iff_not, Bool.not_eq_true', Bool.not_eq_false', Bool.true_eq, Bool.false_eq, ge_iff_le, gt_iff_lt, Bool.not_eq_eq_eq_not, Bool.not_true, Bool.not_false, ne_eq] at hc4
            refine TW.seq ?_
            refine TW.region ?_
            refine LW.v (r_bin) ?_
            refine LW.v (r_as) ?_
            refine LW.nil ?_
            refine TW.c rfl (fun hb => ?_) (fun hb => ?_)
            · have hr5 := hb; have hc5 := hb; try simp only [beq_iff_eq, bne_iff_ne, beq_eq_false_iff_ne, bne_eq_false_iff_eq, decide_eq_true_eq, decide_eq_false_iff_not, Bool.not_eq_true', Bool.not_eq_false', Bool.true_eq, Bool.false_eq, ge_iff_le, gt_iff_lt, Bool.not_eq_eq_eq_not, Bool.not_true, Bool.not_false, ne_eq] at hc5
              refine TW.seq ?_
              refine TW.region ?_
              refine LW.v (r_mv) ?_
              refine LW.v (r_mv) ?_
              refine LW.v (r_bin) ?_
              refine LW.v (r_shl (hb := by first | omega | exact WhI.bits_nn _ _ _ | exact WhI.u32_nn _)) ?_
              refine LW.v (r_as) ?_
              refine LW.v (r_as) ?_
              refine LW.nil ?_
              refine TW.ret (ret2 (by rfl) rT rT ?_)
              exact ⟨by first | rfl | (simp [IntKind.bits, WhI.wdo, WhI.u32, WhI.i32, WhI.flag, hc0, hc1, hc2, hc3, hc4, hc5]; done) | (exfalso; omega), by first | exact H | exact H.drop | exact H.drop.drop⟩
            · have hr5 := hb; have hc5 := hb; try simp only [beq_iff_eq, bne_iff_ne, beq_eq_false_iff_ne, bne_eq_false_iff_eq, decide_eq_true_eq, decide_eq_false_iff_not, Bool.not_eq_true', Bool.not_eq_false', Bool.true_eq, Bool.false_eq, ge_iff_le, gt_iff_lt, Bool.not_eq_eq_eq_not, Bool.not_true, Bool.not_false, ne_eq] at hc5
              refine TW.seq ?_
              refine TW.region ?_
              refine LW.v (r_bin) ?_
              refine LW.v (r_as) ?_
              refine LW.nil ?_
              refine TW.c rfl (fun hb => ?_) (fun hb => ?_)
              · have hr6 := hb; have hc6 := hb; try simp only [beq_iff_eq, bne_iff_ne, beq_eq_false_iff_ne, bne_eq_false_iff_eq, decide_eq_true_eq, decide_eq_false_iff_not, Bool.not_eq_true', Bool.not_eq_false', Bool.true_eq, Bool.false_eq, ge_iff_le, gt_iff_lt, Bool.not_eq_eq_eq_not, Bool.not_true, Bool.not_false, ne_eq] at hc6
                refine TW.seq ?_
                refine TW.region ?_
                refine LW.v (r_mv) ?_
                refine LW.v (r_mv) ?_
                refine LW.v (r_bin) ?_
                refine LW.v (r_shr (hb := by first | omega | exact WhI.bits_nn _ _ _ | exact WhI.u32_nn _)) ?_
                refine LW.v (r_as) ?_
                refine LW.v (r_as) ?_
                refine LW.nil ?_
                refine TW.ret (ret2 (by rfl) rT rT ?_)
                exact ⟨by first | rfl | (simp [IntKind.bits, WhI.wdo, WhI.u32, WhI.i32, WhI.flag, hc0, hc1, hc2, hc3, hc4, hc5, hc6]; done) | (exfalso; omega), by first | exact H | exact H.drop | exact H.drop.drop⟩
              · have hr6 := hb; have hc6 := hb; try simp only [beq_iff_eq, bne_iff_ne, beq_eq_false_iff_ne, bne_eq_false_iff_eq, decide_eq_true_eq, decide_eq_false_iff_not, Bool.not_eq_true', Bool.not_eq_false', Bool.true_eq, Bool.false_eq, ge_iff_le, gt_iff_lt, Bool.not_eq_eq_eq_not, Bool.not_true, Bool.not_false, ne_eq] at hc6
                refine TW.seq ?_
                refine TW.region ?_
                refine LW.v (r_bin) ?_
                refine LW.v (r_as) ?_
                refine LW.nil ?_
                refine TW.c rfl (fun hb => ?_) (fun hb => ?_)
                · have hr7 := hb; have hc7 := hb; try simp only [beq_iff_eq, bne_iff_ne, beq_eq_false_iff_ne, bne_eq_false_iff_eq, decide_eq_true_eq, decide_eq_false_iff_not, Bool.not_eq_true', Bool.not_eq_false', Bool.true_eq, Bool.false_eq, ge_iff_le, gt_iff_lt, Bool.not_eq_eq_eq_not, Bool.not_true, Bool.not_false, ne_eq] at hc7
                  refine TW.seq ?_
                  refine TW.region ?_
                  refine LW.v (r_mv) ?_
                  refine LW.v (r_cv) ?_
                  refine LW.v (r_mv) ?_
                  refine LW.v (r_bin) ?_
                  refine LW.v (r_shr (hb := by first | omega | exact WhI.bits_nn _ _ _ | exact WhI.u32_nn _)) ?_
                  refine LW.v (r_cv) ?_
                  refine LW.v (r_as) ?_
                  refine LW.v (r_as) ?_
                  refine LW.nil ?_
                  refine TW.ret (ret2 (by rfl) rT rT ?_)
                  exact ⟨by first | rfl | (simp [IntKind.bits, WhI.wdo, WhI.u32, WhI.i32, WhI.flag, hc0, hc1, hc2, hc3, hc4, hc5, hc6, hc7]; done) | (exfalso; omega), by first | exact H | exact H.drop | exact H.drop.drop⟩
                · have hr7 := hb; have hc7 := hb; try simp only [beq_iff_eq, bne_iff_ne, beq_eq_false_iff_ne, bne_eq_false_iff_eq, decide_eq_true_eq, decide_eq_false_iff_not, Bool.not_eq_true', Bool.not_eq_false', Bool.true_eq, Bool.false_eq, ge_iff_le, gt_iff_lt, Bool.not_eq_eq_eq_not, Bool.not_true, Bool.not_false, ne_eq] at hc7
                  refine TW.seq ?_
                  refine TW.region ?_
                  refine LW.v (r_bin) ?_
                  refine LW.v (r_as) ?_
                  refine LW.nil ?_
                  refine TW.c rfl (fun hb => ?_) (fun hb => ?_)
                  · have hr8 := hb; have hc8 := hb; try simp only [beq_iff_eq, bne_iff_ne, beq_eq_false_iff_ne, bne_eq_false_iff_eq, decide_eq_true_eq, decide_eq_false_iff_not, Bool.not_eq_true', Bool.not_eq_false', Bool.true_eq, Bool.false_eq, ge_iff_le, gt_iff_lt, Bool.not_eq_eq_eq_not, Bool.not_true, Bool.not_false, ne_eq] at hc8
                    refine TW.seq ?_
                    refine TW.region ?_
                    refine LW.v (r_mv) ?_
                    refine LW.v (r_cv) ?_
                    refine LW.v (r_mv) ?_
                    refine LW.v (r_cv) ?_
                    refine LW.v (r_bin) ?_
                    refine LW.c r_c1 ((flag_spec _ _ _ _ _ H).mono ?_)
                    rintro _ w ⟨rfl, H⟩
                    refine ⟨_, rfl, ?_⟩
                    refine LW.v (r_as) ?_
                    refine LW.v (r_as) ?_
                    refine LW.nil ?_
                    refine TW.ret (ret2 (by rfl) rT rT ?_)
                    exact ⟨by first | rfl | (simp [IntKind.bits, WhI.wdo, WhI.u32, WhI.i32, WhI.flag, hc0, hc1, hc2, hc3, hc4, hc5, hc6, hc7, hc8]; done) | (exfalso; omega), by first | exact H | exact H.drop | exact H.drop.drop⟩
                  · have hr8 := hb; have hc8 := hb; try simp only [beq_iff_eq, bne_iff_ne, beq_eq_false_iff_ne, bne_eq_false_iff_eq, decide_eq_true_eq, decide_eq_false_iff_not, Bool.not_eq_true', Bool.not_eq_false', Bool.true_eq, Bool.false_eq, ge_iff_le, gt_iff_lt, Bool.not_eq_eq_eq_not, Bool.not_true, Bool.not_false, ne_eq] at hc8
                    refine TW.seq ?_
                    refine TW.region ?_
                    refine LW.v (r_bin) ?_
                    refine LW.v (r_as) ?_
                    refine LW.nil ?_
                    refine TW.c rfl (fun hb => ?_) (fun hb => ?_)
                    · have hr9 := hb; have hc9 := hb; try simp only [beq_iff_eq, bne_iff_ne, beq_eq_false_iff_ne, bne_eq_false_iff_eq, decide_eq_true_eq, decide_eq_false_iff_not, Bool.not_eq_true', Bool.not_eq_false', Bool.true_eq, Bool.false_eq, ge_iff_le, gt_iff_lt, Bool.not_eq_eq_eq_not, Bool.not_true, Bool.not_false, ne_eq] at hc9
                      refine TW.seq ?_
                      refine TW.region ?_
                      refine LW.v (r_mv) ?_
                      refine LW.v (r_mv) ?_
                      refine LW.v (r_bin) ?_
                      refine LW.c r_c1 ((flag_spec _ _ _ _ _ H).mono ?_)
                      rintro _ w ⟨rfl, H⟩
                      refine ⟨_, rfl, ?_⟩
                      refine LW.v (r_as) ?_
                      refine LW.v (r_as) ?_
                      refine LW.nil ?_
                      refine TW.ret (ret2 (by rfl) rT rT ?_)
                      exact ⟨by first | rfl | (simp [IntKind.bits, WhI.wdo, WhI.u32, WhI.i32, WhI.flag, hc0, hc1, hc2, hc3, hc4, hc5, hc6, hc7, hc8, hc9]; done) | (exfalso; omega), by first | exact H | exact H.drop | exact H.drop.drop⟩
                    · have hr9 := hb; have hc9 := hb; try simp only [beq_iff_eq, bne_iff_ne, beq_eq_false_iff_ne, bne_eq_false_iff_eq, decide_eq_true_eq, decide_eq_false_iff_not, Bool.not_eq_true', Bool.not_eq_false', Bool.true_eq, Bool.false_eq, ge_iff_le, gt_iff_lt, Bool.not_eq_eq_eq_not, Bool.not_true, Bool.not_false, ne_eq] at hc9
                      refine TW.seq ?_
                      refine TW.region ?_
                      refine LW.v (r_bin) ?_
                      refine LW.v (r_as) ?_
                      refine LW.nil ?_
                      refine TW.c rfl (fun hb => ?_) (fun hb => ?_)
                      · have hr10 := hb; have hc10 := hb; try simp only [beq_iff_eq, bne_iff_ne, beq_eq_false_iff_ne, bne_eq_false_iff_eq, decide_eq_true_eq, decide_eq_false_iff_not, Bool.not_eq_true', Bool.not_eq_false', Bool.true_eq, Bool.false_eq, ge_iff_le, gt_iff_lt, Bool.not_eq_eq_eq_not, Bool.not_true, Bool.not_false, ne_eq] at hc10
                        refine TW.seq ?_
                        refine TW.region ?_
                        refine LW.v (r_mv) ?_
                        refine LW.v (r_mv) ?_
                        refine LW.v (r_bin) ?_
                        refine LW.v (r_as) ?_
                        refine LW.v (r_as) ?_
                        refine LW.nil ?_
                        refine TW.ret (ret2 (by rfl) rT rT ?_)
                        exact ⟨by first | rfl | (simp [IntKind.bits, WhI.wdo, WhI.u32, WhI.i32, WhI.flag, hc0, hc1, hc2, hc3, hc4, hc5, hc6, hc7, hc8, hc9, hc10]; done) | (exfalso; omega), by first | exact H | exact H.drop | exact H.drop.drop⟩
                      · have hr10 := hb; have hc10 := hb; try simp only [beq_iff_eq, bne_iff_ne, beq_eq_false_iff_ne, bne_eq_false_iff_eq, decide_eq_true_eq, decide_eq_false_iff_not, Bool.not_eq_true', Bool.not_eq_false', Bool.true_eq, Bool.false_eq, ge_iff_le, gt_iff_lt, Bool.not_eq_eq_eq_not, Bool.not_true, Bool.not_false, ne_eq] at hc10
                        refine TW.seq <| TW.seq ?_
                        refine TW.region ?_
                        refine LW.v (r_bin) ?_
                        refine LW.v (r_as) ?_
                        refine LW.nil ?_
                        refine TW.c rfl (fun hb => ?_) (fun hb => ?_)
                        · have hr11 := hb; have hc11 := hb; try simp only [beq_iff_eq, bne_iff_ne, beq_eq_false_iff_ne, bne_eq_false_iff_eq, decide_eq_true_eq, decide_eq_false_iff_not, Bool.not_eq_true', Bool.not_eq_false', Bool.true_eq, Bool.false_eq, ge_iff_le, gt_iff_lt, Bool.not_eq_eq_eq_not, Bool.not_true, Bool.not_false, ne_eq] at hc11
                          refine TW.skip ?_
                          refine TW.c rfl (fun _ => ?_) (fun h => by first | (cases h; done) | exact absurd h (by simp [hc0, hc1, hc2, hc3, hc4, hc5, hc6, hc7, hc8, hc9, hc10, hc11]))
                          refine TW.seq ?_
                          refine TW.region ?_
                          refine LW.v (r_mv) ?_
                          refine LW.v (r_mv) ?_
                          refine LW.v (r_mv) ?_
                          refine LW.c r_c3 ((high_spec _ _ _ _ _ _ _ H).mono ?_)
                          rintro _ w ⟨rfl, H⟩
                          refine ⟨_, rfl, ?_⟩
                          refine LW.v (r_as) ?_
                          refine LW.v (r_as) ?_
                          refine LW.nil ?_
                          refine TW.ret (ret2 (by rfl) rT rT ?_)
                          exact ⟨by first | rfl | (simp [IntKind.bits, WhI.wdo, WhI.u32, WhI.i32, WhI.flag, hc0, hc1, hc2, hc3, hc4, hc5, hc6, hc7, hc8, hc9, hc10, hc11]; done) | (exfalso; omega), by first | exact H | exact H.drop | exact H.drop.drop⟩
                        · have hr11 := hb; have hc11 := hb; try simp only [beq_iff_eq, bne_iff_ne, beq_eq_false_iff_ne, bne_eq_false_iff_eq, decide_eq_true_eq, decide_eq_false_iff_not, Bool.not_eq_true', Bool.not_eq_false', Bool.true_eq, Bool.false_eq, ge_iff_le, gt_iff_lt, Bool.not_eq_eq_eq_not, Bool.not_true, Bool.not_false, ne_eq] at hc11
                          refine TW.seq ?_
                          refine TW.region ?_
                          refine LW.v (r_bin) ?_
                          refine LW.v (r_as) ?_
                          refine LW.nil ?_
                          refine TW.c rfl (fun hb => ?_) (fun hb => ?_)
                          · have hr12 := hb; have hc12 := hb; try simp only [beq_iff_eq, bne_iff_ne, beq_eq_false_iff_ne, bne_eq_false_iff_eq, decide_eq_true_eq, decide_eq_false_iff_not, Bool.not_eq_true', Bool.not_eq_false', Bool.true_eq, Bool.false_eq, ge_iff_le, gt_iff_lt, Bool.not_eq_eq_eq_not, Bool.not_true, Bool.not_false, ne_eq] at hc12
                            refine TW.skip ?_
                            refine TW.c rfl (fun _ => ?_) (fun h => by first | (cases h; done) | exact absurd h (by simp [hc0, hc1, hc2, hc3, hc4, hc5, hc6, hc7, hc8, hc9, hc10, hc11, hc12]))
                            refine TW.seq ?_
                            refine TW.region ?_
                            refine LW.v (r_mv) ?_
                            refine LW.v (r_mv) ?_
                            refine LW.v (r_mv) ?_
                            refine LW.c r_c3 ((high_spec _ _ _ _ _ _ _ H).mono ?_)
                            rintro _ w ⟨rfl, H⟩
                            refine ⟨_, rfl, ?_⟩
                            refine LW.v (r_as) ?_
                            refine LW.v (r_as) ?_
                            refine LW.nil ?_
                            refine TW.ret (ret2 (by rfl) rT rT ?_)
                            exact ⟨by first | rfl | (simp [IntKind.bits, WhI.wdo, WhI.u32, WhI.i32, WhI.flag, hc0, hc1, hc2, hc3, hc4, hc5, hc6, hc7, hc8, hc9, hc10, hc11, hc12]; done) | (exfalso; omega), by first | exact H | exact H.drop | exact H.drop.drop⟩
                          · have hr12 := hb; have hc12 := hb; try simp only [beq_iff_eq, bne_iff_ne, beq_eq_false_iff_ne, bne_eq_false_iff_eq, decide_eq_true_eq, decide_eq_false_iff_not, Bool.not_eq_true', Bool.not_eq_false', Bool.true_eq, Bool.false_eq, ge_iff_le, gt_iff_lt, Bool.not_eq_eq_eq_not, Bool.not_true, Bool.not_false, ne_eq] at hc12
                            refine TW.region ?_
                            refine LW.v (r_bin) ?_
                            refine LW.v (r_as) ?_
                            refine LW.nil ?_
                            refine TW.c rfl (fun hb => ?_) (fun hb => ?_)
                            · have hr13 := hb; have hc13 := hb; try simp only [beq_iff_eq, bne_iff_ne, beq_eq_false_iff_ne, bne_eq_false_iff_eq, decide_eq_true_eq, decide_eq_false_iff_not, Bool.not_eq_true', Bool.not_eq_false', Bool.true_eq, Bool.false_eq, ge_iff_le, gt_iff_lt, Bool.not_eq_eq_eq_not, Bool.not_true, Bool.not_false, ne_eq] at hc13
                              refine TW.seq ?_
                              refine TW.region ?_
                              refine LW.v (r_mv) ?_
                              refine LW.v (r_mv) ?_
                              refine LW.v (r_mv) ?_
                              refine LW.c r_c3 ((high_spec _ _ _ _ _ _ _ H).mono ?_)
                              rintro _ w ⟨rfl, H⟩
                              refine ⟨_, rfl, ?_⟩
                              refine LW.v (r_as) ?_
                              refine LW.v (r_as) ?_
                              refine LW.nil ?_
                              refine TW.ret (ret2 (by rfl) rT rT ?_)
                              exact ⟨by first | rfl | (simp [IntKind.bits, WhI.wdo, WhI.u32, WhI.i32, WhI.flag, hc0, hc1, hc2, hc3, hc4, hc5, hc6, hc7, hc8, hc9, hc10, hc11, hc12, hc13]; done) | (exfalso; omega), by first | exact H | exact H.drop | exact H.drop.drop⟩
                            · have hr13 := hb; have hc13 := hb; try simp only [beq_iff_eq, bne_iff_ne, beq_eq_false_iff_ne, bne_eq_false_iff_eq, decide_eq_true_eq, decide_eq_false_iff_not, Bool.not_eq_true', Bool.not_eq_false', Bool.true_eq, Bool.false_eq, ge_iff_le, gt_iff_lt, Bool.not_eq_eq_eq_not, Bool.not_true, Bool.not_false, ne_eq] at hc13
                              refine TW.seq <| TW.seq ?_
                              refine TW.region ?_
                              refine LW.v (r_bin) ?_
                              refine LW.v (r_as) ?_
                              refine LW.nil ?_
                              refine TW.c rfl (fun hb => ?_) (fun hb => ?_)
                              · have hr14 := hb; have hc14 := hb; try simp only [beq_iff_eq, bne_iff_ne, beq_eq_false_iff_ne, bne_eq_false_iff_eq, decide_eq_true_eq, decide_eq_false_iff_not, Bool.not_eq_true', Bool.not_eq_false', Bool.true_eq, Bool.false_eq, ge_iff_le, gt_iff_lt, Bool.not_eq_eq_eq_not, Bool.not_true, Bool.not_false, ne_eq] at hc14
                                refine TW.skip ?_
                                refine TW.c rfl (fun _ => ?_) (fun h => by first | (cases h; done) | exact absurd h (by simp [hc0, hc1, hc2, hc3, hc4, hc5, hc6, hc7, hc8, hc9, hc10, hc11, hc12, hc13, hc14]))
                                refine TW.seq ?_
                                refine TW.region ?_
                                refine LW.v (r_mv) ?_
                                refine LW.v (r_mv) ?_
                                refine LW.v (r_mv) ?_
                                refine LW.c r_c3 ((divided_spec _ _ _ _ _ _ _ h0 h1 H).mono ?_)
                                rintro _ w ⟨rfl, H⟩
                                refine ⟨_, rfl, ?_⟩
                                refine LW.v (r_as) ?_
                                refine LW.v (r_as) ?_
                                refine LW.nil ?_
                                refine TW.ret (ret2 (by rfl) rT rT ?_)
                                exact ⟨by first | rfl | (simp [IntKind.bits, WhI.wdo, WhI.u32, WhI.i32, WhI.flag, hc0, hc1, hc2, hc3, hc4, hc5, hc6, hc7, hc8, hc9, hc10, hc11, hc12, hc13, hc14]; done) | (exfalso; omega), by first | exact H | exact H.drop | exact H.drop.drop⟩
                              · have hr14 := hb; have hc14 := hb; try simp only [beq_iff_eq, bne_iff_ne, beq_eq_false_iff_ne, bne_eq_false_iff_eq, decide_eq_true_eq, decide_eq_false_iff_not, Bool.not_eq_true', Bool.not_eq_false', Bool.true_eq, Bool.false_eq, ge_iff_le, gt_iff_lt, Bool.not_eq_eq_eq_not, Bool.not_true, Bool.not_false, ne_eq] at hc14
                                refine TW.seq ?_
                                refine TW.region ?_
                                refine LW.v (r_bin) ?_
                                refine LW.v (r_as) ?_
                                refine LW.nil ?_
                                refine TW.c rfl (fun hb => ?_) (fun hb => ?_)
                                · have hr15 := hb; have hc15 := hb; try simp only [beq_iff_eq, bne_iff_ne, beq_eq_false_iff_ne, bne_eq_false_iff_eq, decide_eq_true_eq, decide_eq_false_iff_not, Bool.not_eq_true', Bool.not_eq_false', Bool.true_eq, Bool.false_eq, ge_iff_le, gt_iff_lt, Bool.not_eq_eq_eq_not, Bool.not_true, Bool.not_false, ne_eq] at hc15
                                  refine TW.skip ?_
                                  refine TW.c rfl (fun _ => ?_) (fun h => by first | (cases h; done) | exact absurd h (by simp [hc0, hc1, hc2, hc3, hc4, hc5, hc6, hc7, hc8, hc9, hc10, hc11, hc12, hc13, hc14, hc15]))
                                  refine TW.seq ?_
                                  refine TW.region ?_
                                  refine LW.v (r_mv) ?_
                                  refine LW.v (r_mv) ?_
                                  refine LW.v (r_mv) ?_
                                  refine LW.c r_c3 ((divided_spec _ _ _ _ _ _ _ h0 h1 H).mono ?_)
                                  rintro _ w ⟨rfl, H⟩
                                  refine ⟨_, rfl, ?_⟩
                                  refine LW.v (r_as) ?_
                                  refine LW.v (r_as) ?_
                                  refine LW.nil ?_
                                  refine TW.ret (ret2 (by rfl) rT rT ?_)
                                  exact ⟨by first | rfl | (simp [IntKind.bits, WhI.wdo, WhI.u32, WhI.i32, WhI.flag, hc0, hc1, hc2, hc3, hc4, hc5, hc6, hc7, hc8, hc9, hc10, hc11, hc12, hc13, hc14, hc15]; done) | (exfalso; omega), by first | exact H | exact H.drop | exact H.drop.drop⟩
                                · have hr15 := hb; have hc15 := hb; try simp only [beq_iff_eq, bne_iff_ne, beq_eq_false_iff_ne, bne_eq_false_iff_eq, decide_eq_true_eq, decide_eq_false_iff_not, Bool.not_eq_true', Bool.not_eq_false', Bool.true_eq, Bool.false_eq, ge_iff_le, gt_iff_lt, Bool.not_eq_eq_eq_not, Bool.not_true, Bool.not_false, ne_eq] at hc15
                                  refine TW.seq ?_
                                  refine TW.region ?_
                                  refine LW.v (r_bin) ?_
                                  refine LW.v (r_as) ?_
                                  refine LW.nil ?_
                                  refine TW.c rfl (fun hb => ?_) (fun hb => ?_)
                                  · have hr16 := hb; have hc16 := hb; try simp only [beq_iff_eq, bne_iff_ne, beq_eq_false_iff_ne, bne_eq_false_iff_eq, decide_eq_true_eq, decide_eq_false_iff_not, Bool.not_eq_true', Bool.not_eq_false', Bool.true_eq, Bool.false_eq, ge_iff_le, gt_iff_lt, Bool.not_eq_eq_eq_not, Bool.not_true, Bool.not_false, ne_eq] at hc16
                                    refine TW.skip ?_
                                    refine TW.c rfl (fun _ => ?_) (fun h => by first | (cases h; done) | exact absurd h (by simp [hc0, hc1, hc2, hc3, hc4, hc5, hc6, hc7, hc8, hc9, hc10, hc11, hc12, hc13, hc14, hc15, hc16]))
                                    refine TW.seq ?_
                                    refine TW.region ?_
                                    refine LW.v (r_mv) ?_
                                    refine LW.v (r_mv) ?_
                                    refine LW.v (r_mv) ?_
                                    refine LW.c r_c3 ((divided_spec _ _ _ _ _ _ _ h0 h1 H).mono ?_)
                                    rintro _ w ⟨rfl, H⟩
                                    refine ⟨_, rfl, ?_⟩
                                    refine LW.v (r_as) ?_
                                    refine LW.v (r_as) ?_
                                    refine LW.nil ?_
                                    refine TW.ret (ret2 (by rfl) rT rT ?_)
                                    exact ⟨by first | rfl | (simp [IntKind.bits, WhI.wdo, WhI.u32, WhI.i32, WhI.flag, hc0, hc1, hc2, hc3, hc4, hc5, hc6, hc7, hc8, hc9, hc10, hc11, hc12, hc13, hc14, hc15, hc16]; done) | (exfalso; omega), by first | exact H | exact H.drop | exact H.drop.drop⟩
                                  · have hr16 := hb; have hc16 := hb; try simp only [beq_iff_eq, bne_iff_ne, beq_eq_false_iff_ne, bne_eq_false_iff_eq, decide_eq_true_eq, decide_eq_false_iff_not, Bool.not_eq_true', Bool.not_eq_false', Bool.true_eq, Bool.false_eq, ge_iff_le, gt_iff_lt, Bool.not_eq_eq_eq_not, Bool.not_true, Bool.not_false, ne_eq] at hc16
                                    refine TW.region ?_
                                    refine LW.v (r_bin) ?_
                                    refine LW.v (r_as) ?_
                                    refine LW.nil ?_
                                    refine TW.c rfl (fun hb => ?_) (fun hb => ?_)
                                    · have hr17 := hb; have hc17 := hb; try simp only [beq_iff_eq, bne_iff_ne, beq_eq_false_iff_ne, bne_eq_false_iff_eq, decide_eq_true_eq, decide_eq_false_iff_not, Bool.not_eq_true', Bool.not_eq_false', Bool.true_eq, Bool.false_eq, ge_iff_le, gt_iff_lt, Bool.not_eq_eq_eq_not, Bool.not_true, Bool.not_false, ne_eq] at hc17
                                      refine TW.seq ?_
                                      refine TW.region ?_
                                      refine LW.v (r_mv) ?_
                                      refine LW.v (r_mv) ?_
                                      refine LW.v (r_mv) ?_
                                      refine LW.c r_c3 ((divided_spec _ _ _ _ _ _ _ h0 h1 H).mono ?_)
                                      rintro _ w ⟨rfl, H⟩
                                      refine ⟨_, rfl, ?_⟩
                                      refine LW.v (r_as) ?_
                                      refine LW.v (r_as) ?_
                                      refine LW.nil ?_
                                      refine TW.ret (ret2 (by rfl) rT rT ?_)
                                      exact ⟨by first | rfl | (simp [IntKind.bits, WhI.wdo, WhI.u32, WhI.i32, WhI.flag, hc0, hc1, hc2, hc3, hc4, hc5, hc6, hc7, hc8, hc9, hc10, hc11, hc12, hc13, hc14, hc15, hc16, hc17]; done) | (exfalso; omega), by first | exact H | exact H.drop | exact H.drop.drop⟩
                                    · have hr17 := hb; have hc17 := hb; try simp only [beq_iff_eq, bne_iff_ne, beq_eq_false_iff_ne, bne_eq_false_iff_eq, decide_eq_true_eq, decide_eq_false_iff_not, Bool.not_eq_true', Bool.not_eq_false', Bool.true_eq, Bool.false_eq, ge_iff_le, gt_iff_lt, Bool.not_eq_eq_eq_not, Bool.not_true, Bool.not_false, ne_eq] at hc17
                                      refine TW.skip <| TW.inBlock <| TW.seq ?_
                                      refine TW.region ?_
                                      refine LW.v (r_as) ?_
                                      refine LW.v (r_as) ?_
                                      refine LW.nil ?_
                                      refine TW.ret (ret2 (by rfl) rT rT ?_)
                                      exact ⟨by first | rfl | (simp [IntKind.bits, WhI.wdo, WhI.u32, WhI.i32, WhI.flag, hc0, hc1, hc2, hc3, hc4, hc5, hc6, hc7, hc8, hc9, hc10, hc11, hc12, hc13, hc14, hc15, hc16, hc17]; done) | (exfalso; omega), by first | exact H | exact H.drop | exact H.drop.drop⟩
end Wh
