/- A part of the walk through the code: contracts of functions, printed by a program of the prover. -/
import Derived.Test.YtjdckpeoinkafaaGreatDoorSp
import Derived.Test.YtjdckpeoinkafaaGreatDoorSimp
import Derived.Test.YtjdckpeoinkafaaGreatDoorFwQ
import Derived.Test.YtjdckpeoinkafaaGreatDoorFx
set_option linter.all false
namespace Wh
open Go Go.Proofs
set_option maxRecDepth 100000
def formsS : ByteArray := ⟨#[85,85,74,73,66,66,66,66,66,66,73,73,73,73,73,83,83,83,73,73,73,73,73,73,72,72,72,82,82,82,82,82,82,82,82,82,82,82,82,82,82,82,82,82,82,69,69]⟩
theorem formsS_size : formsS.size = 47 := rfl
theorem forms_at : ∀ n : Nat, n < 47 → ∃ b, formsS[n]? = some b ∧ ((b.toNat : Nat) : Int) = WhI.formN n := by
  have h : ∀ n : Nat, n < 47 → ((formsS.data.toList[n]?).map fun b => ((b.toNat : Nat) : Int)) = some (WhI.formN n) := by decide
  intro n hn
  have h2 := h n hn
  have h3 : n < formsS.size := hn
  have e : formsS[n]? = some formsS[n] := getElem?_pos formsS n h3
  have e2 : formsS.data.toList[n]? = some formsS[n] := by
    rw [List.getElem?_eq_getElem (by exact hn)]
    rfl
  rw [e2] at h2
  exact ⟨_, e, Option.some.inj h2⟩
theorem forms_spec (B : Nat) (w0 w : World) (L : List Ck) (H : Hp B w0 w L) : Calls Tryz.prog 60 #[] w fun e w' => e = .returned (.string formsS) ∧ Hp B w0 w' L := by
  refine calls_go Tryz.func60 Tryz.ntmps60 rfl rfl ?_
  refine TW.seq ?_
  refine TW.region ?_
  refine LW.v (r_as) ?_
  refine LW.nil ?_
  refine TW.seq ?_
  refine TW.region ?_
  refine LW.v (r_as) ?_
  refine LW.nil ?_
  refine TW.ret (ret1 (by rfl) rT ?_)
  exact ⟨rfl, H⟩
theorem rform_spec (B : Nat) (w0 w : World) (L : List Ck) (op : Int) (H : Hp B w0 w L) : Calls Tryz.prog 27 #[.int .i64 op] w fun e w' => e = .returned (.int .u8 (WhI.form op)) ∧ Hp B w0 w' L := by
  refine calls_go Tryz.func27 Tryz.ntmps27 rfl rfl ?_
  refine TW.seq ?_
  refine TW.region ?_
  refine LW.v (r_as) ?_
  refine LW.nil ?_
  refine TW.seq <| TW.seq ?_
  refine TW.region ?_
  refine LW.v (r_mv) ?_
  refine LW.v (r_bin) ?_
  refine LW.v (r_mv) ?_
  refine LW.gen fun b hb => ?_; cases b
  · have hr0 := hb.symm; have hc0 := hb.symm; try simp only [beq_iff_eq, bne_iff_ne, beq_eq_false_iff_ne, bne_eq_false_iff_eq, decide_eq_true_eq, decide_eq_false_iff_not, Bool.not_eq_true', Bool.not_eq_false', Bool.true_eq, Bool.false_eq, ge_iff_le, gt_iff_lt, Bool.not_eq_eq_eq_not, Bool.not_true, Bool.not_false, ne_eq] at hc0
    refine LW.yes (by rfl) (by rfl) (by rfl) (by rfl) (by rfl) ?_
    refine LW.v (r_mv) ?_
    refine LW.yes (by rfl) (by rfl) (by rfl) (by rfl) (by rfl) ?_
    refine LW.c r_c0 ((forms_spec _ _ _ _ H).mono ?_)
    rintro _ w ⟨rfl, H⟩
    refine ⟨_, rfl, ?_⟩
    refine LW.yes (by rfl) (by rfl) (by rfl) (by rfl) (by rfl) ?_
    refine LW.v (r_lenS) ?_
    refine LW.yes (by rfl) (by rfl) (by rfl) (by rfl) (by rfl) ?_
    refine LW.v (r_bin) ?_
    refine LW.v (r_pick) ?_
    refine LW.nil ?_
    refine TW.c rfl (fun hb => ?_) (fun hb => ?_)
    · have hr1 := hb; have hc1 := hb; try simp only [beq_iff_eq, bne_iff_ne, beq_eq_false_iff_ne, bne_eq_false_iff_eq, decide_eq_true_eq, decide_eq_false_iff_not, Bool.not_eq_true', Bool.not_eq_false', Bool.true_eq, Bool.false_eq, ge_iff_le, gt_iff_lt, Bool.not_eq_eq_eq_not, Bool.not_true, Bool.not_false, ne_eq] at hc1
      refine TW.seq ?_
      refine TW.region ?_
      refine LW.v (r_as) ?_
      refine LW.nil ?_
      refine TW.ret (ret1 (by rfl) rT ?_)
      first
      | (refine ⟨?_, H⟩
         rw [hb2]
         have := formsS_size
         have e : WhI.form op = WhI.formN op.toNat := by unfold WhI.form; rw [if_neg (by omega)]
         rw [e])
      | (refine ⟨?_, H⟩
         have := formsS_size
         have e : WhI.form op = 0 := by unfold WhI.form; rw [if_pos (by omega)]
         rw [e])
    · have hr1 := hb; have hc1 := hb; try simp only [beq_iff_eq, bne_iff_ne, beq_eq_false_iff_ne, bne_eq_false_iff_eq, decide_eq_true_eq, decide_eq_false_iff_not, Bool.not_eq_true', Bool.not_eq_false', Bool.true_eq, Bool.false_eq, ge_iff_le, gt_iff_lt, Bool.not_eq_eq_eq_not, Bool.not_true, Bool.not_false, ne_eq] at hc1
      refine TW.skip <| TW.seq ?_
      refine TW.region ?_
      refine LW.c r_c0 ((forms_spec _ _ _ _ H).mono ?_)
      rintro _ w ⟨rfl, H⟩
      refine ⟨_, rfl, ?_⟩
      refine LW.v (r_mv) ?_
      obtain ⟨b, hb1, hb2⟩ := forms_at op.toNat (by have := formsS_size; omega)
      refine LW.v (r_ixStr (h0 := by omega) (hv := hb1)) ?_
      refine LW.v (r_as) ?_
      refine LW.nil ?_
      refine TW.ret (ret1 (by rfl) rT ?_)
      first
      | (refine ⟨?_, H⟩
         rw [hb2]
         have := formsS_size
         have e : WhI.form op = WhI.formN op.toNat := by unfold WhI.form; rw [if_neg (by omega)]
         rw [e])
      | (refine ⟨?_, H⟩
         have := formsS_size
         have e : WhI.form op = 0 := by unfold WhI.form; rw [if_pos (by omega)]
         rw [e])
  · have hr0 := hb.symm; have hc0 := hb.symm; try simp only [beq_iff_eq, bne_iff_ne, beq_eq_false_iff_ne, bne_eq_false_iff_eq, decide_eq_true_eq, decide_eq_false_iff_not, Bool.not_eq_true', Bool.not_eq_false', Bool.true_eq, Bool.false_eq, ge_iff_le, gt_iff_lt, Bool.not_eq_eq_eq_not, Bool.not_true, Bool.not_false, ne_eq] at hc0
    refine LW.no (by rfl) (by rfl) (by rfl) (by rfl) (by rfl) (by rfl) ?_
    refine LW.no (by rfl) (by rfl) (by rfl) (by rfl) (by rfl) (by rfl) ?_
    refine LW.no (by rfl) (by rfl) (by rfl) (by rfl) (by rfl) (by rfl) ?_
    refine LW.no (by rfl) (by rfl) (by rfl) (by rfl) (by rfl) (by rfl) ?_
    refine LW.v (r_pick) ?_
    refine LW.nil ?_
    refine TW.c rfl (fun _ => ?_) (fun h => by first | (cases h; done) | exact absurd h (by simp [hc0]))
    refine TW.seq ?_
    refine TW.region ?_
    refine LW.v (r_as) ?_
    refine LW.nil ?_
    refine TW.ret (ret1 (by rfl) rT ?_)
    first
    | (refine ⟨?_, H⟩
       rw [hb2]
       have := formsS_size
       have e : WhI.form op = WhI.formN op.toNat := by unfold WhI.form; rw [if_neg (by omega)]
       rw [e])
    | (refine ⟨?_, H⟩
       have := formsS_size
       have e : WhI.form op = 0 := by unfold WhI.form; rw [if_pos (by omega)]
       rw [e])
namespace WhI
def reg (n : Int) (b : Bool) : Bool := decide (n = 0) || (b && decide (n > 0) && decide (n < 32))
def span (f : Int) : Int × Int × Int :=
  if f = 85 then (0, 1048575, 1) else if f = 74 then (-1048576, 1048574, 2) else if f = 73 ∨ f = 83 then (-2048, 2047, 1) else if f = 66 then (-4096, 4094, 2) else if f = 72 then (0, 31, 1) else (0, 0, 1)
def inS (c : Int) (s : ByteArray) : Bool := s.data.toList.any fun b => decide (((b.toNat : Nat) : Int) = c)
end WhI
theorem reg_spec (B : Nat) (w0 w : World) (L : List Ck) (n : Int) (b : Bool) (H : Hp B w0 w L) : Calls Tryz.prog 58 #[.int .i64 n, .bool b] w fun e w' => e = .returned (.bool (WhI.reg n b)) ∧ Hp B w0 w' L := by
  refine calls_go Tryz.func58 Tryz.ntmps58 rfl rfl ?_
  refine TW.seq ?_
  refine TW.region ?_
  refine LW.v (r_as) ?_
  refine LW.nil ?_
  refine TW.seq ?_
  refine TW.region ?_
  refine LW.v (r_mv) ?_
  refine LW.v (r_bin) ?_
  refine LW.v (r_mv) ?_
  refine LW.gen fun b hb => ?_; cases b
  · have hr0 := hb.symm; have hc0 := hb.symm; try simp only [beq_iff_eq, bne_iff_ne, beq_eq_false_iff_ne, bne_eq_false_iff_eq, decide_eq_true_eq, decide_eq_false_iff_not, Bool.not_eq_true', Bool.not_eq_false', Bool.true_eq, Bool.false_eq, ge_iff_le, gt_iff_lt, Bool.not_eq_eq_eq_not, Bool.not_true, Bool.not_false, ne_eq] at hc0
    refine LW.yes (by rfl) (by rfl) (by rfl) (by rfl) (by rfl) ?_
    refine LW.v (r_mv) ?_
    refine LW.yes (by rfl) (by rfl) (by rfl) (by rfl) (by rfl) ?_
    refine LW.v (r_mv) ?_
    refine LW.gen fun b hb => ?_; cases b
    · have hr1 := hb.symm; have hc1 := hb.symm; try simp only [beq_iff_eq, bne_iff_ne, beq_eq_false_iff_ne, bne_eq_false_iff_eq, decide_eq_true_eq, decide_eq_false_iff_not, Bool.not_eq_true', Bool.not_eq_false', Bool.true_eq, Bool.false_eq, ge_iff_le, gt_iff_lt, Bool.not_eq_eq_eq_not, Bool.not_true, Bool.not_false, ne_eq] at hc1
      refine LW.no (by rfl) (by rfl) (by rfl) (by rfl) (by rfl) (by rfl) ?_
      refine LW.no (by rfl) (by rfl) (by rfl) (by rfl) (by rfl) (by rfl) ?_
      refine LW.yes (by rfl) (by rfl) (by rfl) (by rfl) (by rfl) ?_
      refine LW.v (r_pick) ?_
      refine LW.yes (by rfl) (by rfl) (by rfl) (by rfl) (by rfl) ?_
      refine LW.v (r_mv) ?_
      refine LW.no (by rfl) (by rfl) (by rfl) (by rfl) (by rfl) (by rfl) ?_
      refine LW.no (by rfl) (by rfl) (by rfl) (by rfl) (by rfl) (by rfl) ?_
      refine LW.yes (by rfl) (by rfl) (by rfl) (by rfl) (by rfl) ?_
      refine LW.v (r_pick) ?_
      refine LW.v (r_pick) ?_
      refine LW.v (r_as) ?_
      refine LW.nil ?_
      refine TW.ret (ret1 (by rfl) rT ?_)
      exact ⟨by first | rfl | (simp [IntKind.bits, WhI.reg, hc0, hc1]; done) | (exfalso; omega), by first | exact H | exact H.drop | exact H.drop.drop⟩
    · have hr1 := hb.symm; have hc1 := hb.symm; try simp only [beq_iff_eq, bne_iff_ne, beq_eq_false_iff_ne, bne_eq_false_iff_eq, decide_eq_true_eq, decide_eq_false_iff_not, Bool.not_eq_true', Bool.not_eq_false', Bool.true_eq, Bool.false_eq, ge_iff_le, gt_iff_lt, Bool.not_eq_eq_eq_not, Bool.not_true, Bool.not_false, ne_eq] at hc1
      refine LW.yes (by rfl) (by rfl) (by rfl) (by rfl) (by rfl) ?_
      refine LW.v (r_mv) ?_
      refine LW.yes (by rfl) (by rfl) (by rfl) (by rfl) (by rfl) ?_
      refine LW.v (r_bin) ?_
      refine LW.yes (by rfl) (by rfl) (by rfl) (by rfl) (by rfl) ?_
      refine LW.v (r_pick) ?_
      refine LW.yes (by rfl) (by rfl) (by rfl) (by rfl) (by rfl) ?_
      refine LW.v (r_mv) ?_
      refine LW.gen fun b hb => ?_; cases b
      · have hr2 := hb.symm; have hc2 := hb.symm; try simp only [beq_iff_eq, bne_iff_ne, beq_eq_false_iff_ne, bne_eq_false_iff_eq, decide_eq_true_eq, decide_eq_false_iff_not, Bool.not_eq_true', Bool.not_eq_false', Bool.true_eq, Bool.false_eq, ge_iff_le, gt_iff_lt, Bool.not_eq_eq_eq_not, Bool.not_true, Bool.not_false, ne_eq] at hc2
        refine LW.no (by rfl) (by rfl) (by rfl) (by rfl) (by rfl) (by rfl) ?_
        refine LW.no (by rfl) (by rfl) (by rfl) (by rfl) (by rfl) (by rfl) ?_
        refine LW.yes (by rfl) (by rfl) (by rfl) (by rfl) (by rfl) ?_
        refine LW.v (r_pick) ?_
        refine LW.v (r_pick) ?_
        refine LW.v (r_as) ?_
        refine LW.nil ?_
        refine TW.ret (ret1 (by rfl) rT ?_)
        exact ⟨by first | rfl | (simp [IntKind.bits, WhI.reg, hc0, hc1, hc2]; done) | (exfalso; omega), by first | exact H | exact H.drop | exact H.drop.drop⟩
      · have hr2 := hb.symm; have hc2 := hb.symm; try simp only [beq_iff_eq, bne_iff_ne, beq_eq_false_iff_ne, bne_eq_false_iff_eq, decide_eq_true_eq, decide_eq_false_iff_not, Bool.not_eq_true', Bool.not_eq_false', Bool.true_eq, Bool.false_eq, ge_iff_le, gt_iff_lt, Bool.not_eq_eq_eq_not, Bool.not_true, Bool.not_false, ne_eq] at hc2
        refine LW.yes (by rfl) (by rfl) (by rfl) (by rfl) (by rfl) ?_
        refine LW.v (r_mv) ?_
        refine LW.yes (by rfl) (by rfl) (by rfl) (by rfl) (by rfl) ?_
        refine LW.v (r_bin) ?_
        refine LW.yes (by rfl) (by rfl) (by rfl) (by rfl) (by rfl) ?_
        refine LW.v (r_pick) ?_
        refine LW.v (r_pick) ?_
        refine LW.v (r_as) ?_
        refine LW.nil ?_
        refine TW.ret (ret1 (by rfl) rT ?_)
        exact ⟨by first | rfl | (simp [IntKind.bits, WhI.reg, hc0, hc1, hc2]; done) | (exfalso; omega), by first | exact H | exact H.drop | exact H.drop.drop⟩
  · have hr0 := hb.symm; have hc0 := hb.symm; try simp only [beq_iff_eq, bne_iff_ne, beq_eq_false_iff_ne, bne_eq_false_iff_eq, decide_eq_true_eq, decide_eq_false_iff_not, Bool.not_eq_true', Bool.not_eq_false', Bool.true_eq, Bool.false_eq, ge_iff_le, gt_iff_lt, Bool.not_eq_eq_eq_not, Bool.not_true, Bool.not_false, ne_eq] at hc0
    refine LW.no (by rfl) (by rfl) (by rfl) (by rfl) (by rfl) (by rfl) ?_
    refine LW.no (by rfl) (by rfl) (by rfl) (by rfl) (by rfl) (by rfl) ?_
    refine LW.nou (by rfl) (by rfl) (by rfl) (by rfl) (by rfl) ?_
    refine LW.nou (by rfl) (by rfl) (by rfl) (by rfl) (by rfl) ?_
    refine LW.no (by rfl) (by rfl) (by rfl) (by rfl) (by rfl) (by rfl) ?_
    refine LW.no (by rfl) (by rfl) (by rfl) (by rfl) (by rfl) (by rfl) ?_
    refine LW.nou (by rfl) (by rfl) (by rfl) (by rfl) (by rfl) ?_
    refine LW.nou (by rfl) (by rfl) (by rfl) (by rfl) (by rfl) ?_
    refine LW.no (by rfl) (by rfl) (by rfl) (by rfl) (by rfl) (by rfl) ?_
    refine LW.v (r_pick) ?_
    refine LW.v (r_as) ?_
    refine LW.nil ?_
    refine TW.ret (ret1 (by rfl) rT ?_)
    exact ⟨by first | rfl | (simp [IntKind.bits, WhI.reg, hc0]; done) | (exfalso; omega), by first | exact H | exact H.drop | exact H.drop.drop⟩
theorem span_spec (B : Nat) (w0 w : World) (L : List Ck) (f : Int) (H : Hp B w0 w L) : Calls Tryz.prog 57 #[.int .u8 f] w fun e w' => e = .returned (.tuple #[.int .i64 (WhI.span f).1, .int .i64 (WhI.span f).2.1, .int .i64 (WhI.span f).2.2]) ∧ Hp B w0 w' L := by
  refine calls_go Tryz.func57 Tryz.ntmps57 rfl rfl ?_
  refine TW.seq ?_
  refine TW.region ?_
  refine LW.v (r_as) ?_
  refine LW.v (r_as) ?_
  refine LW.v (r_as) ?_
  refine LW.nil ?_
  refine TW.seq <| TW.seq ?_
  refine TW.region ?_
  refine LW.v (r_mv) ?_
  refine LW.nil ?_
  refine TW.block <| TW.seq ?_
  refine TW.region ?_
  refine LW.v (r_bin) ?_
  refine LW.v (r_as) ?_
  refine LW.nil ?_
  refine TW.c rfl (fun hb => ?_) (fun hb => ?_)
  · have hr0 := hb; have hc0 := hb; try simp only [beq_iff_eq, bne_iff_ne, beq_eq_false_iff_ne, bne_eq_false_iff_eq, decide_eq_true_eq, decide_eq_false_iff_not, Bool.not_eq_true', Bool.not_eq_false', Bool.true_eq, Bool.false_eq, ge_iff_le, gt_iff_lt, Bool.not_eq_eq_eq_not, Bool.not_true, Bool.not_false, ne_eq] at hc0
    refine TW.seq ?_
    refine TW.region ?_
    refine LW.v (r_as) ?_
    refine LW.v (r_as) ?_
    refine LW.v (r_as) ?_
    refine LW.nil ?_
    refine TW.ret (ret3 (by rfl) rT rT rT ?_)
    exact ⟨by first | rfl | (simp [IntKind.bits, WhI.span, hc0]; done) | (exfalso; omega), by first | exact H | exact H.drop | exact H.drop.drop⟩
  · have hr0 := hb; have hc0 := hb; try simp only [beq_iff_eq, bne_iff_ne, beq_eq_false_iff_ne, bne_eq_false_iff_eq, decide_eq_true_eq, decide_eq_false_iff_not, Bool.not_eq_true', Bool.not_eq_false', Bool.true_eq, Bool.false_eq, ge_iff_le, gt_iff_lt, Bool.not_eq_eq_eq_not, Bool.not_true, Bool.not_false, ne_eq] at hc0
    refine TW.seq ?_
    refine TW.region ?_
    refine LW.v (r_bin) ?_
    refine LW.v (r_as) ?_
    refine LW.nil ?_
    refine TW.c rfl (fun hb => ?_) (fun hb => ?_)
    · have hr1 := hb; have hc1 := hb; try simp only [beq_iff_eq, bne_iff_ne, beq_eq_false_iff_ne, bne_eq_false_iff_eq, decide_eq_true_eq, decide_eq_false_iff_not, Bool.not_eq_true', Bool.not_eq_false', Bool.true_eq, Bool.false_eq, ge_iff_le, gt_iff_lt, Bool.not_eq_eq_eq_not, Bool.not_true, Bool.not_false, ne_eq] at hc1
      refine TW.seq ?_
      refine TW.region ?_
      refine LW.v (r_as) ?_
      refine LW.v (r_as) ?_
      refine LW.v (r_as) ?_
      refine LW.nil ?_
      refine TW.ret (ret3 (by rfl) rT rT rT ?_)
      exact ⟨by first | rfl | (simp [IntKind.bits, WhI.span, hc0, hc1]; done) | (exfalso; omega), by first | exact H | exact H.drop | exact H.drop.drop⟩
    · have hr1 := hb; have hc1 := hb; try simp only [beq_iff_eq, bne_iff_ne, beq_eq_false_iff_ne, bne_eq_false_iff_eq, decide_eq_true_eq, decide_eq_false_iff_not, Bool.not_eq_true', Bool.not_eq_false', Bool.true_eq, Bool.false_eq, ge_iff_le, gt_iff_lt, Bool.not_eq_eq_eq_not, Bool.not_true, Bool.not_false, ne_eq] at hc1
      refine TW.seq <| TW.seq ?_
      refine TW.region ?_
      refine LW.v (r_bin) ?_
      refine LW.v (r_as) ?_
      refine LW.nil ?_
      refine TW.c rfl (fun hb => ?_) (fun hb => ?_)
      · have hr2 := hb; have hc2 := hb; try simp only [beq_iff_eq, bne_iff_ne, beq_eq_false_iff_ne, bne_eq_false_iff_eq, decide_eq_true_eq, decide_eq_false_iff_not, Bool.not_eq_true', Bool.not_eq_false', Bool.true_eq, Bool.false_eq, ge_iff_le, gt_iff_lt, Bool.not_eq_eq_eq_not, Bool.not_true, Bool.not_false, ne_eq] at hc2
        refine TW.skip ?_
        refine TW.c rfl (fun _ => ?_) (fun h => by first | (cases h; done) | exact absurd h (by simp [hc0, hc1, hc2]))
        refine TW.seq ?_
        refine TW.region ?_
        refine LW.v (r_as) ?_
        refine LW.v (r_as) ?_
        refine LW.v (r_as) ?_
        refine LW.nil ?_
        refine TW.ret (ret3 (by rfl) rT rT rT ?_)
        exact ⟨by first | rfl | (simp [IntKind.bits, WhI.span, hc0, hc1, hc2]; done) | (exfalso; omega), by first | exact H | exact H.drop | exact H.drop.drop⟩
      · have hr2 := hb; have hc2 := hb; try simp only [beq_iff_eq, bne_iff_ne, beq_eq_false_iff_ne, bne_eq_false_iff_eq, decide_eq_true_eq, decide_eq_false_iff_not, Bool.not_eq_true', Bool.not_eq_false', Bool.true_eq, Bool.false_eq, ge_iff_le, gt_iff_lt, Bool.not_eq_eq_eq_not, Bool.not_true, Bool.not_false, ne_eq] at hc2
        refine TW.region ?_
        refine LW.v (r_bin) ?_
        refine LW.v (r_as) ?_
        refine LW.nil ?_
        refine TW.c rfl (fun hb => ?_) (fun hb => ?_)
        · have hr3 := hb; have hc3 := hb; try simp only [beq_iff_eq, bne_iff_ne, beq_eq_false_iff_ne, bne_eq_false_iff_eq, decide_eq_true_eq, decide_eq_false_iff_not, Bool.not_eq_true', Bool.not_eq_false', Bool.true_eq, Bool.false_eq, ge_iff_le, gt_iff_lt, Bool.not_eq_eq_eq_not, Bool.not_true, Bool.not_false, ne_eq] at hc3
          refine TW.seq ?_
          refine TW.region ?_
          refine LW.v (r_as) ?_
          refine LW.v (r_as) ?_
          refine LW.v (r_as) ?_
          refine LW.nil ?_
          refine TW.ret (ret3 (by rfl) rT rT rT ?_)
          exact ⟨by first | rfl | (simp [IntKind.bits, WhI.span, hc0, hc1, hc2, hc3]; done) | (exfalso; omega), by first | exact H | exact H.drop | exact H.drop.drop⟩
        · have hr3 := hb; have hc3 := hb; try simp only [beq_iff_eq, bne_iff_ne, beq_eq_false_iff_ne, bne_eq_false_iff_eq, decide_eq_true_eq, decide_eq_false_iff_not, Bool.not_eq_true', Bool.not_eq_false', Bool.true_eq, Bool.false_eq, ge_iff_le, gt_iff_lt, Bool.not_eq_eq_eq_not, Bool.not_true, Bool.not_false, ne_eq] at hc3
          refine TW.seq ?_
          refine TW.region ?_
          refine LW.v (r_bin) ?_
          refine LW.v (r_as) ?_
          refine LW.nil ?_
          refine TW.c rfl (fun hb => ?_) (fun hb => ?_)
          · have hr4 := hb; have hc4 := hb; try simp only [beq_iff_eq, bne_iff_ne, beq_eq_false_iff_ne, bne_eq_false_iff_eq, decide_eq_true_eq, decide_eq_false_iff_not, Bool.not_eq_true', Bool.not_eq_false', Bool.true_eq, Bool.false_eq, ge_iff_le, gt_iff_lt, Bool.not_eq_eq_eq_not, Bool.not_true, Bool.not_false, ne_eq] at hc4
            refine TW.seq ?_
            refine TW.region ?_
            refine LW.v (r_as) ?_
            refine LW.v (r_as) ?_
            refine LW.v (r_as) ?_
            refine LW.nil ?_
            refine TW.ret (ret3 (by rfl) rT rT rT ?_)
            exact ⟨by first | rfl | (simp [IntKind.bits, WhI.span, hc0, hc1, hc2, hc3, hc4]; done) | (exfalso; omega), by first | exact H | exact H.drop | exact H.drop.drop⟩
          · have hr4 := hb; have hc4 := hb; try simp only [beq_iff_eq, bne_iff_ne, beq_eq_false_iff_ne, bne_eq_false_iff_eq, decide_eq_true_eq, decide_eq_false_iff_not, Bool.not_eq_true', Bool.not_eq_false', Bool.true_eq, Bool.false_eq, ge_iff_le, gt_iff_lt, Bool.not_eq_eq_eq_not, Bool.not_true, Bool.not_false, ne_eq] at hc4
            refine TW.seq ?_
            refine TW.region ?_
            refine LW.v (r_bin) ?_
            refine LW.v (r_as) ?_
            refine LW.nil ?_
            refine TW.c rfl (fun hb => ?_) (fun hb => ?_)
            · have hr5 := hb; have hc5 := hb; try simp only [beq_iff_eq, bne_iff_ne, beq_eq_false_iff_ne, bne_eq_false_iff_eq, decide_eq_true_eq, decide_eq_false_iff_not, Bool.not_eq_true', Bool.not_eq_false', Bool.true_eq, Bool.false_eq, ge_iff_le, gt_iff_lt, Bool.not_eq_eq_eq_not, Bool.not_true, Bool.not_false, ne_eq] at hc5
              refine TW.seq ?_
              refine TW.region ?_
              refine LW.v (r_as) ?_
              refine LW.v (r_as) ?_
              refine LW.v (r_as) ?_
              refine LW.nil ?_
              refine TW.ret (ret3 (by rfl) rT rT rT ?_)
              exact ⟨by first | rfl | (simp [IntKind.bits, WhI.span, hc0, hc1, hc2, hc3, hc4, hc5]; done) | (exfalso; omega), by first | exact H | exact H.drop | exact H.drop.drop⟩
            · have hr5 := hb; have hc5 := hb; try simp only [beq_iff_eq, bne_iff_ne, beq_eq_false_iff_ne, bne_eq_false_iff_eq, decide_eq_true_eq, decide_eq_false_iff_not, Bool.not_eq_true', Bool.not_eq_false', Bool.true_eq, Bool.false_eq, ge_iff_le, gt_iff_lt, Bool.not_eq_eq_eq_not, Bool.not_true, Bool.not_false, ne_eq] at hc5
              refine TW.skip <| TW.inBlock <| TW.seq ?_
              refine TW.region ?_
              refine LW.v (r_as) ?_
              refine LW.v (r_as) ?_
              refine LW.v (r_as) ?_
              refine LW.nil ?_
              refine TW.ret (ret3 (by rfl) rT rT rT ?_)
              exact ⟨by first | rfl | (simp [IntKind.bits, WhI.span, hc0, hc1, hc2, hc3, hc4, hc5]; done) | (exfalso; omega), by first | exact H | exact H.drop | exact H.drop.drop⟩
theorem in_spec (w : World) (c : Int) (s : ByteArray) (hl : s.size < 1073741824) : Calls Tryz.prog 59 #[.int .u8 c, .string s] w fun e w' => e = .returned (.bool (WhI.inS c s)) ∧ w' = w := by
  refine calls_go Tryz.func59 Tryz.ntmps59 rfl rfl ?_
  refine TW.seq ?_
  refine TW.region ?_
  refine LW.v (r_as) ?_
  refine LW.nil ?_
  refine TW.seq <| TW.seq ?_
  refine TW.region ?_
  refine LW.v (r_as) ?_
  refine LW.nil ?_
  refine TW.block ?_
  refine TW.lp (σ := Nat) (fun i w' => w' = w ∧ i ≤ s.size ∧ ∀ j b, j < i → s.data.toList[j]? = some b → ((b.toNat : Nat) : Int) ≠ c) (fun i => [(0, .int .u8 c), (1, .string s), (5, .int .i64 (i : Int))]) (fun i => s.size - i) (0) (⟨rfl, by omega, fun j b hj => absurd hj (by omega)⟩) (⟨rfl, rfl, rfl, trivial⟩) ?_
  rintro i f w ⟨rfl, hi, hn⟩ again
  refine TW.seq <| TW.seq ?_
  refine TW.region ?_
  refine LW.v (r_mv) ?_
  refine LW.v (r_mv) ?_
  refine LW.v (r_lenS) ?_
  refine LW.v (r_bin) ?_
  refine LW.nil ?_
  refine TW.c rfl (fun hb => ?_) (fun hb => ?_)
  · have hi3 : (i : Int) < s.size := by simpa using hb
    have hi2 : i < s.size := by omega
    have e1 : s[i]? = some s[i] := getElem?_pos s i hi2
    have e2 : s.data.toList[i]? = some s[i] := by
      rw [List.getElem?_eq_getElem (by exact hi2)]
      rfl
    refine TW.skip <| TW.seq <| TW.block <| TW.seq ?_
    refine TW.region ?_
    refine LW.v (r_mv) ?_
    refine LW.v (r_mv) ?_
    refine LW.v (r_ixStr (i := (i : Int)) (h0 := by omega) (hv := e1)) ?_
    refine LW.v (r_mv) ?_
    refine LW.v (r_bin) ?_
    refine LW.nil ?_
    refine TW.c rfl (fun hb => ?_) (fun hb => ?_)
    · refine TW.seq ?_
      refine TW.region ?_
      refine LW.v (r_as) ?_
      refine LW.nil ?_
      refine TW.ret (ret1 (by rfl) rT ?_)
      have he : ((s[i].toNat : Nat) : Int) = c := by simpa using hb
      have : WhI.inS c s = true := by
        simp only [WhI.inS, List.any_eq_true, decide_eq_true_eq]
        exact ⟨s[i], List.mem_of_getElem? e2, he⟩
      exact ⟨by rw [this], rfl⟩
    · refine TW.skip <| TW.inBlock ?_
      refine TW.region ?_
      refine LW.v (r_mv) ?_
      first | refine LW.v (r_add (hk := w64 (by omega) (by omega))) ?_ | refine LW.v (r_bin) ?_
      refine LW.v (r_as) ?_
      refine LW.nil ?_
      have he : ¬ ((s[i].toNat : Nat) : Int) = c := by simpa using hb
      refine again (i + 1) _ _ ⟨rfl, by omega, fun j b hj hjb => ?_⟩ ⟨rfl, rfl, rfl, trivial⟩ (by omega)
      by_cases e : j = i
      · subst e; rw [e2] at hjb; cases hjb; exact he
      · exact hn j b (by omega) hjb
  · refine TW.exit rfl <| TW.seq ?_
    refine TW.region ?_
    refine LW.v (r_as) ?_
    refine LW.nil ?_
    refine TW.ret (ret1 (by rfl) rT ?_)
    have hi2 : ¬ (i : Int) < s.size := by simpa using hb
    have : WhI.inS c s = false := by
      rw [Bool.eq_false_iff]
      intro h
      simp only [WhI.inS, List.any_eq_true, decide_eq_true_eq] at h
      obtain ⟨b, hb1, hb2⟩ := h
      obtain ⟨j, hj, e⟩ := List.getElem_of_mem hb1
      have hj2 : j < s.size := hj
      exact hn j b (by omega) (by rw [List.getElem?_eq_getElem hj, e]) hb2
    exact ⟨by rw [this], rfl⟩
namespace WhI
def sRd : ByteArray := ⟨#[85,74,73,72,82]⟩
def sR1 : ByteArray := ⟨#[73,72,66,83,82]⟩
def sR2 : ByteArray := ⟨#[66,83,82]⟩
def rright (x : X) : Bool :=
  !decide (form x.op = 0) && reg x.rd (inS (form x.op) sRd) && reg x.rs1 (inS (form x.op) sR1) && reg x.rs2 (inS (form x.op) sR2) && decide (x.imm ≥ (span (form x.op)).1) && decide (x.imm ≤ (span (form x.op)).2.1) && decide (x.imm.tmod (span (form x.op)).2.2 = 0)
theorem inS_rd (f : Int) : inS f sRd = (has f).1 := by
  simp only [inS, sRd, has, List.any_cons, List.any_nil]
  by_cases h1 : f = 85 <;> by_cases h2 : f = 74 <;> by_cases h3 : f = 73 <;> by_cases h4 : f = 72 <;> by_cases h5 : f = 82 <;> by_cases h6 : f = 66 <;> by_cases h7 : f = 83 <;> first | omega | (simp_all; done) | (simp_all; omega)
theorem inS_r1 (f : Int) : inS f sR1 = (has f).2.1 := by
  simp only [inS, sR1, has, List.any_cons, List.any_nil]
  by_cases h1 : f = 85 <;> by_cases h2 : f = 74 <;> by_cases h3 : f = 73 <;> by_cases h4 : f = 72 <;> by_cases h5 : f = 82 <;> by_cases h6 : f = 66 <;> by_cases h7 : f = 83 <;> first | omega | (simp_all; done) | (simp_all; omega)
theorem inS_r2 (f : Int) : inS f sR2 = (has f).2.2 := by
  simp only [inS, sR2, has, List.any_cons, List.any_nil]
  by_cases h1 : f = 85 <;> by_cases h2 : f = 74 <;> by_cases h3 : f = 73 <;> by_cases h4 : f = 72 <;> by_cases h5 : f = 82 <;> by_cases h6 : f = 66 <;> by_cases h7 : f = 83 <;> first | omega | (simp_all; done) | (simp_all; omega)
theorem reg_eq (n : Int) (b : Bool) : reg n b = register b n := by
  unfold reg register between
  cases b <;> rw [Bool.eq_iff_iff] <;> simp <;> omega
theorem span_step (f : Int) : (span f).2.2 ≠ 0 := by
  unfold span
  repeat' split
  all_goals simp
theorem span_number (f n : Int) : (decide (n ≥ (span f).1) && decide (n ≤ (span f).2.1) && decide (n.tmod (span f).2.2 = 0)) = number f n := by
  unfold span number between
  have h1 : n.tmod 1 = 0 := Int.tmod_one n
  by_cases e1 : f = 85
  · simp [e1, h1]
  by_cases e2 : f = 74
  · simp [e2]
  by_cases e3 : f = 73
  · simp [e3, h1]
  by_cases e4 : f = 83
  · simp [e4, h1]
  by_cases e5 : f = 66
  · simp [e5]
  by_cases e6 : f = 72
  · simp [e6, h1]
  simp only [e1, e2, e3, e4, e5, e6, or_self, if_false]
  rw [Bool.eq_iff_iff]
  simp [h1]
  omega
theorem rright_eq (x : X) : rright x = right x := by
  unfold rright right
  rw [inS_rd, inS_r1, inS_r2, reg_eq, reg_eq, reg_eq, ← span_number]
  simp only [Bool.and_assoc, ne_eq, decide_not]
end WhI
theorem rright_spec (B : Nat) (w0 w : World) (L : List Ck) (x : X) (H : Hp B w0 w L) : Calls Tryz.prog 26 #[x.val] w fun e w' => e = .returned (.bool (WhI.right x)) ∧ Hp B w0 w' L := by
  rw [← WhI.rright_eq]
  refine calls_go Tryz.func26 Tryz.ntmps26 rfl rfl ?_
  refine TW.seq ?_
  refine TW.region ?_
  refine LW.new (r_box H) ?_; intro g1 w H
  refine LW.v (r_as) ?_
  refine LW.nil ?_
  refine TW.seq ?_
  refine TW.region ?_
  refine LW.v (r_fa) ?_
  refine LW.v (r_ld H) ?_
  refine LW.c r_c1 ((rform_spec _ _ _ _ _ H).mono ?_)
  rintro _ w ⟨rfl, H⟩
  refine ⟨_, rfl, ?_⟩
  refine LW.v (r_as) ?_
  refine LW.nil ?_
  refine TW.seq ?_
  refine TW.region ?_
  refine LW.v (r_mv) ?_
  refine LW.c r_c1 ((span_spec _ _ _ _ _ H).mono ?_)
  rintro _ w ⟨rfl, H⟩
  refine ⟨_, rfl, ?_⟩
  refine LW.v (r_mv) ?_
  refine LW.v (r_ext) ?_
  refine LW.v (r_ext) ?_
  refine LW.v (r_ext) ?_
  refine LW.v (r_as) ?_
  refine LW.v (r_as) ?_
  refine LW.v (r_as) ?_
  refine LW.nil ?_
  refine TW.seq ?_
  refine TW.draw [(0, some 0), (1, some 0), (2, some 0), (3, some 1), (4, some 1), (5, some 0), (6, none), (7, none), (8, some 2), (9, some 2), (10, some 3), (11, some 3), (12, some 2), (13, none), (14, none), (15, some 4), (16, some 4), (17, some 5), (18, some 5), (19, some 4), (20, none), (21, none), (22, some 6), (23, some 6), (24, some 6), (25, some 6), (26, some 6), (27, some 6), (28, some 6), (29, some 6), (30, some 6), (31, some 6), (32, some 6), (33, some 6), (34, some 6), (35, some 6), (36, some 6), (37, some 6), (38, some 6), (39, some 6), (40, some 6), (41, some 6), (42, some 6)] [6, 7, 13, 14, 20, 21] hmix (by kernel_rfl) (fun _ _ _ _ _ h => h) H (fun _ w => Hp _ _ w _) (fun _ h => h) ?_
  intro w H
  refine DW.v (by rfl) (Quiet.y (fun _ _ => r_mv)) ?_
  refine DW.v (by rfl) (Quiet.y (fun _ _ => r_bin)) ?_
  refine DW.v (by rfl) (Quiet.y (fun _ _ => r_mv)) ?_
  refine DW.gen fun b hb => ?_; cases b
  · have hr0 := hb.symm; have hc0 := hb.symm; try simp only [beq_iff_eq, bne_iff_ne, beq_eq_false_iff_ne, bne_eq_false_iff_eq, decide_eq_true_eq, decide_eq_false_iff_not, Bool.not_eq_true', Bool.not_eq_false', Bool.true_eq, Bool.false_eq, ge_iff_le, gt_iff_lt, Bool.not_eq_eq_eq_not, Bool.not_true, Bool.not_false, ne_eq] at hc0
    refine DW.v (by rfl) (Quiet.gn (by rfl) (by rfl) (by rfl) (by rfl) (by rfl)) ?_
    refine DW.v (by rfl) (Quiet.gn (by rfl) (by rfl) (by rfl) (by rfl) (by rfl)) ?_
    refine DW.v (by rfl) (Quiet.gn (by rfl) (by rfl) (by rfl) (by rfl) (by rfl)) ?_
    refine DW.l (by rfl) ?_
    refine LW.no (by rfl) (by rfl) (by rfl) (by rfl) (by rfl) (by rfl) ?_
    refine LW.nil ⟨H, ?_⟩
    refine DW.l (by rfl) ?_
    refine LW.no (by rfl) (by rfl) (by rfl) (by rfl) (by rfl) (by rfl) ?_
    refine LW.nil ⟨H, ?_⟩
    refine DW.v (by rfl) (Quiet.y (fun _ _ => r_pick)) ?_
    refine DW.v (by rfl) (Quiet.y (fun _ _ => r_mv)) ?_
    refine DW.v (by rfl) (Quiet.gn (by rfl) (by rfl) (by rfl) (by rfl) (by rfl)) ?_
    refine DW.v (by rfl) (Quiet.gn (by rfl) (by rfl) (by rfl) (by rfl) (by rfl)) ?_
    refine DW.v (by rfl) (Quiet.gn (by rfl) (by rfl) (by rfl) (by rfl) (by rfl)) ?_
    refine DW.l (by rfl) ?_
    refine LW.no (by rfl) (by rfl) (by rfl) (by rfl) (by rfl) (by rfl) ?_
    refine LW.nil ⟨H, ?_⟩
    refine DW.l (by rfl) ?_
    refine LW.no (by rfl) (by rfl) (by rfl) (by rfl) (by rfl) (by rfl) ?_
    refine LW.nil ⟨H, ?_⟩
    refine DW.v (by rfl) (Quiet.y (fun _ _ => r_pick)) ?_
    refine DW.v (by rfl) (Quiet.y (fun _ _ => r_mv)) ?_
    refine DW.v (by rfl) (Quiet.gn (by rfl) (by rfl) (by rfl) (by rfl) (by rfl)) ?_
    refine DW.v (by rfl) (Quiet.gn (by rfl) (by rfl) (by rfl) (by rfl) (by rfl)) ?_
    refine DW.v (by rfl) (Quiet.gn (by rfl) (by rfl) (by rfl) (by rfl) (by rfl)) ?_
    refine DW.l (by rfl) ?_
    refine LW.no (by rfl) (by rfl) (by rfl) (by rfl) (by rfl) (by rfl) ?_
    refine LW.nil ⟨H, ?_⟩
    refine DW.l (by rfl) ?_
    refine LW.no (by rfl) (by rfl) (by rfl) (by rfl) (by rfl) (by rfl) ?_
    refine LW.nil ⟨H, ?_⟩
    refine DW.v (by rfl) (Quiet.y (fun _ _ => r_pick)) ?_
    refine DW.v (by rfl) (Quiet.y (fun _ _ => r_mv)) ?_
    refine DW.v (by rfl) (Quiet.gn (by rfl) (by rfl) (by rfl) (by rfl) (by rfl)) ?_
    refine DW.v (by rfl) (Quiet.gn (by rfl) (by rfl) (by rfl) (by rfl) (by rfl)) ?_
    refine DW.v (by rfl) (Quiet.gn (by rfl) (by rfl) (by rfl) (by rfl) (by rfl)) ?_
    refine DW.v (by rfl) (Quiet.gn (by rfl) (by rfl) (by rfl) (by rfl) (by rfl)) ?_
    refine DW.v (by rfl) (Quiet.y (fun _ _ => r_pick)) ?_
    refine DW.v (by rfl) (Quiet.y (fun _ _ => r_mv)) ?_
    refine DW.v (by rfl) (Quiet.gn (by rfl) (by rfl) (by rfl) (by rfl) (by rfl)) ?_
    refine DW.v (by rfl) (Quiet.gn (by rfl) (by rfl) (by rfl) (by rfl) (by rfl)) ?_
    refine DW.v (by rfl) (Quiet.gn (by rfl) (by rfl) (by rfl) (by rfl) (by rfl)) ?_
    refine DW.v (by rfl) (Quiet.gn (by rfl) (by rfl) (by rfl) (by rfl) (by rfl)) ?_
    refine DW.v (by rfl) (Quiet.y (fun _ _ => r_pick)) ?_
    refine DW.v (by rfl) (Quiet.y (fun _ _ => r_mv)) ?_
    refine DW.v (by rfl) (Quiet.gn (by rfl) (by rfl) (by rfl) (by rfl) (by rfl)) ?_
    refine DW.v (by rfl) (Quiet.gn (by rfl) (by rfl) (by rfl) (by rfl) (by rfl)) ?_
    refine DW.v (by rfl) (Quiet.gn (by rfl) (by rfl) (by rfl) (by rfl) (by rfl)) ?_
    refine DW.v (by rfl) (Quiet.gn (by rfl) (by rfl) (by rfl) (by rfl) (by rfl)) ?_
    refine DW.v (by rfl) (Quiet.gn (by rfl) (by rfl) (by rfl) (by rfl) (by rfl)) ?_
    refine DW.v (by rfl) (Quiet.y (fun _ _ => r_pick)) ?_
    refine DW.v (by rfl) (Quiet.y (fun _ _ => r_as)) ?_
    refine DW.nil (fun _ => ?_)
    refine TW.ret (ret1 (by rfl) rT ?_)
    exact ⟨by first | rfl | (simp [WhI.rright, hc0]; done), H.drop⟩
  · have hr0 := hb.symm; have hc0 := hb.symm; try simp only [beq_iff_eq, bne_iff_ne, beq_eq_false_iff_ne, bne_eq_false_iff_eq, decide_eq_true_eq, decide_eq_false_iff_not, Bool.not_eq_true', Bool.not_eq_false', Bool.true_eq, Bool.false_eq, ge_iff_le, gt_iff_lt, Bool.not_eq_eq_eq_not, Bool.not_true, Bool.not_false, ne_eq] at hc0
    refine DW.v (by rfl) (Quiet.gy (by rfl) (by rfl) (by rfl) (by rfl) (by rfl) (fun _ _ => r_fa)) ?_
    refine DW.mb (by rfl) (fun _ _ _ _ h => h) (Quiet.gy (by rfl) (by rfl) (by rfl) (by rfl) (by rfl) (fun _ h => r_ld h)) ?_
    refine DW.v (by rfl) (Quiet.gy (by rfl) (by rfl) (by rfl) (by rfl) (by rfl) (fun _ _ => r_mv)) ?_
    refine DW.l (by rfl) ?_
    refine LW.yes (by rfl) (by rfl) (by rfl) (by rfl) (by rfl) ?_
    refine LW.c r_c2 ((in_spec _ _ WhI.sRd (by decide)).mono ?_)
    rintro _ w ⟨rfl, rfl⟩
    refine ⟨_, rfl, ?_⟩
    refine LW.nil ⟨H, ?_⟩
    refine DW.l (by rfl) ?_
    refine LW.yes (by rfl) (by rfl) (by rfl) (by rfl) (by rfl) ?_
    refine LW.c r_c2 ((reg_spec _ _ _ _ _ _ H).mono ?_)
    rintro _ w ⟨rfl, H⟩
    refine ⟨_, rfl, ?_⟩
    refine LW.nil ⟨H, ?_⟩
    refine DW.v (by rfl) (Quiet.y (fun _ _ => r_pick)) ?_
    refine DW.v (by rfl) (Quiet.y (fun _ _ => r_mv)) ?_
    refine DW.gen fun b hb => ?_; cases b
    · have hr1 := hb.symm; have hc1 := hb.symm; try simp only [beq_iff_eq, bne_iff_ne, beq_eq_false_iff_ne, bne_eq_false_iff_eq, decide_eq_true_eq, decide_eq_false_iff_not, Bool.not_eq_true', Bool.not_eq_false', Bool.true_eq, Bool.false_eq, ge_iff_le, gt_iff_lt, Bool.not_eq_eq_eq_not, Bool.not_true, Bool.not_false, ne_eq] at hc1
      refine DW.v (by rfl) (Quiet.gn (by rfl) (by rfl) (by rfl) (by rfl) (by rfl)) ?_
      refine DW.v (by rfl) (Quiet.gn (by rfl) (by rfl) (by rfl) (by rfl) (by rfl)) ?_
      refine DW.v (by rfl) (Quiet.gn (by rfl) (by rfl) (by rfl) (by rfl) (by rfl)) ?_
      refine DW.l (by rfl) ?_
      refine LW.no (by rfl) (by rfl) (by rfl) (by rfl) (by rfl) (by rfl) ?_
      refine LW.nil ⟨H, ?_⟩
      refine DW.l (by rfl) ?_
      refine LW.no (by rfl) (by rfl) (by rfl) (by rfl) (by rfl) (by rfl) ?_
      refine LW.nil ⟨H, ?_⟩
      refine DW.v (by rfl) (Quiet.y (fun _ _ => r_pick)) ?_
      refine DW.v (by rfl) (Quiet.y (fun _ _ => r_mv)) ?_
      refine DW.v (by rfl) (Quiet.gn (by rfl) (by rfl) (by rfl) (by rfl) (by rfl)) ?_
      refine DW.v (by rfl) (Quiet.gn (by rfl) (by rfl) (by rfl) (by rfl) (by rfl)) ?_
      refine DW.v (by rfl) (Quiet.gn (by rfl) (by rfl) (by rfl) (by rfl) (by rfl)) ?_
      refine DW.l (by rfl) ?_
      refine LW.no (by rfl) (by rfl) (by rfl) (by rfl) (by rfl) (by rfl) ?_
      refine LW.nil ⟨H, ?_⟩
      refine DW.l (by rfl) ?_
      refine LW.no (by rfl) (by rfl) (by rfl) (by rfl) (by rfl) (by rfl) ?_
      refine LW.nil ⟨H, ?_⟩
      refine DW.v (by rfl) (Quiet.y (fun _ _ => r_pick)) ?_
      refine DW.v (by rfl) (Quiet.y (fun _ _ => r_mv)) ?_
      refine DW.v (by rfl) (Quiet.gn (by rfl) (by rfl) (by rfl) (by rfl) (by rfl)) ?_
      refine DW.v (by rfl) (Quiet.gn (by rfl) (by rfl) (by rfl) (by rfl) (by rfl)) ?_
      refine DW.v (by rfl) (Quiet.gn (by rfl) (by rfl) (by rfl) (by rfl) (by rfl)) ?_
      refine DW.v (by rfl) (Quiet.gn (by rfl) (by rfl) (by rfl) (by rfl) (by rfl)) ?_
      refine DW.v (by rfl) (Quiet.y (fun _ _ => r_pick)) ?_
      refine DW.v (by rfl) (Quiet.y (fun _ _ => r_mv)) ?_
      refine DW.v (by rfl) (Quiet.gn (by rfl) (by rfl) (by rfl) (by rfl) (by rfl)) ?_
      refine DW.v (by rfl) (Quiet.gn (by rfl) (by rfl) (by rfl) (by rfl) (by rfl)) ?_
      refine DW.v (by rfl) (Quiet.gn (by rfl) (by rfl) (by rfl) (by rfl) (by rfl)) ?_
      refine DW.v (by rfl) (Quiet.gn (by rfl) (by rfl) (by rfl) (by rfl) (by rfl)) ?_
      refine DW.v (by rfl) (Quiet.y (fun _ _ => r_pick)) ?_
      refine DW.v (by rfl) (Quiet.y (fun _ _ => r_mv)) ?_
      refine DW.v (by rfl) (Quiet.gn (by rfl) (by rfl) (by rfl) (by rfl) (by rfl)) ?_
      refine DW.v (by rfl) (Quiet.gn (by rfl) (by rfl) (by rfl) (by rfl) (by rfl)) ?_
      refine DW.v (by rfl) (Quiet.gn (by rfl) (by rfl) (by rfl) (by rfl) (by rfl)) ?_
      refine DW.v (by rfl) (Quiet.gn (by rfl) (by rfl) (by rfl) (by rfl) (by rfl)) ?_
      refine DW.v (by rfl) (Quiet.gn (by rfl) (by rfl) (by rfl) (by rfl) (by rfl)) ?_
      refine DW.v (by rfl) (Quiet.y (fun _ _ => r_pick)) ?_
      refine DW.v (by rfl) (Quiet.y (fun _ _ => r_as)) ?_
      refine DW.nil (fun _ => ?_)
      refine TW.ret (ret1 (by rfl) rT ?_)
      exact ⟨by first | rfl | (simp [WhI.rright, hc0, hc1]; done), H.drop⟩
    · have hr1 := hb.symm; have hc1 := hb.symm; try simp only [beq_iff_eq, bne_iff_ne, beq_eq_false_iff_ne, bne_eq_false_iff_eq, decide_eq_true_eq, decide_eq_false_iff_not, Bool.not_eq_true', Bool.not_eq_false', Bool.true_eq, Bool.false_eq, ge_iff_le, gt_iff_lt, Bool.not_eq_eq_eq_not, Bool.not_true, Bool.not_false, ne_eq] at hc1
      refine DW.v (by rfl) (Quiet.gy (by rfl) (by rfl) (by rfl) (by rfl) (by rfl) (fun _ _ => r_fa)) ?_
      refine DW.mb (by rfl) (fun _ _ _ _ h => h) (Quiet.gy (by rfl) (by rfl) (by rfl) (by rfl) (by rfl) (fun _ h => r_ld h)) ?_
      refine DW.v (by rfl) (Quiet.gy (by rfl) (by rfl) (by rfl) (by rfl) (by rfl) (fun _ _ => r_mv)) ?_
      refine DW.l (by rfl) ?_
      refine LW.yes (by rfl) (by rfl) (by rfl) (by rfl) (by rfl) ?_
      refine LW.c r_c2 ((in_spec _ _ WhI.sR1 (by decide)).mono ?_)
      rintro _ w ⟨rfl, rfl⟩
      refine ⟨_, rfl, ?_⟩
      refine LW.nil ⟨H, ?_⟩
      refine DW.l (by rfl) ?_
      refine LW.yes (by rfl) (by rfl) (by rfl) (by rfl) (by rfl) ?_
      refine LW.c r_c2 ((reg_spec _ _ _ _ _ _ H).mono ?_)
      rintro _ w ⟨rfl, H⟩
      refine ⟨_, rfl, ?_⟩
      refine LW.nil ⟨H, ?_⟩
      refine DW.v (by rfl) (Quiet.y (fun _ _ => r_pick)) ?_
      refine DW.v (by rfl) (Quiet.y (fun _ _ => r_mv)) ?_
      refine DW.gen fun b hb => ?_; cases b
      · have hr2 := hb.symm; have hc2 := hb.symm; try simp only [beq_iff_eq, bne_iff_ne, beq_eq_false_iff_ne, bne_eq_false_iff_eq, decide_eq_true_eq, decide_eq_false_iff_not, Bool.not_eq_true', Bool.not_eq_false', Bool.true_eq, Bool.false_eq, ge_iff_le, gt_iff_lt, Bool.not_eq_eq_eq_not, Bool.not_true, Bool.not_false, ne_eq] at hc2
        refine DW.v (by rfl) (Quiet.gn (by rfl) (by rfl) (by rfl) (by rfl) (by rfl)) ?_
        refine DW.v (by rfl) (Quiet.gn (by rfl) (by rfl) (by rfl) (by rfl) (by rfl)) ?_
        refine DW.v (by rfl) (Quiet.gn (by rfl) (by rfl) (by rfl) (by rfl) (by rfl)) ?_
        refine DW.l (by rfl) ?_
        refine LW.no (by rfl) (by rfl) (by rfl) (by rfl) (by rfl) (by rfl) ?_
        refine LW.nil ⟨H, ?_⟩
        refine DW.l (by rfl) ?_
        refine LW.no (by rfl) (by rfl) (by rfl) (by rfl) (by rfl) (by rfl) ?_
        refine LW.nil ⟨H, ?_⟩
        refine DW.v (by rfl) (Quiet.y (fun _ _ => r_pick)) ?_
        refine DW.v (by rfl) (Quiet.y (fun _ _ => r_mv)) ?_
        refine DW.v (by rfl) (Quiet.gn (by rfl) (by rfl) (by rfl) (by rfl) (by rfl)) ?_
        refine DW.v (by rfl) (Quiet.gn (by rfl) (by rfl) (by rfl) (by rfl) (by rfl)) ?_
        refine DW.v (by rfl) (Quiet.gn (by rfl) (by rfl) (by rfl) (by rfl) (by rfl)) ?_
        refine DW.v (by rfl) (Quiet.gn (by rfl) (by rfl) (by rfl) (by rfl) (by rfl)) ?_
        refine DW.v (by rfl) (Quiet.y (fun _ _ => r_pick)) ?_
        refine DW.v (by rfl) (Quiet.y (fun _ _ => r_mv)) ?_
        refine DW.v (by rfl) (Quiet.gn (by rfl) (by rfl) (by rfl) (by rfl) (by rfl)) ?_
        refine DW.v (by rfl) (Quiet.gn (by rfl) (by rfl) (by rfl) (by rfl) (by rfl)) ?_
        refine DW.v (by rfl) (Quiet.gn (by rfl) (by rfl) (by rfl) (by rfl) (by rfl)) ?_
        refine DW.v (by rfl) (Quiet.gn (by rfl) (by rfl) (by rfl) (by rfl) (by rfl)) ?_
        refine DW.v (by rfl) (Quiet.y (fun _ _ => r_pick)) ?_
        refine DW.v (by rfl) (Quiet.y (fun _ _ => r_mv)) ?_
        refine DW.v (by rfl) (Quiet.gn (by rfl) (by rfl) (by rfl) (by rfl) (by rfl)) ?_
        refine DW.v (by rfl) (Quiet.gn (by rfl) (by rfl) (by rfl) (by rfl) (by rfl)) ?_
        refine DW.v (by rfl) (Quiet.gn (by rfl) (by rfl) (by rfl) (by rfl) (by rfl)) ?_
        refine DW.v (by rfl) (Quiet.gn (by rfl) (by rfl) (by rfl) (by rfl) (by rfl)) ?_
        refine DW.v (by rfl) (Quiet.gn (by rfl) (by rfl) (by rfl) (by rfl) (by rfl)) ?_
        refine DW.v (by rfl) (Quiet.y (fun _ _ => r_pick)) ?_
        refine DW.v (by rfl) (Quiet.y (fun _ _ => r_as)) ?_
        refine DW.nil (fun _ => ?_)
        refine TW.ret (ret1 (by rfl) rT ?_)
        exact ⟨by first | rfl | (simp [WhI.rright, hc0, hc1, hc2]; done), H.drop⟩
      · have hr2 := hb.symm; have hc2 := hb.symm; try simp only [beq_iff_eq, bne_iff_ne, beq_eq_false_iff_ne, bne_eq_false_iff_eq, decide_eq_true_eq, decide_eq_false_iff_not, Bool.not_eq_true', Bool.not_eq_false', Bool.true_eq, Bool.false_eq, ge_iff_le, gt_iff_lt, Bool.not_eq_eq_eq_not, Bool.not_true, Bool.not_false, ne_eq] at hc2
        refine DW.v (by rfl) (Quiet.gy (by rfl) (by rfl) (by rfl) (by rfl) (by rfl) (fun _ _ => r_fa)) ?_
        refine DW.mb (by rfl) (fun _ _ _ _ h => h) (Quiet.gy (by rfl) (by rfl) (by rfl) (by rfl) (by rfl) (fun _ h => r_ld h)) ?_
        refine DW.v (by rfl) (Quiet.gy (by rfl) (by rfl) (by rfl) (by rfl) (by rfl) (fun _ _ => r_mv)) ?_
        refine DW.l (by rfl) ?_
        refine LW.yes (by rfl) (by rfl) (by rfl) (by rfl) (by rfl) ?_
        refine LW.c r_c2 ((in_spec _ _ WhI.sR2 (by decide)).mono ?_)
        rintro _ w ⟨rfl, rfl⟩
        refine ⟨_, rfl, ?_⟩
        refine LW.nil ⟨H, ?_⟩
        refine DW.l (by rfl) ?_
        refine LW.yes (by rfl) (by rfl) (by rfl) (by rfl) (by rfl) ?_
        refine LW.c r_c2 ((reg_spec _ _ _ _ _ _ H).mono ?_)
        rintro _ w ⟨rfl, H⟩
        refine ⟨_, rfl, ?_⟩
        refine LW.nil ⟨H, ?_⟩
        refine DW.v (by rfl) (Quiet.y (fun _ _ => r_pick)) ?_
        refine DW.v (by rfl) (Quiet.y (fun _ _ => r_mv)) ?_
        refine DW.gen fun b hb => ?_; cases b
        · have hr3 := hb.symm; have hc3 := hb.symm; try simp only [beq_iff_eq, bne_iff_ne, beq_eq_false_iff_ne, bne_eq_false_iff_eq, decide_eq_true_eq, decide_eq_false_iff_not, Bool.not_eq_true', Bool.not_eq_false', Bool.true_eq, Bool.false_eq, ge_iff_le, gt_iff_lt, Bool.not_eq_eq_eq_not, Bool.not_true, Bool.not_false, ne_eq] at hc3
          refine DW.v (by rfl) (Quiet.gn (by rfl) (by rfl) (by rfl) (by rfl) (by rfl)) ?_
          refine DW.v (by rfl) (Quiet.gn (by rfl) (by rfl) (by rfl) (by rfl) (by rfl)) ?_
          refine DW.v (by rfl) (Quiet.gn (by rfl) (by rfl) (by rfl) (by rfl) (by rfl)) ?_
          refine DW.v (by rfl) (Quiet.gn (by rfl) (by rfl) (by rfl) (by rfl) (by rfl)) ?_
          refine DW.v (by rfl) (Quiet.y (fun _ _ => r_pick)) ?_
          refine DW.v (by rfl) (Quiet.y (fun _ _ => r_mv)) ?_
          refine DW.v (by rfl) (Quiet.gn (by rfl) (by rfl) (by rfl) (by rfl) (by rfl)) ?_
          refine DW.v (by rfl) (Quiet.gn (by rfl) (by rfl) (by rfl) (by rfl) (by rfl)) ?_
          refine DW.v (by rfl) (Quiet.gn (by rfl) (by rfl) (by rfl) (by rfl) (by rfl)) ?_
          refine DW.v (by rfl) (Quiet.gn (by rfl) (by rfl) (by rfl) (by rfl) (by rfl)) ?_
          refine DW.v (by rfl) (Quiet.y (fun _ _ => r_pick)) ?_
          refine DW.v (by rfl) (Quiet.y (fun _ _ => r_mv)) ?_
          refine DW.v (by rfl) (Quiet.gn (by rfl) (by rfl) (by rfl) (by rfl) (by rfl)) ?_
          refine DW.v (by rfl) (Quiet.gn (by rfl) (by rfl) (by rfl) (by rfl) (by rfl)) ?_
          refine DW.v (by rfl) (Quiet.gn (by rfl) (by rfl) (by rfl) (by rfl) (by rfl)) ?_
          refine DW.v (by rfl) (Quiet.gn (by rfl) (by rfl) (by rfl) (by rfl) (by rfl)) ?_
          refine DW.v (by rfl) (Quiet.gn (by rfl) (by rfl) (by rfl) (by rfl) (by rfl)) ?_
          refine DW.v (by rfl) (Quiet.y (fun _ _ => r_pick)) ?_
          refine DW.v (by rfl) (Quiet.y (fun _ _ => r_as)) ?_
          refine DW.nil (fun _ => ?_)
          refine TW.ret (ret1 (by rfl) rT ?_)
          exact ⟨by first | rfl | (simp [WhI.rright, hc0, hc1, hc2, hc3]; done), H.drop⟩
        · have hr3 := hb.symm; have hc3 := hb.symm; try simp only [beq_iff_eq, bne_iff_ne, beq_eq_false_iff_ne, bne_eq_false_iff_eq, decide_eq_true_eq, decide_eq_false_iff_not, Bool.not_eq_true', Bool.not_eq_false', Bool.true_eq, Bool.false_eq, ge_iff_le, gt_iff_lt, Bool.not_eq_eq_eq_not, Bool.not_true, Bool.not_false, ne_eq] at hc3
          refine DW.v (by rfl) (Quiet.gy (by rfl) (by rfl) (by rfl) (by rfl) (by rfl) (fun _ _ => r_fa)) ?_
          refine DW.mb (by rfl) (fun _ _ _ _ h => h) (Quiet.gy (by rfl) (by rfl) (by rfl) (by rfl) (by rfl) (fun _ h => r_ld h)) ?_
          refine DW.v (by rfl) (Quiet.gy (by rfl) (by rfl) (by rfl) (by rfl) (by rfl) (fun _ _ => r_mv)) ?_
          refine DW.v (by rfl) (Quiet.gy (by rfl) (by rfl) (by rfl) (by rfl) (by rfl) (fun _ _ => r_bin)) ?_
          refine DW.v (by rfl) (Quiet.y (fun _ _ => r_pick)) ?_
          refine DW.v (by rfl) (Quiet.y (fun _ _ => r_mv)) ?_
          refine DW.gen fun b hb => ?_; cases b
          · have hr4 := hb.symm; have hc4 := hb.symm; try simp only [beq_iff_eq, bne_iff_ne, beq_eq_false_iff_ne, bne_eq_false_iff_eq, decide_eq_true_eq, decide_eq_false_iff_not, Bool.not_eq_true', Bool.not_eq_false', Bool.true_eq, Bool.false_eq, ge_iff_le, gt_iff_lt, Bool.not_eq_eq_eq_not, Bool.not_true, Bool.not_false, ne_eq] at hc4
            refine DW.v (by rfl) (Quiet.gn (by rfl) (by rfl) (by rfl) (by rfl) (by rfl)) ?_
            refine DW.v (by rfl) (Quiet.gn (by rfl) (by rfl) (by rfl) (by rfl) (by rfl)) ?_
            refine DW.v (by rfl) (Quiet.gn (by rfl) (by rfl) (by rfl) (by rfl) (by rfl)) ?_
            refine DW.v (by rfl) (Quiet.gn (by rfl) (by rfl) (by rfl) (by rfl) (by rfl)) ?_
            refine DW.v (by rfl) (Quiet.y (fun _ _ => r_pick)) ?_
            refine DW.v (by rfl) (Quiet.y (fun _ _ => r_mv)) ?_
            refine DW.v (by rfl) (Quiet.gn (by rfl) (by rfl) (by rfl) (by rfl) (by rfl)) ?_
            refine DW.v (by rfl) (Quiet.gn (by rfl) (by rfl) (by rfl) (by rfl) (by rfl)) ?_
            refine DW.v (by rfl) (Quiet.gn (by rfl) (by rfl) (by rfl) (by rfl) (by rfl)) ?_
            refine DW.v (by rfl) (Quiet.gn (by rfl) (by rfl) (by rfl) (by rfl) (by rfl)) ?_
            refine DW.v (by rfl) (Quiet.gn (by rfl) (by rfl) (by rfl) (by rfl) (by rfl)) ?_
            refine DW.v (by rfl) (Quiet.y (fun _ _ => r_pick)) ?_
            refine DW.v (by rfl) (Quiet.y (fun _ _ => r_as)) ?_
            refine DW.nil (fun _ => ?_)
            refine TW.ret (ret1 (by rfl) rT ?_)
            exact ⟨by first | rfl | (simp [WhI.rright, hc0, hc1, hc2, hc3, hc4]; done), H.drop⟩
          · have hr4 := hb.symm; have hc4 := hb.symm; try simp only [beq_iff_eq, bne_iff_ne, beq_eq_false_iff_ne, bne_eq_false_iff_eq, decide_eq_true_eq, decide_eq_false_iff_not, Bool.not_eq_true', Bool.not_eq_false', Bool.true_eq, Bool.false_eq, ge_iff_le, gt_iff_lt, Bool.not_eq_eq_eq_not, Bool.not_true, Bool.not_false, ne_eq] at hc4
            refine DW.v (by rfl) (Quiet.gy (by rfl) (by rfl) (by rfl) (by rfl) (by rfl) (fun _ _ => r_fa)) ?_
            refine DW.mb (by rfl) (fun _ _ _ _ h => h) (Quiet.gy (by rfl) (by rfl) (by rfl) (by rfl) (by rfl) (fun _ h => r_ld h)) ?_
            refine DW.v (by rfl) (Quiet.gy (by rfl) (by rfl) (by rfl) (by rfl) (by rfl) (fun _ _ => r_mv)) ?_
            refine DW.v (by rfl) (Quiet.gy (by rfl) (by rfl) (by rfl) (by rfl) (by rfl) (fun _ _ => r_bin)) ?_
            refine DW.v (by rfl) (Quiet.y (fun _ _ => r_pick)) ?_
            refine DW.v (by rfl) (Quiet.y (fun _ _ => r_mv)) ?_
            refine DW.gen fun b hb => ?_; cases b
            · have hr5 := hb.symm; have hc5 := hb.symm; try simp only [beq_iff_eq, bne_iff_ne, beq_eq_false_iff_ne, bne_eq_false_iff_eq, decide_eq_true_eq, decide_eq_false_iff_not, Bool.not_eq_true', Bool.not_eq_false', Bool.true_eq, Bool.false_eq, ge_iff_le, gt_iff_lt, Bool.not_eq_eq_eq_not, Bool.not_true, Bool.not_false, ne_eq] at hc5
              refine DW.v (by rfl) (Quiet.gn (by rfl) (by rfl) (by rfl) (by rfl) (by rfl)) ?_
              refine DW.v (by rfl) (Quiet.gn (by rfl) (by rfl) (by rfl) (by rfl) (by rfl)) ?_
              refine DW.v (by rfl) (Quiet.gn (by rfl) (by rfl) (by rfl) (by rfl) (by rfl)) ?_
              refine DW.v (by rfl) (Quiet.gn (by rfl) (by rfl) (by rfl) (by rfl) (by rfl)) ?_
              refine DW.v (by rfl) (Quiet.gn (by rfl) (by rfl) (by rfl) (by rfl) (by rfl)) ?_
              refine DW.v (by rfl) (Quiet.y (fun _ _ => r_pick)) ?_
              refine DW.v (by rfl) (Quiet.y (fun _ _ => r_as)) ?_
              refine DW.nil (fun _ => ?_)
              refine TW.ret (ret1 (by rfl) rT ?_)
              exact ⟨by first | rfl | (simp [WhI.rright, hc0, hc1, hc2, hc3, hc4, hc5]; done), H.drop⟩
            · have hr5 := hb.symm; have hc5 := hb.symm; try simp only [beq_iff_eq, bne_iff_ne, beq_eq_false_iff_ne, bne_eq_false_iff_eq, decide_eq_true_eq, decide_eq_false_iff_not, Bool.not_eq_true', Bool.not_eq_false', Bool.true_eq, Bool.false_eq, ge_iff_le, gt_iff_lt, Bool.not_eq_eq_eq_not, Bool.not_true, Bool.not_false, ne_eq] at hc5
              refine DW.v (by rfl) (Quiet.gy (by rfl) (by rfl) (by rfl) (by rfl) (by rfl) (fun _ _ => r_fa)) ?_
              refine DW.mb (by rfl) (fun _ _ _ _ h => h) (Quiet.gy (by rfl) (by rfl) (by rfl) (by rfl) (by rfl) (fun _ h => r_ld h)) ?_
              refine DW.v (by rfl) (Quiet.gy (by rfl) (by rfl) (by rfl) (by rfl) (by rfl) (fun _ _ => r_mv)) ?_
              refine DW.v (by rfl) (Quiet.gy (by rfl) (by rfl) (by rfl) (by rfl) (by rfl) (fun _ _ => r_rem (hb := WhI.span_step _))) ?_
              refine DW.v (by rfl) (Quiet.gy (by rfl) (by rfl) (by rfl) (by rfl) (by rfl) (fun _ _ => r_bin)) ?_
              refine DW.v (by rfl) (Quiet.y (fun _ _ => r_pick)) ?_
              refine DW.v (by rfl) (Quiet.y (fun _ _ => r_as)) ?_
              refine DW.nil (fun _ => ?_)
              refine TW.ret (ret1 (by rfl) rT ?_)
              exact ⟨by first | rfl | (simp [WhI.rright, hc0, hc1, hc2, hc3, hc4, hc5]; done), H.drop⟩
def fromP : List Int := [18, 19, 20, 21, 22, 23, 24, 25, 26]
def toP : List Int := [27, 30, 31, 32, 35, 36, 29, 33, 34]
theorem rplain_spec (B : Nat) (w0 w : World) (L : List Ck) (op : Int) (H : Hp B w0 w L) : Calls Tryz.prog 25 #[.int .i64 op] w fun e w' => e = .returned (.tuple #[.int .i64 (WhI.plain op).1, .bool (WhI.plain op).2]) ∧ Hp B w0 w' L := by
  have hpl : ∀ i : Nat, i < 9 → WhI.plain ((fromP[i]?).getD 0) = ((toP[i]?).getD 0, true) := by decide
  refine calls_go Tryz.func25 Tryz.ntmps25 rfl rfl ?_
  refine TW.seq ?_
  refine TW.region ?_
  refine LW.v (r_as) ?_
  refine LW.v (r_as) ?_
  refine LW.nil ?_
  refine TW.seq ?_
  refine TW.region ?_
  refine LW.new (r_bsl H (fromP.map i64v) (fromP.map i64v) rfl rfl (hv := by intro v hv; obtain ⟨z, _, rfl⟩ := List.mem_map.1 hv; rfl)) ?_; intro g4 w H
  refine LW.v (r_as) ?_
  refine LW.nil ?_
  refine TW.seq ?_
  refine TW.region ?_
  refine LW.new (r_bsl H (toP.map i64v) (toP.map i64v) rfl rfl (hv := by intro v hv; obtain ⟨z, _, rfl⟩ := List.mem_map.1 hv; rfl)) ?_; intro g5 w H
  refine LW.v (r_as) ?_
  refine LW.nil ?_
  refine TW.seq <| TW.seq ?_
  refine TW.region ?_
  refine LW.v (r_as) ?_
  refine LW.nil ?_
  refine TW.block ?_
  have H : Hp B w0 w (Blk g5 3 (vI toP) :: Blk g4 3 (vI fromP) :: L) := H
  refine TW.lp (σ := Nat) (fun i w' => i ≤ 9 ∧ (∀ j : Nat, j < i → (fromP[j]?).getD 0 ≠ op) ∧ Hp B w0 w' (Blk g5 3 (vI toP) :: Blk g4 3 (vI fromP) :: L)) (fun i => [(0, .int .i64 op), (4, .slice (some ⟨g4, 0, none⟩) 9 9), (5, .slice (some ⟨g5, 0, none⟩) 9 9), (6, .int .i64 (i : Int))]) (fun i => 9 - i) (0) (⟨by omega, fun j hj => absurd hj (by omega), H⟩) (⟨rfl, rfl, rfl, rfl, trivial⟩) ?_
  rintro i f w ⟨hi, hn, H⟩ again
  refine TW.seq <| TW.seq ?_
  refine TW.region ?_
  refine LW.v (r_mv) ?_
  refine LW.v (r_mv) ?_
  refine LW.v (r_len) ?_
  refine LW.v (r_bin) ?_
  refine LW.nil ?_
  refine TW.c rfl (fun hb => ?_) (fun hb => ?_)
  · have hi3 : (i : Int) < 9 := by simpa using hb
    have hi2 : i < 9 := by omega
    have hg : fromP[i]? = some ((fromP[i]?).getD 0) := by rw [List.getElem?_eq_getElem (show i < fromP.length from hi2)]; rfl
    have hg2 : toP[i]? = some ((toP[i]?).getD 0) := by rw [List.getElem?_eq_getElem (show i < toP.length from hi2)]; rfl
    refine TW.skip <| TW.seq <| TW.block <| TW.seq ?_
    refine TW.region ?_
    refine LW.v (r_mv) ?_
    refine LW.v (r_mv) ?_
    refine LW.v (r_iaB (h0 := by omega) (h1 := by omega)) ?_
    refine LW.v (r_ldc (cellK (enc := i64v) (g := g4) (k := i) H hg)) ?_
    refine LW.v (r_mv) ?_
    refine LW.v (r_bin) ?_
    refine LW.nil ?_
    refine TW.c rfl (fun hb => ?_) (fun hb => ?_)
    · refine TW.seq ?_
      refine TW.region ?_
      refine LW.v (r_mv) ?_
      refine LW.v (r_mv) ?_
      refine LW.v (r_iaB (h0 := by omega) (h1 := by omega)) ?_
      refine LW.v (r_ldc (cellK (enc := i64v) (g := g5) (k := i) H hg2)) ?_
      refine LW.v (r_as) ?_
      refine LW.v (r_as) ?_
      refine LW.nil ?_
      refine TW.ret (ret2 (by rfl) rT rT ?_)
      have he : (fromP[i]?).getD 0 = op := by simpa using hb
      have := hpl i hi2
      rw [he] at this
      exact ⟨by rw [this], H.drop.drop⟩
    · refine TW.skip <| TW.inBlock ?_
      refine TW.region ?_
      refine LW.v (r_mv) ?_
      first | refine LW.v (r_add (hk := w64 (by omega) (by omega))) ?_ | refine LW.v (r_bin) ?_
      refine LW.v (r_as) ?_
      refine LW.nil ?_
      have he : ¬ (fromP[i]?).getD 0 = op := by simpa using hb
      refine again (i + 1) _ _ ⟨by omega, fun j hj => ?_, H⟩ ⟨rfl, rfl, rfl, rfl, trivial⟩ (by omega)
      by_cases e : j = i
      · subst e; exact he
      · exact hn j (by omega)
  · refine TW.exit rfl <| TW.seq ?_
    refine TW.region ?_
    refine LW.v (r_as) ?_
    refine LW.v (r_as) ?_
    refine LW.nil ?_
    refine TW.ret (ret2 (by rfl) rT rT ?_)
    have hi3 : ¬ (i : Int) < 9 := by simpa using hb
    have hnot : ∀ j : Nat, j < 9 → (fromP[j]?).getD 0 ≠ op := fun j hj => hn j (by omega)
    have hp : WhI.plain op = (0, false) := by
      have h0 := hnot 0 (by decide); have h1 := hnot 1 (by decide); have h2 := hnot 2 (by decide); have h3 := hnot 3 (by decide); have h4 := hnot 4 (by decide)
      have h5 := hnot 5 (by decide); have h6 := hnot 6 (by decide); have h7 := hnot 7 (by decide); have h8 := hnot 8 (by decide)
      simp [fromP] at h0 h1 h2 h3 h4 h5 h6 h7 h8
      unfold WhI.plain
      rw [if_neg (fun e => h0 e.symm), if_neg (fun e => h1 e.symm), if_neg (fun e => h2 e.symm), if_neg (fun e => h3 e.symm), if_neg (fun e => h4 e.symm), if_neg (fun e => h5 e.symm), if_neg (fun e => h6 e.symm), if_neg (fun e => h7 e.symm), if_neg (fun e => h8 e.symm)]
    exact ⟨by rw [hp], H.drop.drop⟩
end Wh
namespace Wh.WhC
open Go WhL
def pcOf (cs : List Int) : Int := (cs[32]?).getD 0
def putC (cs : List Int) (rd v : Int) : List Int := if 0 < rd then cs.set rd.toNat v else cs
def setC (cs : List Int) (rd v : Int) : List Int := (putC cs rd v).set 32 (IntKind.u32.wrap (pcOf (putC cs rd v) + 4))
def upC (i : X) : Int := IntKind.u32.wrap (IntKind.u32.wrap i.imm * 4096)
def opC (i : X) : Int := if (WhI.plain i.op).2 then (WhI.plain i.op).1 else i.op
def bC (cs : List Int) (i : X) : Int := if (WhI.plain i.op).2 then IntKind.u32.wrap i.imm else reg cs i.rs2
def doesF (cs : List Int) (i : X) : List Int × Bool :=
  if !WhI.right i then (cs.set 0 0, false)
  else if i.op = 0 then (setC (cs.set 0 0) i.rd (upC i), true)
  else if i.op = 1 then (setC (cs.set 0 0) i.rd (IntKind.u32.wrap (pcOf (cs.set 0 0) + upC i)), true)
  else if (WhI.wdo (opC i) (reg (cs.set 0 0) i.rs1) (bC (cs.set 0 0) i)).2 ≠ 0 then (cs.set 0 0, false)
  else (setC (cs.set 0 0) i.rd (WhI.wdo (opC i) (reg (cs.set 0 0) i.rs1) (bC (cs.set 0 0) i)).1, true)
/-- 33 words -/
structure Wc (cs : List Int) : Prop where
  len : cs.length = 33
  rng : ∀ v ∈ cs, 0 ≤ v ∧ v < 4294967296
theorem Wc.set {cs : List Int} (h : Wc cs) {k : Nat} {v : Int} (hv : 0 ≤ v ∧ v < 4294967296) : Wc (cs.set k v) :=
  ⟨by simp [h.len], fun u hu => by
    rcases List.mem_or_eq_of_mem_set hu with h1 | rfl
    · exact h.rng u h1
    · exact hv⟩
theorem Wc.at {cs : List Int} (h : Wc cs) {k : Nat} (hk : k < 33) : cs[k]? = some ((cs[k]?).getD 0) ∧ 0 ≤ (cs[k]?).getD 0 ∧ (cs[k]?).getD 0 < 4294967296 := by
  have hl : k < cs.length := by rw [h.len]; exact hk
  rw [List.getElem?_eq_getElem hl]
  exact ⟨rfl, h.rng _ (List.getElem_mem hl)⟩
theorem Wc.put {cs : List Int} (h : Wc cs) {rd v : Int} (hv : 0 ≤ v ∧ v < 4294967296) : Wc (putC cs rd v) := by
  unfold putC
  split
  · exact h.set hv
  · exact h
theorem Wc.setC {cs : List Int} (h : Wc cs) {rd v : Int} (hv : 0 ≤ v ∧ v < 4294967296) : Wc (setC cs rd v) := (h.put hv).set (WhS.u32_rng _)
theorem Wc.reg {cs : List Int} (h : Wc cs) {r : Int} (h0 : 0 ≤ r) (h1 : r ≤ 31) : cs[r.toNat]? = some (WhL.reg cs r) ∧ 0 ≤ WhL.reg cs r ∧ WhL.reg cs r < 4294967296 := h.at (by omega)
theorem right_regs {i : X} (h : WhI.right i = true) : (0 ≤ i.rd ∧ i.rd ≤ 31) ∧ (0 ≤ i.rs1 ∧ i.rs1 ≤ 31) ∧ (0 ≤ i.rs2 ∧ i.rs2 ≤ 31) := by
  simp only [WhI.right, Bool.and_eq_true] at h
  exact ⟨register_rng h.1.1.1.2, register_rng h.1.1.2, register_rng h.1.2⟩
theorem bC_rng {cs : List Int} (h : Wc cs) {i : X} (hi : WhI.right i = true) : 0 ≤ bC cs i ∧ bC cs i < 4294967296 := by
  have hr := right_regs hi
  unfold bC
  split
  · exact WhS.u32_rng _
  · exact (h.reg hr.2.2.1 hr.2.2.2).2
theorem doesF_wc {cs : List Int} (h : Wc cs) (i : X) : Wc (doesF cs i).1 := by
  have h0 : Wc (cs.set 0 0) := h.set ⟨by decide, by decide⟩
  unfold doesF
  split
  · exact h0
  · rename_i hr
    have hr : WhI.right i = true := by simpa using hr
    have hrr := right_regs hr
    split
    · exact h0.setC (WhS.u32_rng _)
    · split
      · exact h0.setC (WhS.u32_rng _)
      · split
        · exact h0
        · exact h0.setC (WhS.wdo_rng (h0.reg hrr.2.1.1 hrr.2.1.2).2 (bC_rng h0 hr))
end Wh.WhC
