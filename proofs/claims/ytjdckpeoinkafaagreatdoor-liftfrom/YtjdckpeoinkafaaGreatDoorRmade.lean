/- A part of the walk through the code: contracts of functions, printed by a program of the prover. -/
import Derived.Test.YtjdckpeoinkafaaGreatDoorReleven
set_option linter.all false
namespace Wh
open Go Go.Proofs WhS
set_option maxRecDepth 100000
theorem rplain_yes {B : Nat} {w0 w : World} {q n : Nat} {rec : Rec} (h : RopOK B w0 q n rec) {D : List T} {c : Ck} {Ls : List Ck} {mk : Ck → List Ck} {op a b v : Int} {r : Int × List T} (hc : RdC q D c) (hD : Wf D) (hg : Rng D) (hlen : D.length + (n + 1) < 1073741824) (ha : In D a) (hb0 : In D b) (hv0 : v = (known D b).1) (ho : WhP.isOp op = true) (hno : (rplain op a b v).isNo = false) (hr : exec rec D op a b (rplain op a b v) = some r) (H : Hp B w0 w Ls) (hbc : HasC Ls c mk := by infer_instance) :
    Calls Tryz.prog 65 #[.pointer (some ⟨q, 0, none⟩), .int .i64 op, .int .i64 a, .int .i64 b] w fun e w' => e = .returned (.tuple #[.int .i64 r.1, .bool true]) ∧ ∃ c', RdC q r.2 c' ∧ Hp B w0 w' (mk c') := by
  obtain ⟨R, H1, back⟩ := H.pick (h := hbc)
  have hs := rplain2_spec h hc hD hg hlen ha hb0 hv0 ho (r := r) (fun _ => hr) H1
  simp only [outS, hno, Bool.false_eq_true, if_false] at hs
  exact hs.mono fun e w' ⟨h1, c', h2, h3⟩ => ⟨h1, c', h2, back _ _ h3⟩
theorem rplain_no {B : Nat} {w0 w : World} {q n : Nat} {rec : Rec} (h : RopOK B w0 q n rec) {D : List T} {c : Ck} {Ls : List Ck} {mk : Ck → List Ck} {op a b v : Int} {r : Int × List T} (hc : RdC q D c) (hD : Wf D) (hg : Rng D) (hlen : D.length + (n + 1) < 1073741824) (ha : In D a) (hb0 : In D b) (hv0 : v = (known D b).1) (ho : WhP.isOp op = true) (hno : (rplain op a b v).isNo = true) (H : Hp B w0 w Ls) (hbc : HasC Ls c mk := by infer_instance) :
    Calls Tryz.prog 65 #[.pointer (some ⟨q, 0, none⟩), .int .i64 op, .int .i64 a, .int .i64 b] w fun e w' => e = .returned (.tuple #[.int .i64 0, .bool false]) ∧ ∃ c', RdC q D c' ∧ Hp B w0 w' (mk c') := by
  obtain ⟨R, H1, back⟩ := H.pick (h := hbc)
  have hs := rplain2_spec h hc hD hg hlen ha hb0 hv0 ho (r := r) (fun hh => absurd hh (by rw [hno]; exact Bool.noConfusion)) H1
  simp only [outS, hno, if_true] at hs
  exact hs.mono fun e w' ⟨h1, c', h2, h3⟩ => ⟨h1, c', h2, back _ _ h3⟩
theorem rdeep_yes {B : Nat} {w0 w : World} {q n : Nat} {rec : Rec} (h : RopOK B w0 q n rec) {D : List T} {c : Ck} {Ls : List Ck} {mk : Ck → List Ck} {op a b v : Int} {r : Int × List T} (hc : RdC q D c) (hD : Wf D) (hg : Rng D) (hlen : D.length + (n + 1) < 1073741824) (ha : In D a) (hv : 0 ≤ v ∧ v < 4294967296) (ho : WhP.isOp op = true) (hno : (rdeep D op a v).isNo = false) (hr : exec rec D op a b (rdeep D op a v) = some r) (H : Hp B w0 w Ls) (hbc : HasC Ls c mk := by infer_instance) :
    Calls Tryz.prog 66 #[.pointer (some ⟨q, 0, none⟩), .int .i64 op, .int .i64 a, .int .u32 v] w fun e w' => e = .returned (.tuple #[.int .i64 r.1, .bool true]) ∧ ∃ c', RdC q r.2 c' ∧ Hp B w0 w' (mk c') := by
  obtain ⟨R, H1, back⟩ := H.pick (h := hbc)
  have hs := rdeep_spec (b := b) h hc hD hg hlen ha hv ho (r := r) (fun _ => hr) H1
  simp only [outS, hno, Bool.false_eq_true, if_false] at hs
  exact hs.mono fun e w' ⟨h1, c', h2, h3⟩ => ⟨h1, c', h2, back _ _ h3⟩
theorem rdeep_no {B : Nat} {w0 w : World} {q n : Nat} {rec : Rec} (h : RopOK B w0 q n rec) {D : List T} {c : Ck} {Ls : List Ck} {mk : Ck → List Ck} {op a b v : Int} {r : Int × List T} (hc : RdC q D c) (hD : Wf D) (hg : Rng D) (hlen : D.length + (n + 1) < 1073741824) (ha : In D a) (hv : 0 ≤ v ∧ v < 4294967296) (ho : WhP.isOp op = true) (hno : (rdeep D op a v).isNo = true) (H : Hp B w0 w Ls) (hbc : HasC Ls c mk := by infer_instance) :
    Calls Tryz.prog 66 #[.pointer (some ⟨q, 0, none⟩), .int .i64 op, .int .i64 a, .int .u32 v] w fun e w' => e = .returned (.tuple #[.int .i64 0, .bool false]) ∧ ∃ c', RdC q D c' ∧ Hp B w0 w' (mk c') := by
  obtain ⟨R, H1, back⟩ := H.pick (h := hbc)
  have hs := rdeep_spec (b := b) h hc hD hg hlen ha hv ho (r := r) (fun hh => absurd hh (by rw [hno]; exact Bool.noConfusion)) H1
  simp only [outS, hno, if_true] at hs
  exact hs.mono fun e w' ⟨h1, c', h2, h3⟩ => ⟨h1, c', h2, back _ _ h3⟩
theorem rmade_step {B : Nat} {w0 : World} {q n : Nat} {rec : Rec} (h : RopOK B w0 q n rec) : RopOK B w0 q (n + 1) (fun D op a b => exec rec D op a b (made D op a b)) := by
  intro D c L op a b r w hc hD hg ha hIb ho hlen hr H
  have ha1 := ha.1; have ha2 := ha.2; have hb1 := hIb.1; have hb2 := hIb.2
  have hne : D ≠ [] := by intro e; subst e; simp at ha2; omega
  simp only at hr
  rw [← rmade_eq hg] at hr
  have hna := node_at_idx ha
  have hnb := node_at_idx hIb
  have hkra := hg.known a
  have hkrb := hg.known b
  have hka : known D a = ((WhD.node D a).1.v, decide ((WhD.node D a).1.kind = 0)) := rfl
  have hkb : known D b = ((WhD.node D b).1.v, decide ((WhD.node D b).1.kind = 0)) := rfl
  have hvb : (WhD.node D b).1.v = (known D b).1 := rfl
  generalize (WhD.node D a).1 = tx at *
  generalize (WhD.node D b).1 = ty at *
  have hrm : rmade D op a b = if (decide (tx.kind = 0) && decide (ty.kind = 0)) = true then .const (WhI.wdo op tx.v ty.v).1 else if (among op [27, 36, 35, 32, 37, 38, 40] && !decide (ty.kind = 0) && (decide (tx.kind = 0) || decide (a > b))) = true then .call op b a
      else if (decide (op = 28) && decide (ty.kind = 0)) = true then .goes 27 a (IntKind.u32.wrap (0 - ty.v)) else if (decide (ty.kind = 0) && !(rword D op a b ty.v).isNo) = true then rword D op a b ty.v else rtail op a b := by
    unfold rmade
    rw [hka, hkb]
  rw [hrm] at hr
  rw [hka] at hkra
  rw [hkb] at hkrb
  simp only at hkra hkrb
  obtain ⟨sa, cap, H, hsa, back⟩ := rd_row hc H
  obtain ⟨g, rfl⟩ := hsa hne
  refine calls_go Tryz.func37 Tryz.ntmps37 rfl rfl ?_
  refine TW.seq ?_
  refine TW.region ?_
  refine LW.v (r_as) ?_
  refine LW.v (r_as) ?_
  refine LW.nil ?_
  refine TW.seq <| TW.seq ?_
  refine TW.join1 H [(0, .pointer (some ⟨q, 0, none⟩)), (1, .int .i64 op), (2, .int .i64 a), (3, .int .i64 b), (42, .bool false)] (fun go => ?_) (fun f w H => ?_)
  · refine TW.region ?_
    refine LW.v (r_mv) ?_
    refine LW.v (r_bin) ?_
    refine LW.v (r_mv) ?_
    refine LW.gen fun b hb => ?_; cases b
    · have hr0 := hb.symm; have hc0 := hb.symm; try simp only [beq_iff_eq, bne_iff_ne, beq_eq_false_iff_ne, bne_eq_false_iff_eq, decide_eq_true_eq, decide_eq_false_iff_not, Bool.not_eq_true', Bool.not_eq_false', Bool.true_eq, Bool.false_eq, ge_iff_le, gt_iff_lt, Bool.not_eq_eq_eq_not, Bool.not_true, Bool.not_false, ne_eq] at hc0
      refine LW.yes (by rfl) (by rfl) (by rfl) (by rfl) (by rfl) ?_
      refine LW.v (r_mv) ?_
      refine LW.yes (by rfl) (by rfl) (by rfl) (by rfl) (by rfl) ?_
      refine LW.v (r_mv) ?_
      refine LW.yes (by rfl) (by rfl) (by rfl) (by rfl) (by rfl) ?_
      refine LW.v (r_nil) ?_
      refine LW.yes (by rfl) (by rfl) (by rfl) (by rfl) (by rfl) ?_
      refine LW.v (r_fa) ?_
      refine LW.yes (by rfl) (by rfl) (by rfl) (by rfl) (by rfl) ?_
      refine LW.v (r_ld H) ?_
      refine LW.yes (by rfl) (by rfl) (by rfl) (by rfl) (by rfl) ?_
      refine LW.v (r_len) ?_
      refine LW.yes (by rfl) (by rfl) (by rfl) (by rfl) (by rfl) ?_
      refine LW.v (r_bin) ?_
      refine LW.v (r_pick) ?_
      refine LW.v (r_mv) ?_
      refine LW.gen fun b hb => ?_; cases b
      · have hr1 := hb.symm; have hc1 := hb.symm; try simp only [beq_iff_eq, bne_iff_ne, beq_eq_false_iff_ne, bne_eq_false_iff_eq, decide_eq_true_eq, decide_eq_false_iff_not, Bool.not_eq_true', Bool.not_eq_false', Bool.true_eq, Bool.false_eq, ge_iff_le, gt_iff_lt, Bool.not_eq_eq_eq_not, Bool.not_true, Bool.not_false, ne_eq] at hc1
        refine LW.yes (by rfl) (by rfl) (by rfl) (by rfl) (by rfl) ?_
        refine LW.v (r_mv) ?_
        refine LW.yes (by rfl) (by rfl) (by rfl) (by rfl) (by rfl) ?_
        refine LW.v (r_bin) ?_
        refine LW.v (r_pick) ?_
        refine LW.v (r_mv) ?_
        refine LW.gen fun b hb => ?_; cases b
        · have hr2 := hb.symm; have hc2 := hb.symm; try simp only [beq_iff_eq, bne_iff_ne, beq_eq_false_iff_ne, bne_eq_false_iff_eq, decide_eq_true_eq, decide_eq_false_iff_not, Bool.not_eq_true', Bool.not_eq_false', Bool.true_eq, Bool.false_eq, ge_iff_le, gt_iff_lt, Bool.not_eq_eq_eq_not, Bool.not_true, Bool.not_false, ne_eq] at hc2
          refine LW.yes (by rfl) (by rfl) (by rfl) (by rfl) (by rfl) ?_
          refine LW.v (r_mv) ?_
          refine LW.yes (by rfl) (by rfl) (by rfl) (by rfl) (by rfl) ?_
          refine LW.v (r_mv) ?_
          refine LW.yes (by rfl) (by rfl) (by rfl) (by rfl) (by rfl) ?_
          refine LW.v (r_nil) ?_
          refine LW.yes (by rfl) (by rfl) (by rfl) (by rfl) (by rfl) ?_
          refine LW.v (r_fa) ?_
          refine LW.yes (by rfl) (by rfl) (by rfl) (by rfl) (by rfl) ?_
          refine LW.v (r_ld H) ?_
          refine LW.yes (by rfl) (by rfl) (by rfl) (by rfl) (by rfl) ?_
          refine LW.v (r_len) ?_
          refine LW.yes (by rfl) (by rfl) (by rfl) (by rfl) (by rfl) ?_
          refine LW.v (r_bin) ?_
          refine LW.v (r_pick) ?_
          refine LW.nil ?_
          exact go _ _ H ⟨rfl, rfl, rfl, rfl, congrArg Value.bool (by first | rfl | (simp [hc0, hc1, hc2]; done) | (exfalso; omega)  | exact Bool.noConfusion (hc0.symm.trans hc1) | exact Bool.noConfusion (hc0.symm.trans hc2) | exact Bool.noConfusion (hc1.symm.trans hc2) | (simp; omega)), trivial⟩
        · have hr2 := hb.symm; have hc2 := hb.symm; try simp only [beq_iff_eq, bne_iff_ne, beq_eq_false_iff_ne, bne_eq_false_iff_eq, decide_eq_true_eq, decide_eq_false_iff_not, Bool.not_eq_true', Bool.not_eq_false', Bool.true_eq, Bool.false_eq, ge_iff_le, gt_iff_lt, Bool.not_eq_eq_eq_not, Bool.not_true, Bool.not_false, ne_eq] at hc2
          refine LW.no (by rfl) (by rfl) (by rfl) (by rfl) (by rfl) (by rfl) ?_
          refine LW.no (by rfl) (by rfl) (by rfl) (by rfl) (by rfl) (by rfl) ?_
          refine LW.no (by rfl) (by rfl) (by rfl) (by rfl) (by rfl) (by rfl) ?_
          refine LW.no (by rfl) (by rfl) (by rfl) (by rfl) (by rfl) (by rfl) ?_
          refine LW.no (by rfl) (by rfl) (by rfl) (by rfl) (by rfl) (by rfl) ?_
          refine LW.no (by rfl) (by rfl) (by rfl) (by rfl) (by rfl) (by rfl) ?_
          refine LW.no (by rfl) (by rfl) (by rfl) (by rfl) (by rfl) (by rfl) ?_
          refine LW.v (r_pick) ?_
          refine LW.nil ?_
          exact go _ _ H ⟨rfl, rfl, rfl, rfl, congrArg Value.bool (by first | rfl | (simp [hc0, hc1, hc2]; done) | (exfalso; omega)  | exact Bool.noConfusion (hc0.symm.trans hc1) | exact Bool.noConfusion (hc0.symm.trans hc2) | exact Bool.noConfusion (hc1.symm.trans hc2) | (simp; omega)), trivial⟩
      · have hr1 := hb.symm; have hc1 := hb.symm; try simp only [beq_iff_eq, bne_iff_ne, beq_eq_false_iff_ne, bne_eq_false_iff_eq, decide_eq_true_eq, decide_eq_false_iff_not, Bool.not_eq_true', Bool.not_eq_false', Bool.true_eq, Bool.false_eq, ge_iff_le, gt_iff_lt, Bool.not_eq_eq_eq_not, Bool.not_true, Bool.not_false, ne_eq] at hc1
        refine LW.no (by rfl) (by rfl) (by rfl) (by rfl) (by rfl) (by rfl) ?_
        refine LW.no (by rfl) (by rfl) (by rfl) (by rfl) (by rfl) (by rfl) ?_
        refine LW.v (r_pick) ?_
        refine LW.v (r_mv) ?_
        refine LW.no (by rfl) (by rfl) (by rfl) (by rfl) (by rfl) (by rfl) ?_
        refine LW.no (by rfl) (by rfl) (by rfl) (by rfl) (by rfl) (by rfl) ?_
        refine LW.no (by rfl) (by rfl) (by rfl) (by rfl) (by rfl) (by rfl) ?_
        refine LW.no (by rfl) (by rfl) (by rfl) (by rfl) (by rfl) (by rfl) ?_
        refine LW.no (by rfl) (by rfl) (by rfl) (by rfl) (by rfl) (by rfl) ?_
        refine LW.no (by rfl) (by rfl) (by rfl) (by rfl) (by rfl) (by rfl) ?_
        refine LW.no (by rfl) (by rfl) (by rfl) (by rfl) (by rfl) (by rfl) ?_
        refine LW.v (r_pick) ?_
        refine LW.nil ?_
        exact go _ _ H ⟨rfl, rfl, rfl, rfl, congrArg Value.bool (by first | rfl | (simp [hc0, hc1]; done) | (exfalso; omega)  | exact Bool.noConfusion (hc0.symm.trans hc1) | (simp; omega)), trivial⟩
    · have hr0 := hb.symm; have hc0 := hb.symm; try simp only [beq_iff_eq, bne_iff_ne, beq_eq_false_iff_ne, bne_eq_false_iff_eq, decide_eq_true_eq, decide_eq_false_iff_not, Bool.not_eq_true', Bool.not_eq_false', Bool.true_eq, Bool.false_eq, ge_iff_le, gt_iff_lt, Bool.not_eq_eq_eq_not, Bool.not_true, Bool.not_false, ne_eq] at hc0
      refine LW.no (by rfl) (by rfl) (by rfl) (by rfl) (by rfl) (by rfl) ?_
      refine LW.no (by rfl) (by rfl) (by rfl) (by rfl) (by rfl) (by rfl) ?_
      refine LW.no (by rfl) (by rfl) (by rfl) (by rfl) (by rfl) (by rfl) ?_
      refine LW.no (by rfl) (by rfl) (by rfl) (by rfl) (by rfl) (by rfl) ?_
      refine LW.no (by rfl) (by rfl) (by rfl) (by rfl) (by rfl) (by rfl) ?_
      refine LW.no (by rfl) (by rfl) (by rfl) (by rfl) (by rfl) (by rfl) ?_
      refine LW.no (by rfl) (by rfl) (by rfl) (by rfl) (by rfl) (by rfl) ?_
      refine LW.v (r_pick) ?_
      refine LW.v (r_mv) ?_
      refine LW.no (by rfl) (by rfl) (by rfl) (by rfl) (by rfl) (by rfl) ?_
      refine LW.no (by rfl) (by rfl) (by rfl) (by rfl) (by rfl) (by rfl) ?_
      refine LW.v (r_pick) ?_
      refine LW.v (r_mv) ?_
      refine LW.no (by rfl) (by rfl) (by rfl) (by rfl) (by rfl) (by rfl) ?_
      refine LW.no (by rfl) (by rfl) (by rfl) (by rfl) (by rfl) (by rfl) ?_
      refine LW.no (by rfl) (by rfl) (by rfl) (by rfl) (by rfl) (by rfl) ?_
      refine LW.no (by rfl) (by rfl) (by rfl) (by rfl) (by rfl) (by rfl) ?_
      refine LW.no (by rfl) (by rfl) (by rfl) (by rfl) (by rfl) (by rfl) ?_
      refine LW.no (by rfl) (by rfl) (by rfl) (by rfl) (by rfl) (by rfl) ?_
      refine LW.no (by rfl) (by rfl) (by rfl) (by rfl) (by rfl) (by rfl) ?_
      refine LW.v (r_pick) ?_
      refine LW.nil ?_
      exact go _ _ H ⟨rfl, rfl, rfl, rfl, congrArg Value.bool (by first | rfl | (simp [hc0]; done) | (exfalso; omega)  | (simp; omega)), trivial⟩
  refine TW.c rfl (fun h => by cases h) (fun _ => ?_)
  refine TW.skip <| TW.seq ?_
  refine TW.region ?_
  refine LW.v (r_mv) ?_
  refine LW.c r_c3 ((rdo0_spec _ _ _ _ op H).mono ?_)
  rintro _ w ⟨rfl, H⟩
  refine ⟨_, rfl, ?_⟩
  refine LW.v (r_mv) ?_
  refine LW.v (r_ext) ?_
  refine LW.v (r_ext) ?_
  refine LW.v (r_as) ?_
  refine LW.v (r_as) ?_
  refine LW.nil ?_
  refine TW.seq <| TW.seq ?_
  refine TW.region ?_
  refine LW.v (r_mv) ?_
  refine LW.v (r_bin) ?_
  refine LW.nil ?_
  refine TW.c rfl (fun h => absurd h (by simp [isOp_wdo ho])) (fun _ => ?_)
  refine TW.skip <| TW.seq ?_
  refine TW.joinG (σ := Nat × Nat) (fun s w' => Hp B w0 w' (Blk s.2 68 ty.cells.toArray :: Blk s.1 68 tx.cells.toArray :: Blk q 67 #[.slice (some ⟨g, 0, none⟩) D.length cap] :: Row 68 5 (.slice (some ⟨g, 0, none⟩) D.length cap) D.length (rowOf T.val D) :: L)) (fun s => [(0, .pointer (some ⟨q, 0, none⟩)), (1, .int .i64 op), (2, .int .i64 a), (3, .int .i64 b), (12, .pointer (some ⟨s.1, 0, none⟩)), (13, .pointer (some ⟨s.2, 0, none⟩))]) (fun go => ?_) ?_
  · refine TW.drawE [(none, none, fun w => Hp B w0 w (Blk q 67 #[.slice (some ⟨g, 0, none⟩) D.length cap] :: Row 68 5 (.slice (some ⟨g, 0, none⟩) D.length cap) D.length (rowOf T.val D) :: L))] hmix (by kernel_rfl) (fun _ _ _ _ _ h => h) H (fun w H => (Sat.cons (fun _ _ => (by first | exact H | exact H.drop | exact H.drop.drop)) Sat.nil)) ?_
    intro w H
    refine EW.v (i := 0) (by kernel_rfl) (by rfl) (by kernel_rfl) (Quiet.y (fun _ _ => r_mv)) ?_
    refine EW.v (i := 1) (by kernel_rfl) (by rfl) (by kernel_rfl) (Quiet.y (fun _ _ => r_nil)) ?_
    refine EW.v (i := 2) (by kernel_rfl) (by rfl) (by kernel_rfl) (Quiet.y (fun _ _ => r_fa)) ?_
    refine EW.m (j := 0) (i := 3) (by kernel_rfl) (by rfl) (by kernel_rfl) rfl rfl rfl (Quiet.y (fun _ h => r_ld h)) ?_
    refine EW.v (i := 4) (by kernel_rfl) (by rfl) (by kernel_rfl) (Quiet.y (fun _ _ => r_mv)) ?_
    refine EW.v (i := 5) (by kernel_rfl) (by rfl) (by kernel_rfl) (Quiet.y (fun _ _ => r_iaS (h0 := ha1) (h1 := ha2))) ?_
    refine EW.m (j := 0) (i := 6) (by kernel_rfl) (by rfl) (by kernel_rfl) rfl rfl rfl (Quiet.y (fun _ h => r_ldR (i := a.toNat) (enc := T.val) (rowR (g := g) (cap := cap) (m := D.length) h) hna (fun _ => rfl) (size := 5))) ?_
    refine EW.v (i := 7) (by kernel_rfl) (by rfl) (by kernel_rfl) (Quiet.y (fun _ _ => r_mv)) ?_
    refine EW.v (i := 8) (by kernel_rfl) (by rfl) (by kernel_rfl) (Quiet.y (fun _ _ => r_nil)) ?_
    refine EW.v (i := 9) (by kernel_rfl) (by rfl) (by kernel_rfl) (Quiet.y (fun _ _ => r_fa)) ?_
    refine EW.m (j := 0) (i := 10) (by kernel_rfl) (by rfl) (by kernel_rfl) rfl rfl rfl (Quiet.y (fun _ h => r_ld h)) ?_
    refine EW.v (i := 11) (by kernel_rfl) (by rfl) (by kernel_rfl) (Quiet.y (fun _ _ => r_mv)) ?_
    refine EW.v (i := 12) (by kernel_rfl) (by rfl) (by kernel_rfl) (Quiet.y (fun _ _ => r_iaS (h0 := hb1) (h1 := hb2))) ?_
    refine EW.m (j := 0) (i := 13) (by kernel_rfl) (by rfl) (by kernel_rfl) rfl rfl rfl (Quiet.y (fun _ h => r_ldR (i := b.toNat) (enc := T.val) (rowR (g := g) (cap := cap) (m := D.length) h) hnb (fun _ => rfl) (size := 5))) ?_
    refine EW.loud 14 [15] (by kernel_rfl) ?_
    intro i hi
    simp only [List.mem_cons, List.not_mem_nil, or_false] at hi
    rcases hi with rfl | rfl
    · refine ⟨_, rfl, ?_⟩
      refine LW.new (r_al H) ?_; intro g12 w H
      refine LW.nil ⟨(Sat.cons (fun _ _ => (by first | exact H | exact H.drop | exact H.drop.drop)) Sat.nil), ?_⟩
      refine EW.loud 15 [] (by kernel_rfl) ?_
      intro i hi
      simp only [List.mem_cons, List.not_mem_nil, or_false] at hi
      subst hi
      refine ⟨_, rfl, ?_⟩
      refine LW.new (r_al H) ?_; intro g13 w H
      refine LW.nil ⟨(Sat.cons (fun _ _ => (by first | exact H | exact H.drop | exact H.drop.drop)) Sat.nil), ?_⟩
      refine EW.loud 16 [] (by kernel_rfl) ?_
      intro i hi
      simp only [List.mem_cons, List.not_mem_nil, or_false] at hi
      subst hi
      refine ⟨_, rfl, ?_⟩
      refine LW.sto (r_stW H (vs := tx.cells.toArray)) ?_; intro w H
      refine LW.nil ⟨(Sat.cons (fun _ _ => (by first | exact H | exact H.drop | exact H.drop.drop)) Sat.nil), ?_⟩
      refine EW.loud 17 [] (by kernel_rfl) ?_
      intro i hi
      simp only [List.mem_cons, List.not_mem_nil, or_false] at hi
      subst hi
      refine ⟨_, rfl, ?_⟩
      refine LW.sto (r_stW H (vs := ty.cells.toArray)) ?_; intro w H
      refine LW.nil ⟨(Sat.cons (fun _ _ => (by first | exact H | exact H.drop | exact H.drop.drop)) Sat.nil), ?_⟩
      refine EW.nil (by kernel_rfl) (fun _ => ?_)
      exact go (g12, g13) _ _ (by first | exact H | exact H.swap) ⟨rfl, rfl, rfl, rfl, rfl, rfl, trivial⟩
    · refine ⟨_, rfl, ?_⟩
      refine LW.new (r_al H) ?_; intro g13 w H
      refine LW.nil ⟨(Sat.cons (fun _ _ => (by first | exact H | exact H.drop | exact H.drop.drop)) Sat.nil), ?_⟩
      refine EW.loud 14 [] (by kernel_rfl) ?_
      intro i hi
      simp only [List.mem_cons, List.not_mem_nil, or_false] at hi
      subst hi
      refine ⟨_, rfl, ?_⟩
      refine LW.new (r_al H) ?_; intro g12 w H
      refine LW.nil ⟨(Sat.cons (fun _ _ => (by first | exact H | exact H.drop | exact H.drop.drop)) Sat.nil), ?_⟩
      refine EW.loud 16 [] (by kernel_rfl) ?_
      intro i hi
      simp only [List.mem_cons, List.not_mem_nil, or_false] at hi
      subst hi
      refine ⟨_, rfl, ?_⟩
      refine LW.sto (r_stW H (vs := tx.cells.toArray)) ?_; intro w H
      refine LW.nil ⟨(Sat.cons (fun _ _ => (by first | exact H | exact H.drop | exact H.drop.drop)) Sat.nil), ?_⟩
      refine EW.loud 17 [] (by kernel_rfl) ?_
      intro i hi
      simp only [List.mem_cons, List.not_mem_nil, or_false] at hi
      subst hi
      refine ⟨_, rfl, ?_⟩
      refine LW.sto (r_stW H (vs := ty.cells.toArray)) ?_; intro w H
      refine LW.nil ⟨(Sat.cons (fun _ _ => (by first | exact H | exact H.drop | exact H.drop.drop)) Sat.nil), ?_⟩
      refine EW.nil (by kernel_rfl) (fun _ => ?_)
      exact go (g12, g13) _ _ (by first | exact H | exact H.swap) ⟨rfl, rfl, rfl, rfl, rfl, rfl, trivial⟩
  rintro ⟨g12, g13⟩ f w H
  simp only at H ⊢
  have H := H.perm (List.Perm.append_right L (List.perm_append_comm (l₁ := [Blk g13 68 ty.cells.toArray, Blk g12 68 tx.cells.toArray]) (l₂ := [Blk q 67 #[.slice (some ⟨g, 0, none⟩) D.length cap], Row 68 5 (.slice (some ⟨g, 0, none⟩) D.length cap) D.length (rowOf T.val D)])))
  have H : Hp B w0 w (c :: Blk g13 68 ty.cells.toArray :: Blk g12 68 tx.cells.toArray :: L) := back _ _ H
  refine TW.seq <| TW.seq ?_
  refine TW.join1 H [(0, .pointer (some ⟨q, 0, none⟩)), (1, .int .i64 op), (2, .int .i64 a), (3, .int .i64 b), (12, .pointer (some ⟨g12, 0, none⟩)), (13, .pointer (some ⟨g13, 0, none⟩)), (71, .bool (decide (tx.kind = 0) && decide (ty.kind = 0)))] (fun go => ?_) (fun f w H => ?_)
  · refine TW.region ?_
    refine LW.v (r_fa) ?_
    refine LW.v (r_ld H) ?_
    refine LW.v (r_bin) ?_
    refine LW.v (r_mv) ?_
    refine LW.gen fun b hb => ?_; cases b
    · have hr0 := hb.symm; have hc0 := hb.symm; try simp only [beq_iff_eq, bne_iff_ne, beq_eq_false_iff_ne, bne_eq_false_iff_eq, decide_eq_true_eq, decide_eq_false_iff_not, Bool.not_eq_true', Bool.not_eq_false', Bool.true_eq, Bool.false_eq, ge_iff_le, gt_iff_lt, Bool.not_eq_eq_eq_not, Bool.not_true, Bool.not_false, ne_eq] at hc0
      refine LW.no (by rfl) (by rfl) (by rfl) (by rfl) (by rfl) (by rfl) ?_
      refine LW.no (by rfl) (by rfl) (by rfl) (by rfl) (by rfl) (by rfl) ?_
      refine LW.no (by rfl) (by rfl) (by rfl) (by rfl) (by rfl) (by rfl) ?_
      refine LW.v (r_pick) ?_
      refine LW.nil ?_
      exact go _ _ H ⟨rfl, rfl, rfl, rfl, rfl, rfl, congrArg Value.bool (by first | rfl | (simp [hc0]; done) | (exfalso; omega)  | (simp; omega)), trivial⟩
    · have hr0 := hb.symm; have hc0 := hb.symm; try simp only [beq_iff_eq, bne_iff_ne, beq_eq_false_iff_ne, bne_eq_false_iff_eq, decide_eq_true_eq, decide_eq_false_iff_not, Bool.not_eq_true', Bool.not_eq_false', Bool.true_eq, Bool.false_eq, ge_iff_le, gt_iff_lt, Bool.not_eq_eq_eq_not, Bool.not_true, Bool.not_false, ne_eq] at hc0
      refine LW.yes (by rfl) (by rfl) (by rfl) (by rfl) (by rfl) ?_
      refine LW.v (r_fa) ?_
      refine LW.yes (by rfl) (by rfl) (by rfl) (by rfl) (by rfl) ?_
      refine LW.v (r_ld H) ?_
      refine LW.yes (by rfl) (by rfl) (by rfl) (by rfl) (by rfl) ?_
      refine LW.v (r_bin) ?_
      refine LW.v (r_pick) ?_
      refine LW.nil ?_
      exact go _ _ H ⟨rfl, rfl, rfl, rfl, rfl, rfl, congrArg Value.bool (by first | rfl | (simp [hc0]; done) | (exfalso; omega)  | (simp; omega)), trivial⟩
  refine TW.c rfl (fun hb => ?_) (fun hb => ?_)
  · have hr0 := hb; have hc0 := hb; try simp only [beq_iff_eq, bne_iff_ne, beq_eq_false_iff_ne, bne_eq_false_iff_eq, decide_eq_true_eq, decide_eq_false_iff_not, Bool.not_eq_true', Bool.not_eq_false', Bool.true_eq, Bool.false_eq, ge_iff_le, gt_iff_lt, Bool.not_eq_eq_eq_not, Bool.not_true, Bool.not_false, ne_eq] at hc0
    refine TW.seq ?_
    rw [if_pos hr0] at hr
    refine TW.region ?_
    refine LW.v (r_mv) ?_
    refine LW.v (r_fa) ?_
    refine LW.v (r_ld H) ?_
    refine LW.v (r_fa) ?_
    refine LW.v (r_ld H) ?_
    refine LW.c r_c3 ((rdo_word _ _ _ _ op tx.v ty.v hkra hkrb H).mono ?_)
    rintro _ w ⟨rfl, H⟩
    refine ⟨_, rfl, ?_⟩
    refine LW.v (r_mv) ?_
    refine LW.v (r_ext) ?_
    refine LW.v (r_ext) ?_
    refine LW.v (r_as) ?_
    refine LW.v (r_as) ?_
    refine LW.nil ?_
    refine TW.seq ?_
    refine TW.region ?_
    refine LW.v (r_mv) ?_
    refine LW.v (r_mv) ?_
    refine LW.c r_c2 ((rconst_at q D (WhI.wdo op tx.v ty.v).1 hc (by omega) H).mono ?_)
    rintro _ w ⟨rfl, c', hc', H⟩
    refine ⟨_, rfl, ?_⟩
    refine LW.v (r_as) ?_
    refine LW.v (r_as) ?_
    refine LW.nil ?_
    refine TW.ret (ret2 (by rfl) rT rT ?_)
    obtain rfl : addT D (K (WhI.wdo op tx.v ty.v).1) = r := Option.some.inj hr
    exact ⟨rfl, c', hc', H.dropAt 1 |>.dropAt 1⟩
  · have hr0 := hb; have hc0 := hb; try simp only [beq_iff_eq, bne_iff_ne, beq_eq_false_iff_ne, bne_eq_false_iff_eq, decide_eq_true_eq, decide_eq_false_iff_not, Bool.not_eq_true', Bool.not_eq_false', Bool.true_eq, Bool.false_eq, ge_iff_le, gt_iff_lt, Bool.not_eq_eq_eq_not, Bool.not_true, Bool.not_false, ne_eq] at hc0
    refine TW.skip <| TW.seq ?_
    refine TW.region ?_
    refine LW.v (r_mv) ?_
    refine LW.new (r_bsl H [.int .i64 27, .int .i64 36, .int .i64 35, .int .i64 32, .int .i64 37, .int .i64 38, .int .i64 40] [.int .i64 27, .int .i64 36, .int .i64 35, .int .i64 32, .int .i64 37, .int .i64 38, .int .i64 40] rfl rfl (hv := by simp [Value.cells])) ?_; intro gb w H
    refine LW.c r_c2 ((rin_lit op [27, 36, 35, 32, 37, 38, 40] H rfl (by decide)).mono ?_)
    rintro _ w ⟨rfl, H⟩
    refine ⟨_, rfl, ?_⟩
    refine LW.v (r_as) ?_
    refine LW.nil ?_
    refine TW.seq <| TW.seq ?_
    refine TW.join1 H [(0, .pointer (some ⟨q, 0, none⟩)), (1, .int .i64 op), (2, .int .i64 a), (3, .int .i64 b), (12, .pointer (some ⟨g12, 0, none⟩)), (13, .pointer (some ⟨g13, 0, none⟩)), (102, .bool (among op [27, 36, 35, 32, 37, 38, 40] && !decide (ty.kind = 0) && (decide (tx.kind = 0) || decide (a > b))))] (fun go => ?_) (fun f w H => ?_)
    · refine TW.region ?_
      refine LW.v (r_mv) ?_
      refine LW.v (r_mv) ?_
      refine LW.gen fun b hb => ?_; cases b
      · have hr1 := hb.symm; have hc1 := hb.symm; try simp only [beq_iff_eq, bne_iff_ne, beq_eq_false_iff_ne, bne_eq_false_iff_eq, decide_eq_true_eq, decide_eq_false_iff_not, Bool.not_eq_true', Bool.not_eq_false', Bool.true_eq, Bool.false_eq, ge_iff_le, gt_iff_lt, Bool.not_eq_eq_eq_not, Bool.not_true, Bool.not_false, ne_eq] at hc1
        refine LW.no (by rfl) (by rfl) (by rfl) (by rfl) (by rfl) (by rfl) ?_
        refine LW.no (by rfl) (by rfl) (by rfl) (by rfl) (by rfl) (by rfl) ?_
        refine LW.no (by rfl) (by rfl) (by rfl) (by rfl) (by rfl) (by rfl) ?_
        refine LW.v (r_pick) ?_
        refine LW.v (r_mv) ?_
        refine LW.no (by rfl) (by rfl) (by rfl) (by rfl) (by rfl) (by rfl) ?_
        refine LW.no (by rfl) (by rfl) (by rfl) (by rfl) (by rfl) (by rfl) ?_
        refine LW.no (by rfl) (by rfl) (by rfl) (by rfl) (by rfl) (by rfl) ?_
        refine LW.no (by rfl) (by rfl) (by rfl) (by rfl) (by rfl) (by rfl) ?_
        refine LW.nou (by rfl) (by rfl) (by rfl) (by rfl) (by rfl) ?_
        refine LW.nou (by rfl) (by rfl) (by rfl) (by rfl) (by rfl) ?_
        refine LW.nou (by rfl) (by rfl) (by rfl) (by rfl) (by rfl) ?_
        refine LW.no (by rfl) (by rfl) (by rfl) (by rfl) (by rfl) (by rfl) ?_
        refine LW.v (r_pick) ?_
        refine LW.nil ?_
        exact go _ _ H ⟨rfl, rfl, rfl, rfl, rfl, rfl, congrArg Value.bool (by first | rfl | (simp [hc0, hc1]; done) | (exfalso; omega)  | exact Bool.noConfusion (hc0.symm.trans hc1) | (simp; omega)), trivial⟩
      · have hr1 := hb.symm; have hc1 := hb.symm; try simp only [beq_iff_eq, bne_iff_ne, beq_eq_false_iff_ne, bne_eq_false_iff_eq, decide_eq_true_eq, decide_eq_false_iff_not, Bool.not_eq_true', Bool.not_eq_false', Bool.true_eq, Bool.false_eq, ge_iff_le, gt_iff_lt, Bool.not_eq_eq_eq_not, Bool.not_true, Bool.not_false, ne_eq] at hc1
        refine LW.yes (by rfl) (by rfl) (by rfl) (by rfl) (by rfl) ?_
        refine LW.v (r_fa) ?_
        refine LW.yes (by rfl) (by rfl) (by rfl) (by rfl) (by rfl) ?_
        refine LW.v (r_ld H) ?_
        refine LW.yes (by rfl) (by rfl) (by rfl) (by rfl) (by rfl) ?_
        refine LW.v (r_bin) ?_
        refine LW.v (r_pick) ?_
        refine LW.v (r_mv) ?_
        refine LW.gen fun b hb => ?_; cases b
        · have hr2 := hb.symm; have hc2 := hb.symm; try simp only [beq_iff_eq, bne_iff_ne, beq_eq_false_iff_ne, bne_eq_false_iff_eq, decide_eq_true_eq, decide_eq_false_iff_not, Bool.not_eq_true', Bool.not_eq_false', Bool.true_eq, Bool.false_eq, ge_iff_le, gt_iff_lt, Bool.not_eq_eq_eq_not, Bool.not_true, Bool.not_false, ne_eq] at hc2
          refine LW.no (by rfl) (by rfl) (by rfl) (by rfl) (by rfl) (by rfl) ?_
          refine LW.no (by rfl) (by rfl) (by rfl) (by rfl) (by rfl) (by rfl) ?_
          refine LW.no (by rfl) (by rfl) (by rfl) (by rfl) (by rfl) (by rfl) ?_
          refine LW.no (by rfl) (by rfl) (by rfl) (by rfl) (by rfl) (by rfl) ?_
          refine LW.nou (by rfl) (by rfl) (by rfl) (by rfl) (by rfl) ?_
          refine LW.nou (by rfl) (by rfl) (by rfl) (by rfl) (by rfl) ?_
          refine LW.nou (by rfl) (by rfl) (by rfl) (by rfl) (by rfl) ?_
          refine LW.no (by rfl) (by rfl) (by rfl) (by rfl) (by rfl) (by rfl) ?_
          refine LW.v (r_pick) ?_
          refine LW.nil ?_
          exact go _ _ H ⟨rfl, rfl, rfl, rfl, rfl, rfl, congrArg Value.bool (by first | rfl | (simp [hc0, hc1, hc2]; done) | (exfalso; omega)  | exact Bool.noConfusion (hc0.symm.trans hc1) | exact Bool.noConfusion (hc0.symm.trans hc2) | exact Bool.noConfusion (hc1.symm.trans hc2) | (simp; omega)), trivial⟩
        · have hr2 := hb.symm; have hc2 := hb.symm; try simp only [beq_iff_eq, bne_iff_ne, beq_eq_false_iff_ne, bne_eq_false_iff_eq, decide_eq_true_eq, decide_eq_false_iff_not, Bool.not_eq_true', Bool.not_eq_false', Bool.true_eq, Bool.false_eq, ge_iff_le, gt_iff_lt, Bool.not_eq_eq_eq_not, Bool.not_true, Bool.not_false, ne_eq] at hc2
          refine LW.yes (by rfl) (by rfl) (by rfl) (by rfl) (by rfl) ?_
          refine LW.v (r_fa) ?_
          refine LW.yes (by rfl) (by rfl) (by rfl) (by rfl) (by rfl) ?_
          refine LW.v (r_ld H) ?_
          refine LW.yes (by rfl) (by rfl) (by rfl) (by rfl) (by rfl) ?_
          refine LW.v (r_bin) ?_
          refine LW.yes (by rfl) (by rfl) (by rfl) (by rfl) (by rfl) ?_
          refine LW.v (r_mv) ?_
          refine LW.gen fun b hb => ?_; cases b
          · have hr3 := hb.symm; have hc3 := hb.symm; try simp only [beq_iff_eq, bne_iff_ne, beq_eq_false_iff_ne, bne_eq_false_iff_eq, decide_eq_true_eq, decide_eq_false_iff_not, Bool.not_eq_true', Bool.not_eq_false', Bool.true_eq, Bool.false_eq, ge_iff_le, gt_iff_lt, Bool.not_eq_eq_eq_not, Bool.not_true, Bool.not_false, ne_eq] at hc3
            refine LW.yes (by rfl) (by rfl) (by rfl) (by rfl) (by rfl) ?_
            refine LW.v (r_mv) ?_
            refine LW.yes (by rfl) (by rfl) (by rfl) (by rfl) (by rfl) ?_
            refine LW.v (r_mv) ?_
            refine LW.yes (by rfl) (by rfl) (by rfl) (by rfl) (by rfl) ?_
            refine LW.v (r_bin) ?_
            refine LW.yes (by rfl) (by rfl) (by rfl) (by rfl) (by rfl) ?_
            refine LW.v (r_pick) ?_
            refine LW.v (r_pick) ?_
            refine LW.nil ?_
            exact go _ _ H ⟨rfl, rfl, rfl, rfl, rfl, rfl, congrArg Value.bool (by first | rfl | (simp [hc0, hc1, hc2, hc3]; done) | (exfalso; omega)  | exact Bool.noConfusion (hc0.symm.trans hc1) | exact Bool.noConfusion (hc0.symm.trans hc2) | exact Bool.noConfusion (hc0.symm.trans hc3) | exact Bool.noConfusion (hc1.symm.trans hc2) | exact Bool.noConfusion (hc1.symm.trans hc3) | exact Bool.noConfusion (hc2.symm.trans hc3) | (simp; omega)), trivial⟩
          · have hr3 := hb.symm; have hc3 := hb.symm; try simp only [beq_iff_eq, bne_iff_ne, beq_eq_false_iff_ne, bne_eq_false_iff_eq, decide_eq_true_eq, decide_eq_false_iff_not, Bool.not_eq_true', Bool.not_eq_false', Bool.true_eq, Bool.false_eq, ge_iff_le, gt_iff_lt, Bool.not_eq_eq_eq_not, Bool.not_true, Bool.not_false, ne_eq] at hc3
            refine LW.no (by rfl) (by rfl) (by rfl) (by rfl) (by rfl) (by rfl) ?_
            refine LW.no (by rfl) (by rfl) (by rfl) (by rfl) (by rfl) (by rfl) ?_
            refine LW.no (by rfl) (by rfl) (by rfl) (by rfl) (by rfl) (by rfl) ?_
            refine LW.yes (by rfl) (by rfl) (by rfl) (by rfl) (by rfl) ?_
            refine LW.v (r_pick) ?_
            refine LW.v (r_pick) ?_
            refine LW.nil ?_
            exact go _ _ H ⟨rfl, rfl, rfl, rfl, rfl, rfl, congrArg Value.bool (by first | rfl | (simp [hc0, hc1, hc2, hc3]; done) | (exfalso; omega)  | exact Bool.noConfusion (hc0.symm.trans hc1) | exact Bool.noConfusion (hc0.symm.trans hc2) | exact Bool.noConfusion (hc0.symm.trans hc3) | exact Bool.noConfusion (hc1.symm.trans hc2) | exact Bool.noConfusion (hc1.symm.trans hc3) | exact Bool.noConfusion (hc2.symm.trans hc3) | (simp; omega)), trivial⟩
    refine TW.c rfl (fun hb => ?_) (fun hb => ?_)
    · have hr1 := hb; have hc1 := hb; try simp only [beq_iff_eq, bne_iff_ne, beq_eq_false_iff_ne, bne_eq_false_iff_eq, decide_eq_true_eq, decide_eq_false_iff_not, Bool.not_eq_true', Bool.not_eq_false', Bool.true_eq, Bool.false_eq, ge_iff_le, gt_iff_lt, Bool.not_eq_eq_eq_not, Bool.not_true, Bool.not_false, ne_eq] at hc1
      refine TW.seq ?_
      rw [if_neg (Bool.eq_false_iff.1 hr0), if_pos hr1] at hr
      refine TW.region ?_
      refine LW.v (r_mv) ?_
      refine LW.v (r_mv) ?_
      refine LW.v (r_mv) ?_
      refine LW.v (r_mv) ?_
      refine LW.c r_c4 ((h.at (op := op) (a := b) (b := a) hc hD hg hIb ha ho (by omega) hr H).mono ?_)
      rintro _ w ⟨rfl, c2, hc2, H⟩
      refine ⟨_, rfl, ?_⟩
      refine LW.v (r_ext) ?_
      refine LW.v (r_ext) ?_
      refine LW.v (r_as) ?_
      refine LW.v (r_as) ?_
      refine LW.nil ?_
      refine TW.ret (ret2 (by rfl) rT rT ?_)
      exact ⟨rfl, c2, hc2, H.dropAt 1 |>.dropAt 1⟩
    · have hr1 := hb; have hc1 := hb; try simp only [beq_iff_eq, bne_iff_ne, beq_eq_false_iff_ne, bne_eq_false_iff_eq, decide_eq_true_eq, decide_eq_false_iff_not, Bool.not_eq_true', Bool.not_eq_false', Bool.true_eq, Bool.false_eq, ge_iff_le, gt_iff_lt, Bool.not_eq_eq_eq_not, Bool.not_true, Bool.not_false, ne_eq] at hc1
      refine TW.skip <| TW.seq <| TW.seq ?_
      refine TW.join1 H [(0, .pointer (some ⟨q, 0, none⟩)), (1, .int .i64 op), (2, .int .i64 a), (3, .int .i64 b), (12, .pointer (some ⟨g12, 0, none⟩)), (13, .pointer (some ⟨g13, 0, none⟩)), (116, .bool (decide (op = 28) && decide (ty.kind = 0)))] (fun go => ?_) (fun f w H => ?_)
      · refine TW.region ?_
        refine LW.v (r_mv) ?_
        refine LW.v (r_bin) ?_
        refine LW.v (r_mv) ?_
        refine LW.gen fun b hb => ?_; cases b
        · have hr2 := hb.symm; have hc2 := hb.symm; try simp only [beq_iff_eq, bne_iff_ne, beq_eq_false_iff_ne, bne_eq_false_iff_eq, decide_eq_true_eq, decide_eq_false_iff_not, Bool.not_eq_true', Bool.not_eq_false', Bool.true_eq, Bool.false_eq, ge_iff_le, gt_iff_lt, Bool.not_eq_eq_eq_not, Bool.not_true, Bool.not_false, ne_eq] at hc2
          refine LW.no (by rfl) (by rfl) (by rfl) (by rfl) (by rfl) (by rfl) ?_
          refine LW.no (by rfl) (by rfl) (by rfl) (by rfl) (by rfl) (by rfl) ?_
          refine LW.no (by rfl) (by rfl) (by rfl) (by rfl) (by rfl) (by rfl) ?_
          refine LW.v (r_pick) ?_
          refine LW.nil ?_
          exact go _ _ H ⟨rfl, rfl, rfl, rfl, rfl, rfl, congrArg Value.bool (by first | rfl | (simp [hc0, hc1, hc2]; done) | (exfalso; omega)  | exact Bool.noConfusion (hc0.symm.trans hc1) | exact Bool.noConfusion (hc0.symm.trans hc2) | exact Bool.noConfusion (hc1.symm.trans hc2) | (simp; omega)), trivial⟩
        · have hr2 := hb.symm; have hc2 := hb.symm; try simp only [beq_iff_eq, bne_iff_ne, beq_eq_false_iff_ne, bne_eq_false_iff_eq, decide_eq_true_eq, decide_eq_false_iff_not, Bool.not_eq_true', Bool.not_eq_false', Bool.true_eq, Bool.false_eq, ge_iff_le, gt_iff_lt, Bool.not_eq_eq_eq_not, Bool.not_true, Bool.not_false, ne_eq] at hc2
          refine LW.yes (by rfl) (by rfl) (by rfl) (by rfl) (by rfl) ?_
          refine LW.v (r_fa) ?_
          refine LW.yes (by rfl) (by rfl) (by rfl) (by rfl) (by rfl) ?_
          refine LW.v (r_ld H) ?_
          refine LW.yes (by rfl) (by rfl) (by rfl) (by rfl) (by rfl) ?_
          refine LW.v (r_bin) ?_
          refine LW.v (r_pick) ?_
          refine LW.nil ?_
          exact go _ _ H ⟨rfl, rfl, rfl, rfl, rfl, rfl, congrArg Value.bool (by first | rfl | (simp [hc0, hc1, hc2]; done) | (exfalso; omega)  | exact Bool.noConfusion (hc0.symm.trans hc1) | exact Bool.noConfusion (hc0.symm.trans hc2) | exact Bool.noConfusion (hc1.symm.trans hc2) | (simp; omega)), trivial⟩
      refine TW.c rfl (fun hb => ?_) (fun hb => ?_)
      · have hr2 := hb; have hc2 := hb; try simp only [beq_iff_eq, bne_iff_ne, beq_eq_false_iff_ne, bne_eq_false_iff_eq, decide_eq_true_eq, decide_eq_false_iff_not, Bool.not_eq_true', Bool.not_eq_false', Bool.true_eq, Bool.false_eq, ge_iff_le, gt_iff_lt, Bool.not_eq_eq_eq_not, Bool.not_true, Bool.not_false, ne_eq] at hc2
        refine TW.seq ?_
        rw [if_neg (Bool.eq_false_iff.1 hr0), if_neg (Bool.eq_false_iff.1 hr1), if_pos hr2] at hr
        refine TW.region ?_
        refine LW.v (r_mv) ?_
        refine LW.v (r_mv) ?_
        refine LW.v (r_mv) ?_
        refine LW.v (r_fa) ?_
        refine LW.v (r_ld H) ?_
        refine LW.v (r_bin) ?_
        refine LW.c r_c2 ((rconst_at q D (IntKind.u32.wrap (0 - ty.v)) hc (by omega) H).mono ?_)
        rintro _ w ⟨rfl, c', hc', H⟩
        refine ⟨_, rfl, ?_⟩
        refine LW.c r_c4 ((h.at (op := 27) (a := a) (D := (addT D (K (IntKind.u32.wrap (0 - ty.v)))).2) hc' (hD.add (K_ok _ _)) (hg.add (by first | exact u32_rng _ | exact ⟨by decide, by decide⟩)) (ha.ext (addT_ext _ _)) (addT_in D (K (IntKind.u32.wrap (0 - ty.v)))).1 (by decide) (by have := addT_len D (K (IntKind.u32.wrap (0 - ty.v))); omega) hr H).mono ?_)
        rintro _ w ⟨rfl, c2, hc2, H⟩
        refine ⟨_, rfl, ?_⟩
        refine LW.v (r_ext) ?_
        refine LW.v (r_ext) ?_
        refine LW.v (r_as) ?_
        refine LW.v (r_as) ?_
        refine LW.nil ?_
        refine TW.ret (ret2 (by rfl) rT rT ?_)
        exact ⟨rfl, c2, hc2, H.dropAt 1 |>.dropAt 1⟩
      · have hr2 := hb; have hc2 := hb; try simp only [beq_iff_eq, bne_iff_ne, beq_eq_false_iff_ne, bne_eq_false_iff_eq, decide_eq_true_eq, decide_eq_false_iff_not, Bool.not_eq_true', Bool.not_eq_false', Bool.true_eq, Bool.false_eq, ge_iff_le, gt_iff_lt, Bool.not_eq_eq_eq_not, Bool.not_true, Bool.not_false, ne_eq] at hc2
        refine TW.skip <| TW.seq <| TW.seq ?_
        refine TW.region ?_
        refine LW.v (r_fa) ?_
        refine LW.v (r_ld H) ?_
        refine LW.v (r_bin) ?_
        refine LW.nil ?_
        refine TW.c rfl (fun hb => ?_) (fun hb => ?_)
        · have hr3 := hb; have hc3 := hb; try simp only [beq_iff_eq, bne_iff_ne, beq_eq_false_iff_ne, bne_eq_false_iff_eq, decide_eq_true_eq, decide_eq_false_iff_not, Bool.not_eq_true', Bool.not_eq_false', Bool.true_eq, Bool.false_eq, ge_iff_le, gt_iff_lt, Bool.not_eq_eq_eq_not, Bool.not_true, Bool.not_false, ne_eq] at hc3
          refine TW.seq ?_
          refine TW.region ?_
          refine LW.v (r_mv) ?_
          refine LW.v (r_mv) ?_
          refine LW.v (r_mv) ?_
          refine LW.v (r_mv) ?_
          have hky : ty.kind = 0 := by simpa using hr3
          cases hp : (rplain op a b ty.v).isNo
          · rw [if_neg (Bool.eq_false_iff.1 hr0), if_neg (Bool.eq_false_iff.1 hr1), if_neg (Bool.eq_false_iff.1 hr2), if_pos (by unfold rword; rw [hp]; simp [hky, hp])] at hr
            unfold rword at hr
            rw [hp, if_neg Bool.false_ne_true] at hr
            refine LW.c r_c4 ((rplain_yes h hc hD hg (by omega) ha hIb hvb ho hp hr H).mono ?_)
            rintro _ w ⟨rfl, c2, hc2, H⟩
            refine ⟨_, rfl, ?_⟩
            refine LW.v (r_mv) ?_
            refine LW.v (r_ext) ?_
            refine LW.v (r_ext) ?_
            refine LW.v (r_as) ?_
            refine LW.v (r_as) ?_
            refine LW.nil ?_
            refine TW.seq <| TW.seq ?_
            refine TW.region ?_
            refine LW.v (r_mv) ?_
            refine LW.v (r_not) ?_
            refine LW.nil ?_
            refine TW.c rfl (fun h => by first | (cases h; done) | exact absurd h (by simp [hc0, hc1, hc2, hc3])) (fun _ => ?_)
            refine TW.skip <| TW.seq ?_
            refine TW.region ?_
            refine LW.v (r_mv) ?_
            refine LW.nil ?_
            refine TW.c rfl (fun _ => ?_) (fun h => by first | (cases h; done) | exact absurd h (by simp [hc0, hc1, hc2, hc3]))
            refine TW.seq ?_
            refine TW.region ?_
            refine LW.v (r_mv) ?_
            refine LW.v (r_as) ?_
            refine LW.v (r_as) ?_
            refine LW.nil ?_
            refine TW.ret (ret2 (by rfl) rT rT ?_)
            exact ⟨rfl, c2, hc2, H.dropAt 1 |>.dropAt 1⟩
          · refine LW.c r_c4 ((rplain_no (r := r) h hc hD hg (by omega) ha hIb hvb ho hp H).mono ?_)
            rintro _ w ⟨rfl, c, hc, H⟩
            refine ⟨_, rfl, ?_⟩
            refine LW.v (r_mv) ?_
            refine LW.v (r_ext) ?_
            refine LW.v (r_ext) ?_
            refine LW.v (r_as) ?_
            refine LW.v (r_as) ?_
            refine LW.nil ?_
            refine TW.seq <| TW.seq ?_
            refine TW.region ?_
            refine LW.v (r_mv) ?_
            refine LW.v (r_not) ?_
            refine LW.nil ?_
            refine TW.c rfl (fun _ => ?_) (fun h => by first | (cases h; done) | exact absurd h (by simp [hc0, hc1, hc2, hc3]))
            refine TW.region ?_
            refine LW.v (r_mv) ?_
            refine LW.v (r_mv) ?_
            refine LW.v (r_mv) ?_
            refine LW.v (r_fa) ?_
            refine LW.v (r_ld H) ?_
            cases hd : (rdeep D op a ty.v).isNo
            · rw [if_neg (Bool.eq_false_iff.1 hr0), if_neg (Bool.eq_false_iff.1 hr1), if_neg (Bool.eq_false_iff.1 hr2), if_pos (by unfold rword; rw [hp, if_pos rfl, hd]; simp [hky])] at hr
              unfold rword at hr
              rw [hp, if_pos rfl] at hr
              refine LW.c r_c4 ((rdeep_yes (b := b) h hc hD hg (by omega) ha hkrb ho hd hr H).mono ?_)
              rintro _ w ⟨rfl, c2, hc2, H⟩
              refine ⟨_, rfl, ?_⟩
              refine LW.v (r_mv) ?_
              refine LW.v (r_ext) ?_
              refine LW.v (r_ext) ?_
              refine LW.v (r_as) ?_
              refine LW.v (r_as) ?_
              refine LW.nil ?_
              refine TW.seq ?_
              refine TW.region ?_
              refine LW.v (r_mv) ?_
              refine LW.nil ?_
              refine TW.c rfl (fun _ => ?_) (fun h => by first | (cases h; done) | exact absurd h (by simp [hc0, hc1, hc2, hc3]))
              refine TW.seq ?_
              refine TW.region ?_
              refine LW.v (r_mv) ?_
              refine LW.v (r_as) ?_
              refine LW.v (r_as) ?_
              refine LW.nil ?_
              refine TW.ret (ret2 (by rfl) rT rT ?_)
              exact ⟨rfl, c2, hc2, H.dropAt 1 |>.dropAt 1⟩
            · refine LW.c r_c4 ((rdeep_no (b := b) (r := r) h hc hD hg (by omega) ha hkrb ho hd H).mono ?_)
              rintro _ w ⟨rfl, c, hc, H⟩
              refine ⟨_, rfl, ?_⟩
              refine LW.v (r_mv) ?_
              refine LW.v (r_ext) ?_
              refine LW.v (r_ext) ?_
              refine LW.v (r_as) ?_
              refine LW.v (r_as) ?_
              refine LW.nil ?_
              refine TW.seq ?_
              refine TW.region ?_
              refine LW.v (r_mv) ?_
              refine LW.nil ?_
              refine TW.c rfl (fun h => by first | (cases h; done) | exact absurd h (by simp [hc0, hc1, hc2, hc3])) (fun _ => ?_)
              refine TW.skip <| TW.seq <| TW.seq ?_
              refine TW.join1 H [(0, .pointer (some ⟨q, 0, none⟩)), (1, .int .i64 op), (2, .int .i64 a), (3, .int .i64 b), (12, .pointer (some ⟨g12, 0, none⟩)), (13, .pointer (some ⟨g13, 0, none⟩)), (158, .bool (decide (a = b) && among op [28, 32, 30, 31]))] (fun go => ?_) (fun f w H => ?_)
              · refine TW.region ?_
                refine LW.v (r_mv) ?_
                refine LW.v (r_mv) ?_
                refine LW.v (r_bin) ?_
                refine LW.v (r_mv) ?_
                refine LW.gen fun b hb => ?_; cases b
                · have hr4 := hb.symm; have hc4 := hb.symm; try simp only [beq_iff_eq, bne_iff_ne, beq_eq_false_iff_ne, bne_eq_false_iff_eq, decide_eq_true_eq, decide_eq_false_iff_not, Bool.not_eq_true', Bool.not_eq_false', Bool.true_eq, Bool.false_eq, ge_iff_le, gt_iff_lt, Bool.not_eq_eq_eq_not, Bool.not_true, Bool.not_false, ne_eq] at hc4
                  refine LW.no (by rfl) (by rfl) (by rfl) (by rfl) (by rfl) (by rfl) ?_
                  refine LW.no (by rfl) (by rfl) (by rfl) (by rfl) (by rfl) (by rfl) ?_
                  refine LW.no (by rfl) (by rfl) (by rfl) (by rfl) (by rfl) (by rfl) ?_
                  refine LW.v (r_pick) ?_
                  refine LW.nil ?_
                  exact go _ _ H ⟨rfl, rfl, rfl, rfl, rfl, rfl, congrArg Value.bool (by first | rfl | (simp [hc0, hc1, hc2, hc3, hc4]; done) | (exfalso; omega)  | exact Bool.noConfusion (hc0.symm.trans hc1) | exact Bool.noConfusion (hc0.symm.trans hc2) | exact Bool.noConfusion (hc0.symm.trans hc3) | exact Bool.noConfusion (hc0.symm.trans hc4) | exact Bool.noConfusion (hc1.symm.trans hc2) | exact Bool.noConfusion (hc1.symm.trans hc3) | exact Bool.noConfusion (hc1.symm.trans hc4) | exact Bool.noConfusion (hc2.symm.trans hc3) | exact Bool.noConfusion (hc2.symm.trans hc4) | exact Bool.noConfusion (hc3.symm.trans hc4) | (simp; omega)), trivial⟩
                · have hr4 := hb.symm; have hc4 := hb.symm; try simp only [beq_iff_eq, bne_iff_ne, beq_eq_false_iff_ne, bne_eq_false_iff_eq, decide_eq_true_eq, decide_eq_false_iff_not, Bool.not_eq_true', Bool.not_eq_false', Bool.true_eq, Bool.false_eq, ge_iff_le, gt_iff_lt, Bool.not_eq_eq_eq_not, Bool.not_true, Bool.not_false, ne_eq] at hc4
                  refine LW.yes (by rfl) (by rfl) (by rfl) (by rfl) (by rfl) ?_
                  refine LW.v (r_mv) ?_
                  refine LW.yes (by rfl) (by rfl) (by rfl) (by rfl) (by rfl) ?_
                  refine LW.new (r_bsl H [.int .i64 28, .int .i64 32, .int .i64 30, .int .i64 31] [.int .i64 28, .int .i64 32, .int .i64 30, .int .i64 31] rfl rfl (hv := by simp [Value.cells])) ?_; intro gb w H
                  refine LW.yes (by rfl) (by rfl) (by rfl) (by rfl) (by rfl) ?_
                  refine LW.c r_c2 ((rin_lit op [28, 32, 30, 31] H rfl (by decide)).mono ?_)
                  rintro _ w ⟨rfl, H⟩
                  refine ⟨_, rfl, ?_⟩
                  refine LW.v (r_pick) ?_
                  refine LW.nil ?_
                  exact go _ _ H ⟨rfl, rfl, rfl, rfl, rfl, rfl, congrArg Value.bool (by first | rfl | (simp [hc0, hc1, hc2, hc3, hc4]; done) | (exfalso; omega)  | exact Bool.noConfusion (hc0.symm.trans hc1) | exact Bool.noConfusion (hc0.symm.trans hc2) | exact Bool.noConfusion (hc0.symm.trans hc3) | exact Bool.noConfusion (hc0.symm.trans hc4) | exact Bool.noConfusion (hc1.symm.trans hc2) | exact Bool.noConfusion (hc1.symm.trans hc3) | exact Bool.noConfusion (hc1.symm.trans hc4) | exact Bool.noConfusion (hc2.symm.trans hc3) | exact Bool.noConfusion (hc2.symm.trans hc4) | exact Bool.noConfusion (hc3.symm.trans hc4) | (simp; omega)), trivial⟩
              refine TW.c rfl (fun hb => ?_) (fun hb => ?_)
              · have hr4 := hb; have hc4 := hb; try simp only [beq_iff_eq, bne_iff_ne, beq_eq_false_iff_ne, bne_eq_false_iff_eq, decide_eq_true_eq, decide_eq_false_iff_not, Bool.not_eq_true', Bool.not_eq_false', Bool.true_eq, Bool.false_eq, ge_iff_le, gt_iff_lt, Bool.not_eq_eq_eq_not, Bool.not_true, Bool.not_false, ne_eq] at hc4
                refine TW.seq ?_
                rw [if_neg (Bool.eq_false_iff.1 hr0), if_neg (Bool.eq_false_iff.1 hr1), if_neg (Bool.eq_false_iff.1 hr2), if_neg (by unfold rword; rw [hp, if_pos rfl, hd]; simp)] at hr
                unfold rtail at hr
                rw [if_pos hr4] at hr
                refine TW.region ?_
                refine LW.v (r_mv) ?_
                refine LW.c r_c2 ((rconst_at q D 0 hc (by omega) H).mono ?_)
                rintro _ w ⟨rfl, c', hc', H⟩
                refine ⟨_, rfl, ?_⟩
                refine LW.v (r_as) ?_
                refine LW.v (r_as) ?_
                refine LW.nil ?_
                refine TW.ret (ret2 (by rfl) rT rT ?_)
                obtain rfl : addT D (K 0) = r := Option.some.inj hr
                exact ⟨rfl, c', hc', H.dropAt 1 |>.dropAt 1⟩
              · have hr4 := hb; have hc4 := hb; try simp only [beq_iff_eq, bne_iff_ne, beq_eq_false_iff_ne, bne_eq_false_iff_eq, decide_eq_true_eq, decide_eq_false_iff_not, Bool.not_eq_true', Bool.not_eq_false', Bool.true_eq, Bool.false_eq, ge_iff_le, gt_iff_lt, Bool.not_eq_eq_eq_not, Bool.not_true, Bool.not_false, ne_eq] at hc4
                refine TW.skip <| TW.seq <| TW.seq ?_
                refine TW.join1 H [(0, .pointer (some ⟨q, 0, none⟩)), (1, .int .i64 op), (2, .int .i64 a), (3, .int .i64 b), (12, .pointer (some ⟨g12, 0, none⟩)), (13, .pointer (some ⟨g13, 0, none⟩)), (168, .bool (decide (a = b) && among op [36, 35]))] (fun go => ?_) (fun f w H => ?_)
                · refine TW.region ?_
                  refine LW.v (r_mv) ?_
                  refine LW.v (r_mv) ?_
                  refine LW.v (r_bin) ?_
                  refine LW.v (r_mv) ?_
                  refine LW.gen fun b hb => ?_; cases b
                  · have hr5 := hb.symm; have hc5 := hb.symm; try simp only [beq_iff_eq, bne_iff_ne, beq_eq_false_iff_ne, bne_eq_false_iff_eq, decide_eq_true_eq, decide_eq_false_iff_not, Bool.not_eq_true', Bool.not_eq_false', Bool.true_eq, Bool.false_eq, ge_iff_le, gt_iff_lt, Bool.not_eq_eq_eq_not, Bool.not_true, Bool.not_false, ne_eq] at hc5
                    refine LW.no (by rfl) (by rfl) (by rfl) (by rfl) (by rfl) (by rfl) ?_
                    refine LW.no (by rfl) (by rfl) (by rfl) (by rfl) (by rfl) (by rfl) ?_
                    refine LW.no (by rfl) (by rfl) (by rfl) (by rfl) (by rfl) (by rfl) ?_
                    refine LW.v (r_pick) ?_
                    refine LW.nil ?_
                    exact go _ _ H ⟨rfl, rfl, rfl, rfl, rfl, rfl, congrArg Value.bool (by first | rfl | (simp [hc0, hc1, hc2, hc3, hc4, hc5]; done) | (exfalso; omega)  | exact Bool.noConfusion (hc0.symm.trans hc1) | exact Bool.noConfusion (hc0.symm.trans hc2) | exact Bool.noConfusion (hc0.symm.trans hc3) | exact Bool.noConfusion (hc0.symm.trans hc4) | exact Bool.noConfusion (hc0.symm.trans hc5) | exact Bool.noConfusion (hc1.symm.trans hc2) | exact Bool.noConfusion (hc1.symm.trans hc3) | exact Bool.noConfusion (hc1.symm.trans hc4) | exact Bool.noConfusion (hc1.symm.trans hc5) | exact Bool.noConfusion (hc2.symm.trans hc3) | exact Bool.noConfusion (hc2.symm.trans hc4) | exact Bool.noConfusion (hc2.symm.trans hc5) | exact Bool.noConfusion (hc3.symm.trans hc4) | exact Bool.noConfusion (hc3.symm.trans hc5) | exact Bool.noConfusion (hc4.symm.trans hc5) | (simp; omega)), trivial⟩
                  · have hr5 := hb.symm; have hc5 := hb.symm; try simp only [beq_iff_eq, bne_iff_ne, beq_eq_false_iff_ne, bne_eq_false_iff_eq, decide_eq_true_eq, decide_eq_false_iff_not, Bool.not_eq_true', Bool.not_eq_false', Bool.true_eq, Bool.false_eq, ge_iff_le, gt_iff_lt, Bool.not_eq_eq_eq_not, Bool.not_true, Bool.not_false, ne_eq] at hc5
                    refine LW.yes (by rfl) (by rfl) (by rfl) (by rfl) (by rfl) ?_
                    refine LW.v (r_mv) ?_
                    refine LW.yes (by rfl) (by rfl) (by rfl) (by rfl) (by rfl) ?_
                    refine LW.new (r_bsl H [.int .i64 36, .int .i64 35] [.int .i64 36, .int .i64 35] rfl rfl (hv := by simp [Value.cells])) ?_; intro gb w H
                    refine LW.yes (by rfl) (by rfl) (by rfl) (by rfl) (by rfl) ?_
                    refine LW.c r_c2 ((rin_lit op [36, 35] H rfl (by decide)).mono ?_)
                    rintro _ w ⟨rfl, H⟩
                    refine ⟨_, rfl, ?_⟩
                    refine LW.v (r_pick) ?_
                    refine LW.nil ?_
                    exact go _ _ H ⟨rfl, rfl, rfl, rfl, rfl, rfl, congrArg Value.bool (by first | rfl | (simp [hc0, hc1, hc2, hc3, hc4, hc5]; done) | (exfalso; omega)  | exact Bool.noConfusion (hc0.symm.trans hc1) | exact Bool.noConfusion (hc0.symm.trans hc2) | exact Bool.noConfusion (hc0.symm.trans hc3) | exact Bool.noConfusion (hc0.symm.trans hc4) | exact Bool.noConfusion (hc0.symm.trans hc5) | exact Bool.noConfusion (hc1.symm.trans hc2) | exact Bool.noConfusion (hc1.symm.trans hc3) | exact Bool.noConfusion (hc1.symm.trans hc4) | exact Bool.noConfusion (hc1.symm.trans hc5) | exact Bool.noConfusion (hc2.symm.trans hc3) | exact Bool.noConfusion (hc2.symm.trans hc4) | exact Bool.noConfusion (hc2.symm.trans hc5) | exact Bool.noConfusion (hc3.symm.trans hc4) | exact Bool.noConfusion (hc3.symm.trans hc5) | exact Bool.noConfusion (hc4.symm.trans hc5) | (simp; omega)), trivial⟩
                refine TW.c rfl (fun hb => ?_) (fun hb => ?_)
                · have hr5 := hb; have hc5 := hb; try simp only [beq_iff_eq, bne_iff_ne, beq_eq_false_iff_ne, bne_eq_false_iff_eq, decide_eq_true_eq, decide_eq_false_iff_not, Bool.not_eq_true', Bool.not_eq_false', Bool.true_eq, Bool.false_eq, ge_iff_le, gt_iff_lt, Bool.not_eq_eq_eq_not, Bool.not_true, Bool.not_false, ne_eq] at hc5
                  refine TW.seq ?_
                  rw [if_neg (Bool.eq_false_iff.1 hr0), if_neg (Bool.eq_false_iff.1 hr1), if_neg (Bool.eq_false_iff.1 hr2), if_neg (by unfold rword; rw [hp, if_pos rfl, hd]; simp)] at hr
                  unfold rtail at hr
                  rw [if_neg (Bool.eq_false_iff.1 hr4), if_pos hr5] at hr
                  refine TW.region ?_
                  refine LW.v (r_mv) ?_
                  refine LW.v (r_as) ?_
                  refine LW.v (r_as) ?_
                  refine LW.nil ?_
                  refine TW.ret (ret2 (by rfl) rT rT ?_)
                  obtain rfl : (a, D) = r := Option.some.inj hr
                  exact ⟨rfl, c, hc, H.dropAt 1 |>.dropAt 1⟩
                · have hr5 := hb; have hc5 := hb; try simp only [beq_iff_eq, bne_iff_ne, beq_eq_false_iff_ne, bne_eq_false_iff_eq, decide_eq_true_eq, decide_eq_false_iff_not, Bool.not_eq_true', Bool.not_eq_false', Bool.true_eq, Bool.false_eq, ge_iff_le, gt_iff_lt, Bool.not_eq_eq_eq_not, Bool.not_true, Bool.not_false, ne_eq] at hc5
                  refine TW.skip <| TW.seq <| TW.seq ?_
                  refine TW.join1 H [(0, .pointer (some ⟨q, 0, none⟩)), (1, .int .i64 op), (2, .int .i64 a), (3, .int .i64 b), (12, .pointer (some ⟨g12, 0, none⟩)), (13, .pointer (some ⟨g13, 0, none⟩)), (176, .bool (decide (a = b) && decide (op = 27)))] (fun go => ?_) (fun f w H => ?_)
                  · refine TW.region ?_
                    refine LW.v (r_mv) ?_
                    refine LW.v (r_mv) ?_
                    refine LW.v (r_bin) ?_
                    refine LW.v (r_mv) ?_
                    refine LW.gen fun b hb => ?_; cases b
                    · have hr6 := hb.symm; have hc6 := hb.symm; try simp only [beq_iff_eq, bne_iff_ne, beq_eq_false_iff_ne, bne_eq_false_iff_eq, decide_eq_true_eq, decide_eq_false_iff_not, Bool.not_eq_true', Bool.not_eq_false', Bool.true_eq, Bool.false_eq, ge_iff_le, gt_iff_lt, Bool.not_eq_eq_eq_not, Bool.not_true, Bool.not_false, ne_eq] at hc6
                      refine LW.no (by rfl) (by rfl) (by rfl) (by rfl) (by rfl) (by rfl) ?_
                      refine LW.no (by rfl) (by rfl) (by rfl) (by rfl) (by rfl) (by rfl) ?_
                      refine LW.v (r_pick) ?_
                      refine LW.nil ?_
                      exact go _ _ H ⟨rfl, rfl, rfl, rfl, rfl, rfl, congrArg Value.bool (by first | rfl | (simp [hc0, hc1, hc2, hc3, hc4, hc5, hc6]; done) | (exfalso; omega)  | exact Bool.noConfusion (hc0.symm.trans hc1) | exact Bool.noConfusion (hc0.symm.trans hc2) | exact Bool.noConfusion (hc0.symm.trans hc3) | exact Bool.noConfusion (hc0.symm.trans hc4) | exact Bool.noConfusion (hc0.symm.trans hc5) | exact Bool.noConfusion (hc0.symm.trans hc6) | exact Bool.noConfusion (hc1.symm.trans hc2) | exact Bool.noConfusion (hc1.symm.trans hc3) | exact Bool.noConfusion (hc1.symm.trans hc4) | exact Bool.noConfusion (hc1.symm.trans hc5) | exact Bool.noConfusion (hc1.symm.trans hc6) | exact Bool.noConfusion (hc2.symm.trans hc3) | exact Bool.noConfusion (hc2.symm.trans hc4) | exact Bool.noConfusion (hc2.symm.trans hc5) | exact Bool.noConfusion (hc2.symm.trans hc6) | exact Bool.noConfusion (hc3.symm.trans hc4) | exact Bool.noConfusion (hc3.symm.trans hc5) | exact Bool.noConfusion (hc3.symm.trans hc6) | exact Bool.noConfusion (hc4.symm.trans hc5) | exact Bool.noConfusion (hc4.symm.trans hc6) | exact Bool.noConfusion (hc5.symm.trans hc6) | (simp; omega)), trivial⟩
                    · have hr6 := hb.symm; have hc6 := hb.symm; try simp only [beq_iff_eq, bne_iff_ne, beq_eq_false_iff_ne, bne_eq_false_iff_eq, decide_eq_true_eq, decide_eq_false_iff_not, Bool.not_eq_true', Bool.not_eq_false', Bool.true_eq, Bool.false_eq, ge_iff_le, gt_iff_lt, Bool.not_eq_eq_eq_not, Bool.not_true, Bool.not_false, ne_eq] at hc6
                      refine LW.yes (by rfl) (by rfl) (by rfl) (by rfl) (by rfl) ?_
                      refine LW.v (r_mv) ?_
                      refine LW.yes (by rfl) (by rfl) (by rfl) (by rfl) (by rfl) ?_
                      refine LW.v (r_bin) ?_
                      refine LW.v (r_pick) ?_
                      refine LW.nil ?_
                      exact go _ _ H ⟨rfl, rfl, rfl, rfl, rfl, rfl, congrArg Value.bool (by first | rfl | (simp [hc0, hc1, hc2, hc3, hc4, hc5, hc6]; done) | (exfalso; omega)  | exact Bool.noConfusion (hc0.symm.trans hc1) | exact Bool.noConfusion (hc0.symm.trans hc2) | exact Bool.noConfusion (hc0.symm.trans hc3) | exact Bool.noConfusion (hc0.symm.trans hc4) | exact Bool.noConfusion (hc0.symm.trans hc5) | exact Bool.noConfusion (hc0.symm.trans hc6) | exact Bool.noConfusion (hc1.symm.trans hc2) | exact Bool.noConfusion (hc1.symm.trans hc3) | exact Bool.noConfusion (hc1.symm.trans hc4) | exact Bool.noConfusion (hc1.symm.trans hc5) | exact Bool.noConfusion (hc1.symm.trans hc6) | exact Bool.noConfusion (hc2.symm.trans hc3) | exact Bool.noConfusion (hc2.symm.trans hc4) | exact Bool.noConfusion (hc2.symm.trans hc5) | exact Bool.noConfusion (hc2.symm.trans hc6) | exact Bool.noConfusion (hc3.symm.trans hc4) | exact Bool.noConfusion (hc3.symm.trans hc5) | exact Bool.noConfusion (hc3.symm.trans hc6) | exact Bool.noConfusion (hc4.symm.trans hc5) | exact Bool.noConfusion (hc4.symm.trans hc6) | exact Bool.noConfusion (hc5.symm.trans hc6) | (simp; omega)), trivial⟩
                  refine TW.c rfl (fun hb => ?_) (fun hb => ?_)
                  · have hr6 := hb; have hc6 := hb; try simp only [beq_iff_eq, bne_iff_ne, beq_eq_false_iff_ne, bne_eq_false_iff_eq, decide_eq_true_eq, decide_eq_false_iff_not, Bool.not_eq_true', Bool.not_eq_false', Bool.true_eq, Bool.false_eq, ge_iff_le, gt_iff_lt, Bool.not_eq_eq_eq_not, Bool.not_true, Bool.not_false, ne_eq] at hc6
                    refine TW.seq ?_
                    rw [if_neg (Bool.eq_false_iff.1 hr0), if_neg (Bool.eq_false_iff.1 hr1), if_neg (Bool.eq_false_iff.1 hr2), if_neg (by unfold rword; rw [hp, if_pos rfl, hd]; simp)] at hr
                    unfold rtail at hr
                    rw [if_neg (Bool.eq_false_iff.1 hr4), if_neg (Bool.eq_false_iff.1 hr5), if_pos hr6] at hr
                    refine TW.region ?_
                    refine LW.v (r_mv) ?_
                    refine LW.v (r_mv) ?_
                    refine LW.v (r_mv) ?_
                    refine LW.c r_c2 ((rconst_at q D 1 hc (by omega) H).mono ?_)
                    rintro _ w ⟨rfl, c', hc', H⟩
                    refine ⟨_, rfl, ?_⟩
                    refine LW.c r_c4 ((h.at (op := 29) (a := a) (D := (addT D (K 1)).2) hc' (hD.add (K_ok _ _)) (hg.add (by first | exact u32_rng _ | exact ⟨by decide, by decide⟩)) (ha.ext (addT_ext _ _)) (addT_in D (K 1)).1 (by decide) (by have := addT_len D (K 1); omega) hr H).mono ?_)
                    rintro _ w ⟨rfl, c2, hc2, H⟩
                    refine ⟨_, rfl, ?_⟩
                    refine LW.v (r_ext) ?_
                    refine LW.v (r_ext) ?_
                    refine LW.v (r_as) ?_
                    refine LW.v (r_as) ?_
                    refine LW.nil ?_
                    refine TW.ret (ret2 (by rfl) rT rT ?_)
                    exact ⟨rfl, c2, hc2, H.dropAt 1 |>.dropAt 1⟩
                  · have hr6 := hb; have hc6 := hb; try simp only [beq_iff_eq, bne_iff_ne, beq_eq_false_iff_ne, bne_eq_false_iff_eq, decide_eq_true_eq, decide_eq_false_iff_not, Bool.not_eq_true', Bool.not_eq_false', Bool.true_eq, Bool.false_eq, ge_iff_le, gt_iff_lt, Bool.not_eq_eq_eq_not, Bool.not_true, Bool.not_false, ne_eq] at hc6
                    refine TW.skip <| TW.seq ?_
                    rw [if_neg (Bool.eq_false_iff.1 hr0), if_neg (Bool.eq_false_iff.1 hr1), if_neg (Bool.eq_false_iff.1 hr2), if_neg (by unfold rword; rw [hp, if_pos rfl, hd]; simp)] at hr
                    unfold rtail at hr
                    rw [if_neg (Bool.eq_false_iff.1 hr4), if_neg (Bool.eq_false_iff.1 hr5), if_neg (Bool.eq_false_iff.1 hr6)] at hr
                    refine TW.region ?_
                    refine LW.v (r_mv) ?_
                    refine LW.v (r_mv) ?_
                    refine LW.v (r_mv) ?_
                    refine LW.v (r_mv) ?_
                    refine LW.c r_c4 ((rop_at q D op a b hc (by omega) H).mono ?_)
                    rintro _ w ⟨rfl, c', hc', H⟩
                    refine ⟨_, rfl, ?_⟩
                    refine LW.v (r_ext) ?_
                    refine LW.v (r_ext) ?_
                    refine LW.v (r_as) ?_
                    refine LW.v (r_as) ?_
                    refine LW.nil ?_
                    refine TW.ret (ret2 (by rfl) rT rT ?_)
                    obtain rfl : ((WhD.op D op a b).1, (WhD.op D op a b).2.2) = r := Option.some.inj hr
                    have e2 : (WhD.op D op a b).2.1 = 0 := by simp [WhD.op, ha.is, hIb.is, isOp_wdo ho]
                    rw [e2]
                    exact ⟨rfl, c', hc', H.dropAt 1 |>.dropAt 1⟩
        · have hr3 := hb; have hc3 := hb; try simp only [beq_iff_eq, bne_iff_ne, beq_eq_false_iff_ne, bne_eq_false_iff_eq, decide_eq_true_eq, decide_eq_false_iff_not, Bool.not_eq_true', Bool.not_eq_false', Bool.true_eq, Bool.false_eq, ge_iff_le, gt_iff_lt, Bool.not_eq_eq_eq_not, Bool.not_true, Bool.not_false, ne_eq] at hc3
          refine TW.skip <| TW.seq <| TW.seq ?_
          refine TW.join1 H [(0, .pointer (some ⟨q, 0, none⟩)), (1, .int .i64 op), (2, .int .i64 a), (3, .int .i64 b), (12, .pointer (some ⟨g12, 0, none⟩)), (13, .pointer (some ⟨g13, 0, none⟩)), (158, .bool (decide (a = b) && among op [28, 32, 30, 31]))] (fun go => ?_) (fun f w H => ?_)
          · refine TW.region ?_
            refine LW.v (r_mv) ?_
            refine LW.v (r_mv) ?_
            refine LW.v (r_bin) ?_
            refine LW.v (r_mv) ?_
            refine LW.gen fun b hb => ?_; cases b
            · have hr4 := hb.symm; have hc4 := hb.symm; try simp only [beq_iff_eq, bne_iff_ne, beq_eq_false_iff_ne, bne_eq_false_iff_eq, decide_eq_true_eq, decide_eq_false_iff_not, Bool.not_eq_true', Bool.not_eq_false', Bool.true_eq, Bool.false_eq, ge_iff_le, gt_iff_lt, Bool.not_eq_eq_eq_not, Bool.not_true, Bool.not_false, ne_eq] at hc4
              refine LW.no (by rfl) (by rfl) (by rfl) (by rfl) (by rfl) (by rfl) ?_
              refine LW.no (by rfl) (by rfl) (by rfl) (by rfl) (by rfl) (by rfl) ?_
              refine LW.no (by rfl) (by rfl) (by rfl) (by rfl) (by rfl) (by rfl) ?_
              refine LW.v (r_pick) ?_
              refine LW.nil ?_
              exact go _ _ H ⟨rfl, rfl, rfl, rfl, rfl, rfl, congrArg Value.bool (by first | rfl | (simp [hc0, hc1, hc2, hc3, hc4]; done) | (exfalso; omega)  | exact Bool.noConfusion (hc0.symm.trans hc1) | exact Bool.noConfusion (hc0.symm.trans hc2) | exact Bool.noConfusion (hc0.symm.trans hc3) | exact Bool.noConfusion (hc0.symm.trans hc4) | exact Bool.noConfusion (hc1.symm.trans hc2) | exact Bool.noConfusion (hc1.symm.trans hc3) | exact Bool.noConfusion (hc1.symm.trans hc4) | exact Bool.noConfusion (hc2.symm.trans hc3) | exact Bool.noConfusion (hc2.symm.trans hc4) | exact Bool.noConfusion (hc3.symm.trans hc4) | (simp; omega)), trivial⟩
            · have hr4 := hb.symm; have hc4 := hb.symm; try simp only [beq_iff_eq, bne_iff_ne, beq_eq_false_iff_ne, bne_eq_false_iff_eq, decide_eq_true_eq, decide_eq_false_iff_not, Bool.not_eq_true', Bool.not_eq_false', Bool.true_eq, Bool.false_eq, ge_iff_le, gt_iff_lt, Bool.not_eq_eq_eq_not, Bool.not_true, Bool.not_false, ne_eq] at hc4
              refine LW.yes (by rfl) (by rfl) (by rfl) (by rfl) (by rfl) ?_
              refine LW.v (r_mv) ?_
              refine LW.yes (by rfl) (by rfl) (by rfl) (by rfl) (by rfl) ?_
              refine LW.new (r_bsl H [.int .i64 28, .int .i64 32, .int .i64 30, .int .i64 31] [.int .i64 28, .int .i64 32, .int .i64 30, .int .i64 31] rfl rfl (hv := by simp [Value.cells])) ?_; intro gb w H
              refine LW.yes (by rfl) (by rfl) (by rfl) (by rfl) (by rfl) ?_
              refine LW.c r_c2 ((rin_lit op [28, 32, 30, 31] H rfl (by decide)).mono ?_)
              rintro _ w ⟨rfl, H⟩
              refine ⟨_, rfl, ?_⟩
              refine LW.v (r_pick) ?_
              refine LW.nil ?_
              exact go _ _ H ⟨rfl, rfl, rfl, rfl, rfl, rfl, congrArg Value.bool (by first | rfl | (simp [hc0, hc1, hc2, hc3, hc4]; done) | (exfalso; omega)  | exact Bool.noConfusion (hc0.symm.trans hc1) | exact Bool.noConfusion (hc0.symm.trans hc2) | exact Bool.noConfusion (hc0.symm.trans hc3) | exact Bool.noConfusion (hc0.symm.trans hc4) | exact Bool.noConfusion (hc1.symm.trans hc2) | exact Bool.noConfusion (hc1.symm.trans hc3) | exact Bool.noConfusion (hc1.symm.trans hc4) | exact Bool.noConfusion (hc2.symm.trans hc3) | exact Bool.noConfusion (hc2.symm.trans hc4) | exact Bool.noConfusion (hc3.symm.trans hc4) | (simp; omega)), trivial⟩
          refine TW.c rfl (fun hb => ?_) (fun hb => ?_)
          · have hr4 := hb; have hc4 := hb; try simp only [beq_iff_eq, bne_iff_ne, beq_eq_false_iff_ne, bne_eq_false_iff_eq, decide_eq_true_eq, decide_eq_false_iff_not, Bool.not_eq_true', Bool.not_eq_false', Bool.true_eq, Bool.false_eq, ge_iff_le, gt_iff_lt, Bool.not_eq_eq_eq_not, Bool.not_true, Bool.not_false, ne_eq] at hc4
            refine TW.seq ?_
            rw [if_neg (Bool.eq_false_iff.1 hr0), if_neg (Bool.eq_false_iff.1 hr1), if_neg (Bool.eq_false_iff.1 hr2), if_neg (by rw [hr3]; exact Bool.noConfusion)] at hr
            unfold rtail at hr
            rw [if_pos hr4] at hr
            refine TW.region ?_
            refine LW.v (r_mv) ?_
            refine LW.c r_c2 ((rconst_at q D 0 hc (by omega) H).mono ?_)
            rintro _ w ⟨rfl, c', hc', H⟩
            refine ⟨_, rfl, ?_⟩
            refine LW.v (r_as) ?_
            refine LW.v (r_as) ?_
            refine LW.nil ?_
            refine TW.ret (ret2 (by rfl) rT rT ?_)
            obtain rfl : addT D (K 0) = r := Option.some.inj hr
            exact ⟨rfl, c', hc', H.dropAt 1 |>.dropAt 1⟩
          · have hr4 := hb; have hc4 := hb; try simp only [beq_iff_eq, bne_iff_ne, beq_eq_false_iff_ne, bne_eq_false_iff_eq, decide_eq_true_eq, decide_eq_false_iff_not, Bool.not_eq_true', Bool.not_eq_false', Bool.true_eq, Bool.false_eq, ge_iff_le, gt_iff_lt, Bool.not_eq_eq_eq_not, Bool.not_true, Bool.not_false, ne_eq] at hc4
            refine TW.skip <| TW.seq <| TW.seq ?_
            refine TW.join1 H [(0, .pointer (some ⟨q, 0, none⟩)), (1, .int .i64 op), (2, .int .i64 a), (3, .int .i64 b), (12, .pointer (some ⟨g12, 0, none⟩)), (13, .pointer (some ⟨g13, 0, none⟩)), (168, .bool (decide (a = b) && among op [36, 35]))] (fun go => ?_) (fun f w H => ?_)
            · refine TW.region ?_
              refine LW.v (r_mv) ?_
              refine LW.v (r_mv) ?_
              refine LW.v (r_bin) ?_
              refine LW.v (r_mv) ?_
              refine LW.gen fun b hb => ?_; cases b
              · have hr5 := hb.symm; have hc5 := hb.symm; try simp only [beq_iff_eq, bne_iff_ne, beq_eq_false_iff_ne, bne_eq_false_iff_eq, decide_eq_true_eq, decide_eq_false_iff_not, Bool.not_eq_true', Bool.not_eq_false', Bool.true_eq, Bool.false_eq, ge_iff_le, gt_iff_lt, Bool.not_eq_eq_eq_not, Bool.not_true, Bool.not_false, ne_eq] at hc5
                refine LW.no (by rfl) (by rfl) (by rfl) (by rfl) (by rfl) (by rfl) ?_
                refine LW.no (by rfl) (by rfl) (by rfl) (by rfl) (by rfl) (by rfl) ?_
                refine LW.no (by rfl) (by rfl) (by rfl) (by rfl) (by rfl) (by rfl) ?_
                refine LW.v (r_pick) ?_
                refine LW.nil ?_
                exact go _ _ H ⟨rfl, rfl, rfl, rfl, rfl, rfl, congrArg Value.bool (by first | rfl | (simp [hc0, hc1, hc2, hc3, hc4, hc5]; done) | (exfalso; omega)  | exact Bool.noConfusion (hc0.symm.trans hc1) | exact Bool.noConfusion (hc0.symm.trans hc2) | exact Bool.noConfusion (hc0.symm.trans hc3) | exact Bool.noConfusion (hc0.symm.trans hc4) | exact Bool.noConfusion (hc0.symm.trans hc5) | exact Bool.noConfusion (hc1.symm.trans hc2) | exact Bool.noConfusion (hc1.symm.trans hc3) | exact Bool.noConfusion (hc1.symm.trans hc4) | exact Bool.noConfusion (hc1.symm.trans hc5) | exact Bool.noConfusion (hc2.symm.trans hc3) | exact Bool.noConfusion (hc2.symm.trans hc4) | exact Bool.noConfusion (hc2.symm.trans hc5) | exact Bool.noConfusion (hc3.symm.trans hc4) | exact Bool.noConfusion (hc3.symm.trans hc5) | exact Bool.noConfusion (hc4.symm.trans hc5) | (simp; omega)), trivial⟩
              · have hr5 := hb.symm; have hc5 := hb.symm; try simp only [beq_iff_eq, bne_iff_ne, beq_eq_false_iff_ne, bne_eq_false_iff_eq, decide_eq_true_eq, decide_eq_false_iff_not, Bool.not_eq_true', Bool.not_eq_false', Bool.true_eq, Bool.false_eq, ge_iff_le, gt_iff_lt, Bool.not_eq_eq_eq_not, Bool.not_true, Bool.not_false, ne_eq] at hc5
                refine LW.yes (by rfl) (by rfl) (by rfl) (by rfl) (by rfl) ?_
                refine LW.v (r_mv) ?_
                refine LW.yes (by rfl) (by rfl) (by rfl) (by rfl) (by rfl) ?_
                refine LW.new (r_bsl H [.int .i64 36, .int .i64 35] [.int .i64 36, .int .i64 35] rfl rfl (hv := by simp [Value.cells])) ?_; intro gb w H
                refine LW.yes (by rfl) (by rfl) (by rfl) (by rfl) (by rfl) ?_
                refine LW.c r_c2 ((rin_lit op [36, 35] H rfl (by decide)).mono ?_)
                rintro _ w ⟨rfl, H⟩
                refine ⟨_, rfl, ?_⟩
                refine LW.v (r_pick) ?_
                refine LW.nil ?_
                exact go _ _ H ⟨rfl, rfl, rfl, rfl, rfl, rfl, congrArg Value.bool (by first | rfl | (simp [hc0, hc1, hc2, hc3, hc4, hc5]; done) | (exfalso; omega)  | exact Bool.noConfusion (hc0.symm.trans hc1) | exact Bool.noConfusion (hc0.symm.trans hc2) | exact Bool.noConfusion (hc0.symm.trans hc3) | exact Bool.noConfusion (hc0.symm.trans hc4) | exact Bool.noConfusion (hc0.symm.trans hc5) | exact Bool.noConfusion (hc1.symm.trans hc2) | exact Bool.noConfusion (hc1.symm.trans hc3) | exact Bool.noConfusion (hc1.symm.trans hc4) | exact Bool.noConfusion (hc1.symm.trans hc5) | exact Bool.noConfusion (hc2.symm.trans hc3) | exact Bool.noConfusion (hc2.symm.trans hc4) | exact Bool.noConfusion (hc2.symm.trans hc5) | exact Bool.noConfusion (hc3.symm.trans hc4) | exact Bool.noConfusion (hc3.symm.trans hc5) | exact Bool.noConfusion (hc4.symm.trans hc5) | (simp; omega)), trivial⟩
            refine TW.c rfl (fun hb => ?_) (fun hb => ?_)
            · have hr5 := hb; have hc5 := hb; try simp only [beq_iff_eq, bne_iff_ne, beq_eq_false_iff_ne, bne_eq_false_iff_eq, decide_eq_true_eq, decide_eq_false_iff_not, Bool.not_eq_true', Bool.not_eq_false', Bool.true_eq, Bool.false_eq, ge_iff_le, gt_iff_lt, Bool.not_eq_eq_eq_not, Bool.not_true, Bool.not_false, ne_eq] at hc5
              refine TW.seq ?_
              rw [if_neg (Bool.eq_false_iff.1 hr0), if_neg (Bool.eq_false_iff.1 hr1), if_neg (Bool.eq_false_iff.1 hr2), if_neg (by rw [hr3]; exact Bool.noConfusion)] at hr
              unfold rtail at hr
              rw [if_neg (Bool.eq_false_iff.1 hr4), if_pos hr5] at hr
              refine TW.region ?_
              refine LW.v (r_mv) ?_
              refine LW.v (r_as) ?_
              refine LW.v (r_as) ?_
              refine LW.nil ?_
              refine TW.ret (ret2 (by rfl) rT rT ?_)
              obtain rfl : (a, D) = r := Option.some.inj hr
              exact ⟨rfl, c, hc, H.dropAt 1 |>.dropAt 1⟩
            · have hr5 := hb; have hc5 := hb; try simp only [beq_iff_eq, bne_iff_ne, beq_eq_false_iff_ne, bne_eq_false_iff_eq, decide_eq_true_eq, decide_eq_false_iff_not, Bool.not_eq_true', Bool.not_eq_false', Bool.true_eq, Bool.false_eq, ge_iff_le, gt_iff_lt, Bool.not_eq_eq_eq_not, Bool.not_true, Bool.not_false, ne_eq] at hc5
              refine TW.skip <| TW.seq <| TW.seq ?_
              refine TW.join1 H [(0, .pointer (some ⟨q, 0, none⟩)), (1, .int .i64 op), (2, .int .i64 a), (3, .int .i64 b), (12, .pointer (some ⟨g12, 0, none⟩)), (13, .pointer (some ⟨g13, 0, none⟩)), (176, .bool (decide (a = b) && decide (op = 27)))] (fun go => ?_) (fun f w H => ?_)
              · refine TW.region ?_
                refine LW.v (r_mv) ?_
                refine LW.v (r_mv) ?_
                refine LW.v (r_bin) ?_
                refine LW.v (r_mv) ?_
                refine LW.gen fun b hb => ?_; cases b
                · have hr6 := hb.symm; have hc6 := hb.symm; try simp only [beq_iff_eq, bne_iff_ne, beq_eq_false_iff_ne, bne_eq_false_iff_eq, decide_eq_true_eq, decide_eq_false_iff_not, Bool.not_eq_true', Bool.not_eq_false', Bool.true_eq, Bool.false_eq, ge_iff_le, gt_iff_lt, Bool.not_eq_eq_eq_not, Bool.not_true, Bool.not_false, ne_eq] at hc6
                  refine LW.no (by rfl) (by rfl) (by rfl) (by rfl) (by rfl) (by rfl) ?_
                  refine LW.no (by rfl) (by rfl) (by rfl) (by rfl) (by rfl) (by rfl) ?_
                  refine LW.v (r_pick) ?_
                  refine LW.nil ?_
                  exact go _ _ H ⟨rfl, rfl, rfl, rfl, rfl, rfl, congrArg Value.bool (by first | rfl | (simp [hc0, hc1, hc2, hc3, hc4, hc5, hc6]; done) | (exfalso; omega)  | exact Bool.noConfusion (hc0.symm.trans hc1) | exact Bool.noConfusion (hc0.symm.trans hc2) | exact Bool.noConfusion (hc0.symm.trans hc3) | exact Bool.noConfusion (hc0.symm.trans hc4) | exact Bool.noConfusion (hc0.symm.trans hc5) | exact Bool.noConfusion (hc0.symm.trans hc6) | exact Bool.noConfusion (hc1.symm.trans hc2) | exact Bool.noConfusion (hc1.symm.trans hc3) | exact Bool.noConfusion (hc1.symm.trans hc4) | exact Bool.noConfusion (hc1.symm.trans hc5) | exact Bool.noConfusion (hc1.symm.trans hc6) | exact Bool.noConfusion (hc2.symm.trans hc3) | exact Bool.noConfusion (hc2.symm.trans hc4) | exact Bool.noConfusion (hc2.symm.trans hc5) | exact Bool.noConfusion (hc2.symm.trans hc6) | exact Bool.noConfusion (hc3.symm.trans hc4) | exact Bool.noConfusion (hc3.symm.trans hc5) | exact Bool.noConfusion (hc3.symm.trans hc6) | exact Bool.noConfusion (hc4.symm.trans hc5) | exact Bool.noConfusion (hc4.symm.trans hc6) | exact Bool.noConfusion (hc5.symm.trans hc6) | (simp; omega)), trivial⟩
                · have hr6 := hb.symm; have hc6 := hb.symm; try simp only [beq_iff_eq, bne_iff_ne, beq_eq_false_iff_ne, bne_eq_false_iff_eq, decide_eq_true_eq, decide_eq_false_iff_not, Bool.not_eq_true', Bool.not_eq_false', Bool.true_eq, Bool.false_eq, ge_iff_le, gt_iff_lt, Bool.not_eq_eq_eq_not, Bool.not_true, Bool.not_false, ne_eq] at hc6
                  refine LW.yes (by rfl) (by rfl) (by rfl) (by rfl) (by rfl) ?_
                  refine LW.v (r_mv) ?_
                  refine LW.yes (by rfl) (by rfl) (by rfl) (by rfl) (by rfl) ?_
                  refine LW.v (r_bin) ?_
                  refine LW.v (r_pick) ?_
                  refine LW.nil ?_
                  exact go _ _ H ⟨rfl, rfl, rfl, rfl, rfl, rfl, congrArg Value.bool (by first | rfl | (simp [hc0, hc1, hc2, hc3, hc4, hc5, hc6]; done) | (exfalso; omega)  | exact Bool.noConfusion (hc0.symm.trans hc1) | exact Bool.noConfusion (hc0.symm.trans hc2) | exact Bool.noConfusion (hc0.symm.trans hc3) | exact Bool.noConfusion (hc0.symm.trans hc4) | exact Bool.noConfusion (hc0.symm.trans hc5) | exact Bool.noConfusion (hc0.symm.trans hc6) | exact Bool.noConfusion (hc1.symm.trans hc2) | exact Bool.noConfusion (hc1.symm.trans hc3) | exact Bool.noConfusion (hc1.symm.trans hc4) | exact Bool.noConfusion (hc1.symm.trans hc5) | exact Bool.noConfusion (hc1.symm.trans hc6) | exact Bool.noConfusion (hc2.symm.trans hc3) | exact Bool.noConfusion (hc2.symm.trans hc4) | exact Bool.noConfusion (hc2.symm.trans hc5) | exact Bool.noConfusion (hc2.symm.trans hc6) | exact Bool.noConfusion (hc3.symm.trans hc4) | exact Bool.noConfusion (hc3.symm.trans hc5) | exact Bool.noConfusion (hc3.symm.trans hc6) | exact Bool.noConfusion (hc4.symm.trans hc5) | exact Bool.noConfusion (hc4.symm.trans hc6) | exact Bool.noConfusion (hc5.symm.trans hc6) | (simp; omega)), trivial⟩
              refine TW.c rfl (fun hb => ?_) (fun hb => ?_)
              · have hr6 := hb; have hc6 := hb; try simp only [beq_iff_eq, bne_iff_ne, beq_eq_false_iff_ne, bne_eq_false_iff_eq, decide_eq_true_eq, decide_eq_false_iff_not, Bool.not_eq_true', Bool.not_eq_false', Bool.true_eq, Bool.false_eq, ge_iff_le, gt_iff_lt, Bool.not_eq_eq_eq_not, Bool.not_true, Bool.not_false, ne_eq] at hc6
                refine TW.seq ?_
                rw [if_neg (Bool.eq_false_iff.1 hr0), if_neg (Bool.eq_false_iff.1 hr1), if_neg (Bool.eq_false_iff.1 hr2), if_neg (by rw [hr3]; exact Bool.noConfusion)] at hr
                unfold rtail at hr
                rw [if_neg (Bool.eq_false_iff.1 hr4), if_neg (Bool.eq_false_iff.1 hr5), if_pos hr6] at hr
                refine TW.region ?_
                refine LW.v (r_mv) ?_
                refine LW.v (r_mv) ?_
                refine LW.v (r_mv) ?_
                refine LW.c r_c2 ((rconst_at q D 1 hc (by omega) H).mono ?_)
                rintro _ w ⟨rfl, c', hc', H⟩
                refine ⟨_, rfl, ?_⟩
                refine LW.c r_c4 ((h.at (op := 29) (a := a) (D := (addT D (K 1)).2) hc' (hD.add (K_ok _ _)) (hg.add (by first | exact u32_rng _ | exact ⟨by decide, by decide⟩)) (ha.ext (addT_ext _ _)) (addT_in D (K 1)).1 (by decide) (by have := addT_len D (K 1); omega) hr H).mono ?_)
                rintro _ w ⟨rfl, c2, hc2, H⟩
                refine ⟨_, rfl, ?_⟩
                refine LW.v (r_ext) ?_
                refine LW.v (r_ext) ?_
                refine LW.v (r_as) ?_
                refine LW.v (r_as) ?_
                refine LW.nil ?_
                refine TW.ret (ret2 (by rfl) rT rT ?_)
                exact ⟨rfl, c2, hc2, H.dropAt 1 |>.dropAt 1⟩
              · have hr6 := hb; have hc6 := hb; try simp only [beq_iff_eq, bne_iff_ne, beq_eq_false_iff_ne, bne_eq_false_iff_eq, decide_eq_true_eq, decide_eq_false_iff_not, Bool.not_eq_true', Bool.not_eq_false', Bool.true_eq, Bool.false_eq, ge_iff_le, gt_iff_lt, Bool.not_eq_eq_eq_not, Bool.not_true, Bool.not_false, ne_eq] at hc6
                refine TW.skip <| TW.seq ?_
                rw [if_neg (Bool.eq_false_iff.1 hr0), if_neg (Bool.eq_false_iff.1 hr1), if_neg (Bool.eq_false_iff.1 hr2), if_neg (by rw [hr3]; exact Bool.noConfusion)] at hr
                unfold rtail at hr
                rw [if_neg (Bool.eq_false_iff.1 hr4), if_neg (Bool.eq_false_iff.1 hr5), if_neg (Bool.eq_false_iff.1 hr6)] at hr
                refine TW.region ?_
                refine LW.v (r_mv) ?_
                refine LW.v (r_mv) ?_
                refine LW.v (r_mv) ?_
                refine LW.v (r_mv) ?_
                refine LW.c r_c4 ((rop_at q D op a b hc (by omega) H).mono ?_)
                rintro _ w ⟨rfl, c', hc', H⟩
                refine ⟨_, rfl, ?_⟩
                refine LW.v (r_ext) ?_
                refine LW.v (r_ext) ?_
                refine LW.v (r_as) ?_
                refine LW.v (r_as) ?_
                refine LW.nil ?_
                refine TW.ret (ret2 (by rfl) rT rT ?_)
                obtain rfl : ((WhD.op D op a b).1, (WhD.op D op a b).2.2) = r := Option.some.inj hr
                have e2 : (WhD.op D op a b).2.1 = 0 := by simp [WhD.op, ha.is, hIb.is, isOp_wdo ho]
                rw [e2]
                exact ⟨rfl, c', hc', H.dropAt 1 |>.dropAt 1⟩
theorem rmade_ok {B : Nat} {w0 : World} {q : Nat} : ∀ n, RopOK B w0 q n (madeF n)
  | 0 => fun D c L op a b r w _ _ _ _ _ _ _ hr _ => by cases hr
  | n + 1 => rmade_step (rmade_ok n)
end Wh
