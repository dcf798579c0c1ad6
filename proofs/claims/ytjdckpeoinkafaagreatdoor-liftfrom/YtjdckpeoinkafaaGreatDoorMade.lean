/- A part of the walk through the code: contracts of functions, printed by a program of the prover. -/
import Derived.Test.YtjdckpeoinkafaaGreatDoorSimp
set_option linter.all false
namespace Wh
open Go Go.Proofs
set_option maxRecDepth 100000
def MadeOK (B : Nat) (w0 : World) (p n : Nat) (rec : WhS.Rec) : Prop := ∀ (D : List T) (c : Ck) (L : List Ck) (op a b : Int) (r : Int × List T) (w : World), DagC p D c → WhS.Rng D → D.length + n < 1073741824 → rec D op a b = some r → Hp B w0 w (c :: L) →
  Calls Tryz.prog 86 #[.pointer (some ⟨p, 0, none⟩), .int .i64 op, .int .i64 a, .int .i64 b] w fun e w' => e = .returned (.int .i64 r.1) ∧ ∃ c', DagC p r.2 c' ∧ WhS.Rng r.2 ∧ Hp B w0 w' (c' :: L)
theorem MadeOK.at {B : Nat} {w0 : World} {p n : Nat} {rec : WhS.Rec} (h : MadeOK B w0 p n rec) {D : List T} {c : Ck} {Ls : List Ck} {mk : Ck → List Ck} {op a b : Int} {r : Int × List T} {w : World} (hc : DagC p D c) (hg : WhS.Rng D) (hlen : D.length + n < 1073741824) (hr : rec D op a b = some r) (H : Hp B w0 w Ls) (hb : HasC Ls c mk := by infer_instance) :
  Calls Tryz.prog 86 #[.pointer (some ⟨p, 0, none⟩), .int .i64 op, .int .i64 a, .int .i64 b] w fun e w' => e = .returned (.int .i64 r.1) ∧ ∃ c', DagC p r.2 c' ∧ WhS.Rng r.2 ∧ Hp B w0 w' (mk c') := by
  obtain ⟨R, H1, back⟩ := H.pick (h := hb)
  exact (h D c R op a b r w hc hg hlen hr H1).mono fun e w' ⟨h1, c', h2, h3, h4⟩ => ⟨h1, c', h2, h3, back _ _ h4⟩
theorem cellB {B : Nat} {w0 w : World} {L : List Ck} {g : Nat} {bt : TypeId} {v : Value} {mk : Array Value → List Ck} (H : Hp B w0 w L) (hb : HasB L g bt #[v] mk := by infer_instance) : w.cell? ⟨g, 0, none⟩ = some v := by
  rw [cell_of_blk (H.getB (h := hb))]; rfl

theorem goes_spec {B : Nat} {w0 w : World} {p n : Nat} {rec : WhS.Rec} (h : MadeOK B w0 p n rec) {D : List T} {c : Ck} {L : List Ck} {op a v : Int} {r : Int × List T} {g bt : Nat} {mkb : Array Value → List Ck} (hc : DagC p D c) (hg : WhS.Rng D) (hlen : D.length + (n + 1) < 1073741824) (hv : 0 ≤ v ∧ v < 4294967296)
    (hr : rec (addT D (WhS.K v)).2 op a (addT D (WhS.K v)).1 = some r) (hb : HasB L g bt #[.pointer (some ⟨p, 0, none⟩)] mkb) (H : Hp B w0 w (c :: L)) :
    Calls Tryz.prog 108 #[.int .i64 op, .int .i64 a, .int .u32 v, .pointer (some ⟨g, 0, none⟩)] w fun e w' => e = .returned (.tuple #[.int .i64 r.1, .bool true]) ∧ ∃ c', DagC p r.2 c' ∧ WhS.Rng r.2 ∧ Hp B w0 w' (c' :: L) := by
  refine calls_go Tryz.func108 Tryz.ntmps108 rfl rfl ?_
  refine TW.seq ?_
  refine TW.region ?_
  refine LW.v (r_as) ?_
  refine LW.v (r_as) ?_
  refine LW.nil ?_
  refine TW.seq ?_
  refine TW.draw [(0, some 1), (1, some 1), (2, some 1), (3, some 0), (4, some 0), (5, none), (6, none), (7, some 2), (8, some 2)] [5, 6] hmix (by kernel_rfl) (fun _ _ _ _ _ h => h) H (fun m w => (m ≤ 1 → w.cell? ⟨g, 0, none⟩ = some (.pointer (some ⟨p, 0, none⟩)))) (fun _ h _ => cellB h) ?_
  intro w H
  refine DW.mb (by rfl) (fun _ _ _ h2 h => h (by omega)) (Quiet.y (fun _ h => r_ldc h)) ?_
  refine DW.v (by rfl) (Quiet.y (fun _ _ => r_mv)) ?_
  refine DW.v (by rfl) (Quiet.y (fun _ _ => r_mv)) ?_
  refine DW.mb (by rfl) (fun _ _ _ h2 h => h (by omega)) (Quiet.y (fun _ h => r_ldc h)) ?_
  refine DW.v (by rfl) (Quiet.y (fun _ _ => r_mv)) ?_
  refine DW.l (by rfl) ?_
  refine LW.c r_c2 ((const_at p D v hc (by omega) H).mono ?_)
  rintro _ w ⟨rfl, c', hc', H⟩
  refine ⟨_, rfl, ?_⟩
  refine LW.nil ⟨(fun _ => cellB H), ?_⟩
  refine DW.l (by rfl) ?_
  refine LW.c r_c4 ((h.at (op := op) (a := a) hc' (hg.add hv) (by have := WhS.addT_len D (WhS.K v); unfold WhS.K at this; omega) hr H).mono ?_)
  rintro _ w ⟨rfl, c2, hc2, hg2, H⟩
  refine ⟨_, rfl, ?_⟩
  refine LW.nil ⟨(fun h => absurd h (by decide)), ?_⟩
  refine DW.v (by rfl) (Quiet.y (fun _ _ => r_as)) ?_
  refine DW.v (by rfl) (Quiet.y (fun _ _ => r_as)) ?_
  refine DW.nil (fun _ => ?_)
  refine TW.ret (ret2 (by rfl) rT rT ?_)
  exact ⟨rfl, c2, hc2, hg2, H⟩
theorem twice_spec {B : Nat} {w0 w : World} {p n : Nat} {rec : WhS.Rec} (h : MadeOK B w0 p n rec) {D : List T} {c : Ck} {L : List Ck} {op a : Int} {r : Int × List T} (hc : DagC p D c) (hg : WhS.Rng D) (hlen : D.length + (n + 1) < 1073741824) 
    (hr : (WhS.twice op a).isNo = false → WhS.exec rec D op a a (WhS.twice op a) = some r) (H : Hp B w0 w (c :: L)) :
    Calls Tryz.prog 100 #[.pointer (some ⟨p, 0, none⟩), .int .i64 op, .int .i64 a] w fun e w' => e = .returned (.tuple #[.int .i64 (WhS.outS D r (WhS.twice op a)).1, .bool (WhS.outS D r (WhS.twice op a)).2.1]) ∧ ∃ c', DagC p (WhS.outS D r (WhS.twice op a)).2.2 c' ∧ WhS.Rng (WhS.outS D r (WhS.twice op a)).2.2 ∧ Hp B w0 w' (c' :: L) := by
  refine calls_go Tryz.func100 Tryz.ntmps100 rfl rfl ?_
  refine TW.seq ?_
  refine TW.region ?_
  refine LW.v (r_as) ?_
  refine LW.v (r_as) ?_
  refine LW.nil ?_
  refine TW.seq <| TW.seq ?_
  refine TW.region ?_
  refine LW.v (r_mv) ?_
  refine LW.nil ?_
  refine TW.block <| TW.seq ?_
  refine TW.join1 H [(0, .pointer (some ⟨p, 0, none⟩)), (1, .int .i64 op), (2, .int .i64 a), (8, .int .i64 op), (9, .bool (decide (op = 28) || decide (op = 32) || decide (op = 30) || decide (op = 31)))] (fun go => ?_) (fun f w H => ?_)
  · refine TW.seq ?_
    refine TW.region ?_
    refine LW.v (r_bin) ?_
    refine LW.v (r_as) ?_
    refine LW.nil ?_
    refine TW.c rfl (fun hb => ?_) (fun hb => ?_)
    · have hr0 := hb; have hc0 := hb; try simp only [beq_iff_eq, bne_iff_ne, beq_eq_false_iff_ne, bne_eq_false_iff_eq, decide_eq_true_eq, decide_eq_false_iff_not, Bool.not_eq_true', Bool.not_eq_false', Bool.true_eq, Bool.false_eq, ge_iff_le, gt_iff_lt, Bool.not_eq_eq_eq_not, Bool.not_true, Bool.not_false, ne_eq] at hc0
      refine TW.skip ?_
      exact go _ _ H ⟨rfl, rfl, rfl, rfl, congrArg Value.bool (by first | rfl | (simp [hc0]; done) | (exfalso; omega) ), trivial⟩
    · have hr0 := hb; have hc0 := hb; try simp only [beq_iff_eq, bne_iff_ne, beq_eq_false_iff_ne, bne_eq_false_iff_eq, decide_eq_true_eq, decide_eq_false_iff_not, Bool.not_eq_true', Bool.not_eq_false', Bool.true_eq, Bool.false_eq, ge_iff_le, gt_iff_lt, Bool.not_eq_eq_eq_not, Bool.not_true, Bool.not_false, ne_eq] at hc0
      refine TW.seq ?_
      refine TW.region ?_
      refine LW.v (r_bin) ?_
      refine LW.v (r_as) ?_
      refine LW.nil ?_
      refine TW.c rfl (fun hb => ?_) (fun hb => ?_)
      · have hr1 := hb; have hc1 := hb; try simp only [beq_iff_eq, bne_iff_ne, beq_eq_false_iff_ne, bne_eq_false_iff_eq, decide_eq_true_eq, decide_eq_false_iff_not, Bool.not_eq_true', Bool.not_eq_false', Bool.true_eq, Bool.false_eq, ge_iff_le, gt_iff_lt, Bool.not_eq_eq_eq_not, Bool.not_true, Bool.not_false, ne_eq] at hc1
        refine TW.skip ?_
        exact go _ _ H ⟨rfl, rfl, rfl, rfl, congrArg Value.bool (by first | rfl | (simp [hc0, hc1]; done) | (exfalso; omega)  | exact Bool.noConfusion (hc0.symm.trans hc1)), trivial⟩
      · have hr1 := hb; have hc1 := hb; try simp only [beq_iff_eq, bne_iff_ne, beq_eq_false_iff_ne, bne_eq_false_iff_eq, decide_eq_true_eq, decide_eq_false_iff_not, Bool.not_eq_true', Bool.not_eq_false', Bool.true_eq, Bool.false_eq, ge_iff_le, gt_iff_lt, Bool.not_eq_eq_eq_not, Bool.not_true, Bool.not_false, ne_eq] at hc1
        refine TW.seq ?_
        refine TW.region ?_
        refine LW.v (r_bin) ?_
        refine LW.v (r_as) ?_
        refine LW.nil ?_
        refine TW.c rfl (fun hb => ?_) (fun hb => ?_)
        · have hr2 := hb; have hc2 := hb; try simp only [beq_iff_eq, bne_iff_ne, beq_eq_false_iff_ne, bne_eq_false_iff_eq, decide_eq_true_eq, decide_eq_false_iff_not, Bool.not_eq_true', Bool.not_eq_false', Bool.true_eq, Bool.false_eq, ge_iff_le, gt_iff_lt, Bool.not_eq_eq_eq_not, Bool.not_true, Bool.not_false, ne_eq] at hc2
          refine TW.skip ?_
          exact go _ _ H ⟨rfl, rfl, rfl, rfl, congrArg Value.bool (by first | rfl | (simp [hc0, hc1, hc2]; done) | (exfalso; omega)  | exact Bool.noConfusion (hc0.symm.trans hc1) | exact Bool.noConfusion (hc0.symm.trans hc2) | exact Bool.noConfusion (hc1.symm.trans hc2)), trivial⟩
        · have hr2 := hb; have hc2 := hb; try simp only [beq_iff_eq, bne_iff_ne, beq_eq_false_iff_ne, bne_eq_false_iff_eq, decide_eq_true_eq, decide_eq_false_iff_not, Bool.not_eq_true', Bool.not_eq_false', Bool.true_eq, Bool.false_eq, ge_iff_le, gt_iff_lt, Bool.not_eq_eq_eq_not, Bool.not_true, Bool.not_false, ne_eq] at hc2
          refine TW.region ?_
          refine LW.v (r_bin) ?_
          refine LW.v (r_as) ?_
          refine LW.nil ?_
          exact go _ _ H ⟨rfl, rfl, rfl, rfl, congrArg Value.bool (by first | rfl | (simp [hc0, hc1, hc2]; done) | (exfalso; omega)  | exact Bool.noConfusion (hc0.symm.trans hc1) | exact Bool.noConfusion (hc0.symm.trans hc2) | exact Bool.noConfusion (hc1.symm.trans hc2)), trivial⟩
  refine TW.c rfl (fun hb => ?_) (fun hb => ?_)
  · have hr0 := hb; have hc0 := hb; try simp only [beq_iff_eq, bne_iff_ne, beq_eq_false_iff_ne, bne_eq_false_iff_eq, decide_eq_true_eq, decide_eq_false_iff_not, Bool.not_eq_true', Bool.not_eq_false', Bool.true_eq, Bool.false_eq, ge_iff_le, gt_iff_lt, Bool.not_eq_eq_eq_not, Bool.not_true, Bool.not_false, ne_eq] at hc0
    refine TW.seq ?_
    have hs : WhS.twice op a = .const 0 := by first | (simp only [WhS.twice, hr0, if_true, if_false, Bool.false_eq_true, ↓reduceIte]; done) | (simp [WhS.twice, hc0]; done)
    rw [hs] at hr ⊢
    refine TW.region ?_
    refine LW.v (r_mv) ?_
    refine LW.c r_c2 ((const_at p D _ hc (by omega) H).mono ?_)
    rintro _ w ⟨rfl, c', hc', H⟩
    refine ⟨_, rfl, ?_⟩
    refine LW.v (r_as) ?_
    refine LW.v (r_as) ?_
    refine LW.nil ?_
    refine TW.ret (ret2 (by rfl) rT rT ?_)
    obtain rfl : addT D (WhS.K (0)) = r := Option.some.inj (hr rfl)
    exact ⟨rfl, c', hc', hg.add (by first | exact WhS.u32_rng _ | exact ⟨by decide, by decide⟩ | exact WhS.tmod_rng hv | exact WhS.wdo_rng (hg.known _) hv | exact WhS.wdo_rng (hg.known _) (hg.known _)), by first | exact H | exact H.drop | exact H.drop.drop⟩
  · have hr0 := hb; have hc0 := hb; try simp only [beq_iff_eq, bne_iff_ne, beq_eq_false_iff_ne, bne_eq_false_iff_eq, decide_eq_true_eq, decide_eq_false_iff_not, Bool.not_eq_true', Bool.not_eq_false', Bool.true_eq, Bool.false_eq, ge_iff_le, gt_iff_lt, Bool.not_eq_eq_eq_not, Bool.not_true, Bool.not_false, ne_eq] at hc0
    refine TW.seq ?_
    refine TW.join1 H [(0, .pointer (some ⟨p, 0, none⟩)), (1, .int .i64 op), (2, .int .i64 a), (8, .int .i64 op), (16, .bool (decide (op = 36) || decide (op = 35)))] (fun go => ?_) (fun f w H => ?_)
    · refine TW.seq ?_
      refine TW.region ?_
      refine LW.v (r_bin) ?_
      refine LW.v (r_as) ?_
      refine LW.nil ?_
      refine TW.c rfl (fun hb => ?_) (fun hb => ?_)
      · have hr1 := hb; have hc1 := hb; try simp only [beq_iff_eq, bne_iff_ne, beq_eq_false_iff_ne, bne_eq_false_iff_eq, decide_eq_true_eq, decide_eq_false_iff_not, Bool.not_eq_true', Bool.not_eq_false', Bool.true_eq, Bool.false_eq, ge_iff_le, gt_iff_lt, Bool.not_eq_eq_eq_not, Bool.not_true, Bool.not_false, ne_eq] at hc1
        refine TW.skip ?_
        exact go _ _ H ⟨rfl, rfl, rfl, rfl, congrArg Value.bool (by first | rfl | (simp [hc0, hc1]; done) | (exfalso; omega)  | exact Bool.noConfusion (hc0.symm.trans hc1)), trivial⟩
      · have hr1 := hb; have hc1 := hb; try simp only [beq_iff_eq, bne_iff_ne, beq_eq_false_iff_ne, bne_eq_false_iff_eq, decide_eq_true_eq, decide_eq_false_iff_not, Bool.not_eq_true', Bool.not_eq_false', Bool.true_eq, Bool.false_eq, ge_iff_le, gt_iff_lt, Bool.not_eq_eq_eq_not, Bool.not_true, Bool.not_false, ne_eq] at hc1
        refine TW.region ?_
        refine LW.v (r_bin) ?_
        refine LW.v (r_as) ?_
        refine LW.nil ?_
        exact go _ _ H ⟨rfl, rfl, rfl, rfl, congrArg Value.bool (by first | rfl | (simp [hc0, hc1]; done) | (exfalso; omega)  | exact Bool.noConfusion (hc0.symm.trans hc1)), trivial⟩
    refine TW.c rfl (fun hb => ?_) (fun hb => ?_)
    · have hr1 := hb; have hc1 := hb; try simp only [beq_iff_eq, bne_iff_ne, beq_eq_false_iff_ne, bne_eq_false_iff_eq, decide_eq_true_eq, decide_eq_false_iff_not, Bool.not_eq_true', Bool.not_eq_false', Bool.true_eq, Bool.false_eq, ge_iff_le, gt_iff_lt, Bool.not_eq_eq_eq_not, Bool.not_true, Bool.not_false, ne_eq] at hc1
      refine TW.seq ?_
      have hs : WhS.twice op a = .ret a := by first | (simp only [WhS.twice, hr0, hr1, if_true, if_false, Bool.false_eq_true, ↓reduceIte]; done) | (simp [WhS.twice, hc0, hc1]; done)
      rw [hs] at hr ⊢
      refine TW.region ?_
      refine LW.v (r_mv) ?_
      refine LW.v (r_as) ?_
      refine LW.v (r_as) ?_
      refine LW.nil ?_
      refine TW.ret (ret2 (by rfl) rT rT ?_)
      obtain rfl : (a, D) = r := Option.some.inj (hr rfl)
      exact ⟨rfl, c, hc, hg, by first | exact H | exact H.drop | exact H.drop.drop⟩
    · have hr1 := hb; have hc1 := hb; try simp only [beq_iff_eq, bne_iff_ne, beq_eq_false_iff_ne, bne_eq_false_iff_eq, decide_eq_true_eq, decide_eq_false_iff_not, Bool.not_eq_true', Bool.not_eq_false', Bool.true_eq, Bool.false_eq, ge_iff_le, gt_iff_lt, Bool.not_eq_eq_eq_not, Bool.not_true, Bool.not_false, ne_eq] at hc1
      refine TW.seq ?_
      refine TW.region ?_
      refine LW.v (r_bin) ?_
      refine LW.v (r_as) ?_
      refine LW.nil ?_
      refine TW.c rfl (fun hb => ?_) (fun hb => ?_)
      · have hr2 := hb; have hc2 := hb; try simp only [beq_iff_eq, bne_iff_ne, beq_eq_false_iff_ne, bne_eq_false_iff_eq, decide_eq_true_eq, decide_eq_false_iff_not, Bool.not_eq_true', Bool.not_eq_false', Bool.true_eq, Bool.false_eq, ge_iff_le, gt_iff_lt, Bool.not_eq_eq_eq_not, Bool.not_true, Bool.not_false, ne_eq] at hc2
        refine TW.seq ?_
        have hs : WhS.twice op a = .goes 29 a 1 := by first | (simp only [WhS.twice, hr0, hr1, hr2, if_true, if_false, Bool.false_eq_true, ↓reduceIte]; done) | (simp [WhS.twice, hc0, hc1, hc2]; done)
        rw [hs] at hr ⊢
        refine TW.region ?_
        refine LW.v (r_mv) ?_
        refine LW.v (r_mv) ?_
        refine LW.v (r_mv) ?_
        refine LW.c r_c2 ((const_at p D _ hc (by omega) H).mono ?_)
        rintro _ w ⟨rfl, c', hc', H⟩
        refine ⟨_, rfl, ?_⟩
        refine LW.c r_c4 ((h.at (op := 29) (a := a) (D := (addT D (WhS.K 1)).2) hc' (hg.add ⟨by decide, by decide⟩) (by have := WhS.addT_len D (WhS.K 1); omega) (hr rfl) H).mono ?_)
        rintro _ w ⟨rfl, c2, hc2, hg2, H⟩
        refine ⟨_, rfl, ?_⟩
        refine LW.v (r_as) ?_
        refine LW.v (r_as) ?_
        refine LW.nil ?_
        refine TW.ret (ret2 (by rfl) rT rT ?_)
        exact ⟨rfl, c2, hc2, hg2, by first | exact H | exact H.drop | exact H.dropAt 1 | exact (H.dropAt 1).dropAt 1⟩
      · have hr2 := hb; have hc2 := hb; try simp only [beq_iff_eq, bne_iff_ne, beq_eq_false_iff_ne, bne_eq_false_iff_eq, decide_eq_true_eq, decide_eq_false_iff_not, Bool.not_eq_true', Bool.not_eq_false', Bool.true_eq, Bool.false_eq, ge_iff_le, gt_iff_lt, Bool.not_eq_eq_eq_not, Bool.not_true, Bool.not_false, ne_eq] at hc2
        refine TW.skip <| TW.inBlock <| TW.seq ?_
        have hs : WhS.twice op a = .no := by first | (simp only [WhS.twice, hr0, hr1, hr2, if_true, if_false, Bool.false_eq_true, ↓reduceIte]; done) | (simp [WhS.twice, hc0, hc1, hc2]; done)
        rw [hs] at hr ⊢
        refine TW.region ?_
        refine LW.v (r_as) ?_
        refine LW.v (r_as) ?_
        refine LW.nil ?_
        refine TW.ret (ret2 (by rfl) rT rT ?_)
        exact ⟨rfl, c, hc, hg, by first | exact H | exact H.drop | exact H.drop.drop⟩
theorem byWord_spec {B : Nat} {w0 w : World} {p n : Nat} {rec : WhS.Rec} (h : MadeOK B w0 p n rec) {D : List T} {c : Ck} {L : List Ck} {op a b v : Int} {r : Int × List T} (hc : DagC p D c) (hg : WhS.Rng D) (hlen : D.length + (n + 1) < 1073741824) (hv : 0 ≤ v ∧ v < 4294967296) (hB : 0 < B) (hG : RowAt w0 ⟨0, 0, none⟩ tabV) 
    (hr : (WhS.byWord D op a b v).isNo = false → WhS.exec rec D op a b (WhS.byWord D op a b v) = some r) (H : Hp B w0 w (c :: L)) :
    Calls Tryz.prog 99 #[.pointer (some ⟨p, 0, none⟩), .int .i64 op, .int .i64 a, .int .i64 b, .int .u32 v] w fun e w' => e = .returned (.tuple #[.int .i64 (WhS.outS D r (WhS.byWord D op a b v)).1, .bool (WhS.outS D r (WhS.byWord D op a b v)).2.1]) ∧ ∃ c', DagC p (WhS.outS D r (WhS.byWord D op a b v)).2.2 c' ∧ WhS.Rng (WhS.outS D r (WhS.byWord D op a b v)).2.2 ∧ Hp B w0 w' (c' :: L) := by
  refine calls_go Tryz.func99 Tryz.ntmps99 rfl rfl ?_
  refine TW.seq ?_
  refine TW.region ?_
  refine LW.new (r_box H) ?_; intro g5 w H
  refine LW.v (r_as) ?_
  refine LW.v (r_as) ?_
  refine LW.nil ?_
  refine TW.seq ?_
  refine TW.region ?_
  refine LW.v (r_fun (h1 := rfl) (h2 := rfl)) ?_
  refine LW.v (r_as) ?_
  refine LW.nil ?_
  refine TW.seq ?_
  refine TW.join1 H [(1, .int .i64 op), (2, .int .i64 a), (3, .int .i64 b), (4, .int .u32 v), (5, .pointer (some ⟨g5, 0, none⟩)), (12, .func (.func 108) #[] #[.pointer (some ⟨g5, 0, none⟩)]), (13, .bool (WhS.one v))] (fun go => ?_) (fun f w H => ?_)
  · refine TW.region ?_
    refine LW.v (r_mv) ?_
    refine LW.v (r_bin) ?_
    refine LW.v (r_mv) ?_
    refine LW.gen fun b hb => ?_; cases b
    · have hr0 := hb.symm; have hc0 := hb.symm; try simp only [beq_iff_eq, bne_iff_ne, beq_eq_false_iff_ne, bne_eq_false_iff_eq, decide_eq_true_eq, decide_eq_false_iff_not, Bool.not_eq_true', Bool.not_eq_false', Bool.true_eq, Bool.false_eq, ge_iff_le, gt_iff_lt, Bool.not_eq_eq_eq_not, Bool.not_true, Bool.not_false, ne_eq] at hc0
      refine LW.no (by rfl) (by rfl) (by rfl) (by rfl) (by rfl) (by rfl) ?_
      refine LW.no (by rfl) (by rfl) (by rfl) (by rfl) (by rfl) (by rfl) ?_
      refine LW.no (by rfl) (by rfl) (by rfl) (by rfl) (by rfl) (by rfl) ?_
      refine LW.no (by rfl) (by rfl) (by rfl) (by rfl) (by rfl) (by rfl) ?_
      refine LW.no (by rfl) (by rfl) (by rfl) (by rfl) (by rfl) (by rfl) ?_
      refine LW.v (r_pick) ?_
      refine LW.v (r_as) ?_
      refine LW.nil ?_
      exact go _ _ H ⟨rfl, rfl, rfl, rfl, rfl, rfl, congrArg Value.bool (by first | rfl | (simp [WhS.one, hc0]; done) | (exfalso; omega) ), trivial⟩
    · have hr0 := hb.symm; have hc0 := hb.symm; try simp only [beq_iff_eq, bne_iff_ne, beq_eq_false_iff_ne, bne_eq_false_iff_eq, decide_eq_true_eq, decide_eq_false_iff_not, Bool.not_eq_true', Bool.not_eq_false', Bool.true_eq, Bool.false_eq, ge_iff_le, gt_iff_lt, Bool.not_eq_eq_eq_not, Bool.not_true, Bool.not_false, ne_eq] at hc0
      refine LW.yes (by rfl) (by rfl) (by rfl) (by rfl) (by rfl) ?_
      refine LW.v (r_mv) ?_
      refine LW.yes (by rfl) (by rfl) (by rfl) (by rfl) (by rfl) ?_
      refine LW.v (r_mv) ?_
      refine LW.yes (by rfl) (by rfl) (by rfl) (by rfl) (by rfl) ?_
      refine LW.v (r_bin) ?_
      refine LW.yes (by rfl) (by rfl) (by rfl) (by rfl) (by rfl) ?_
      refine LW.v (r_bin) ?_
      refine LW.yes (by rfl) (by rfl) (by rfl) (by rfl) (by rfl) ?_
      refine LW.v (r_bin) ?_
      refine LW.v (r_pick) ?_
      refine LW.v (r_as) ?_
      refine LW.nil ?_
      exact go _ _ H ⟨rfl, rfl, rfl, rfl, rfl, rfl, congrArg Value.bool (by first | rfl | (simp [WhS.one, hc0]; done) | (exfalso; omega) ), trivial⟩
  refine TW.seq ?_
  refine TW.region ?_
  refine LW.v (r_mv) ?_
  refine LW.c r_c1 ((tz_spec _ _ _ _ v hB hG H).mono ?_)
  rintro _ w ⟨rfl, H⟩
  refine ⟨_, rfl, ?_⟩
  refine LW.v (r_cv) ?_
  refine LW.v (r_as) ?_
  refine LW.nil ?_
  refine TW.seq <| TW.block <| TW.seq ?_
  refine TW.join1 H [(1, .int .i64 op), (2, .int .i64 a), (3, .int .i64 b), (4, .int .u32 v), (5, .pointer (some ⟨g5, 0, none⟩)), (12, .func (.func 108) #[] #[.pointer (some ⟨g5, 0, none⟩)]), (13, .bool (WhS.one v)), (14, .int .u32 (IntKind.u32.wrap (WhS.tz v))), (34, .bool ((decide (v = 0) && WhS.among op [27, 35, 32]) || (decide (v = 1) && WhS.among op [37, 41, 42]) || (decide (v = 4294967295) && decide (op = 36))))] (fun go => ?_) (fun f w H => ?_)
  · refine TW.seq ?_
    refine TW.region ?_
    refine LW.v (r_mv) ?_
    refine LW.v (r_bin) ?_
    refine LW.v (r_mv) ?_
    refine LW.gen fun b hb => ?_; cases b
    · have hr0 := hb.symm; have hc0 := hb.symm; try simp only [beq_iff_eq, bne_iff_ne, beq_eq_false_iff_ne, bne_eq_false_iff_eq, decide_eq_true_eq, decide_eq_false_iff_not, Bool.not_eq_true', Bool.not_eq_false', Bool.true_eq, Bool.false_eq, ge_iff_le, gt_iff_lt, Bool.not_eq_eq_eq_not, Bool.not_true, Bool.not_false, ne_eq] at hc0
      refine LW.no (by rfl) (by rfl) (by rfl) (by rfl) (by rfl) (by rfl) ?_
      refine LW.no (by rfl) (by rfl) (by rfl) (by rfl) (by rfl) (by rfl) ?_
      refine LW.no (by rfl) (by rfl) (by rfl) (by rfl) (by rfl) (by rfl) ?_
      refine LW.v (r_pick) ?_
      refine LW.v (r_as) ?_
      refine LW.nil ?_
      refine TW.c rfl (fun h => by first | (cases h; done) | exact absurd h (by simp [hc0])) (fun _ => ?_)
      refine TW.seq ?_
      refine TW.region ?_
      refine LW.v (r_mv) ?_
      refine LW.v (r_bin) ?_
      refine LW.v (r_mv) ?_
      refine LW.gen fun b hb => ?_; cases b
      · have hr1 := hb.symm; have hc1 := hb.symm; try simp only [beq_iff_eq, bne_iff_ne, beq_eq_false_iff_ne, bne_eq_false_iff_eq, decide_eq_true_eq, decide_eq_false_iff_not, Bool.not_eq_true', Bool.not_eq_false', Bool.true_eq, Bool.false_eq, ge_iff_le, gt_iff_lt, Bool.not_eq_eq_eq_not, Bool.not_true, Bool.not_false, ne_eq] at hc1
        refine LW.no (by rfl) (by rfl) (by rfl) (by rfl) (by rfl) (by rfl) ?_
        refine LW.no (by rfl) (by rfl) (by rfl) (by rfl) (by rfl) (by rfl) ?_
        refine LW.no (by rfl) (by rfl) (by rfl) (by rfl) (by rfl) (by rfl) ?_
        refine LW.v (r_pick) ?_
        refine LW.v (r_as) ?_
        refine LW.nil ?_
        refine TW.c rfl (fun h => by first | (cases h; done) | exact absurd h (by simp [hc0, hc1])) (fun _ => ?_)
        refine TW.region ?_
        refine LW.v (r_mv) ?_
        refine LW.v (r_bin) ?_
        refine LW.v (r_mv) ?_
        refine LW.gen fun b hb => ?_; cases b
        · have hr2 := hb.symm; have hc2 := hb.symm; try simp only [beq_iff_eq, bne_iff_ne, beq_eq_false_iff_ne, bne_eq_false_iff_eq, decide_eq_true_eq, decide_eq_false_iff_not, Bool.not_eq_true', Bool.not_eq_false', Bool.true_eq, Bool.false_eq, ge_iff_le, gt_iff_lt, Bool.not_eq_eq_eq_not, Bool.not_true, Bool.not_false, ne_eq] at hc2
          refine LW.no (by rfl) (by rfl) (by rfl) (by rfl) (by rfl) (by rfl) ?_
          refine LW.no (by rfl) (by rfl) (by rfl) (by rfl) (by rfl) (by rfl) ?_
          refine LW.v (r_pick) ?_
          refine LW.v (r_as) ?_
          refine LW.nil ?_
          exact go _ _ H ⟨rfl, rfl, rfl, rfl, rfl, rfl, rfl, rfl, congrArg Value.bool (by first | rfl | (simp [hc0, hc1, hc2]; done) | (exfalso; omega)  | exact Bool.noConfusion (hc0.symm.trans hc1) | exact Bool.noConfusion (hc0.symm.trans hc2) | exact Bool.noConfusion (hc1.symm.trans hc2)), trivial⟩
        · have hr2 := hb.symm; have hc2 := hb.symm; try simp only [beq_iff_eq, bne_iff_ne, beq_eq_false_iff_ne, bne_eq_false_iff_eq, decide_eq_true_eq, decide_eq_false_iff_not, Bool.not_eq_true', Bool.not_eq_false', Bool.true_eq, Bool.false_eq, ge_iff_le, gt_iff_lt, Bool.not_eq_eq_eq_not, Bool.not_true, Bool.not_false, ne_eq] at hc2
          refine LW.yes (by rfl) (by rfl) (by rfl) (by rfl) (by rfl) ?_
          refine LW.v (r_mv) ?_
          refine LW.yes (by rfl) (by rfl) (by rfl) (by rfl) (by rfl) ?_
          refine LW.v (r_bin) ?_
          refine LW.v (r_pick) ?_
          refine LW.v (r_as) ?_
          refine LW.nil ?_
          exact go _ _ H ⟨rfl, rfl, rfl, rfl, rfl, rfl, rfl, rfl, congrArg Value.bool (by first | rfl | (simp [hc0, hc1, hc2]; done) | (exfalso; omega)  | exact Bool.noConfusion (hc0.symm.trans hc1) | exact Bool.noConfusion (hc0.symm.trans hc2) | exact Bool.noConfusion (hc1.symm.trans hc2)), trivial⟩
      · have hr1 := hb.symm; have hc1 := hb.symm; try simp only [beq_iff_eq, bne_iff_ne, beq_eq_false_iff_ne, bne_eq_false_iff_eq, decide_eq_true_eq, decide_eq_false_iff_not, Bool.not_eq_true', Bool.not_eq_false', Bool.true_eq, Bool.false_eq, ge_iff_le, gt_iff_lt, Bool.not_eq_eq_eq_not, Bool.not_true, Bool.not_false, ne_eq] at hc1
        refine LW.yes (by rfl) (by rfl) (by rfl) (by rfl) (by rfl) ?_
        refine LW.v (r_mv) ?_
        refine LW.yes (by rfl) (by rfl) (by rfl) (by rfl) (by rfl) ?_
        refine LW.new (r_bsl H [.int .i64 37, .int .i64 41, .int .i64 42] [.int .i64 37, .int .i64 41, .int .i64 42] rfl rfl (hv := by simp [Value.cells])) ?_; intro gb w H
        refine LW.yes (by rfl) (by rfl) (by rfl) (by rfl) (by rfl) ?_
        refine LW.c r_c2 ((among_spec _ _ _ _ [37, 41, 42] (rowAt_blk H) (by decide)).mono ?_)
        rintro _ w ⟨rfl, rfl⟩
        refine ⟨_, rfl, ?_⟩
        have H := H.drop
        refine LW.v (r_pick) ?_
        refine LW.v (r_as) ?_
        refine LW.nil ?_
        refine TW.c rfl (fun hb => ?_) (fun hb => ?_)
        · have hr2 := hb; have hc2 := hb; try simp only [beq_iff_eq, bne_iff_ne, beq_eq_false_iff_ne, bne_eq_false_iff_eq, decide_eq_true_eq, decide_eq_false_iff_not, Bool.not_eq_true', Bool.not_eq_false', Bool.true_eq, Bool.false_eq, ge_iff_le, gt_iff_lt, Bool.not_eq_eq_eq_not, Bool.not_true, Bool.not_false, ne_eq] at hc2
          refine TW.skip ?_
          exact go _ _ H ⟨rfl, rfl, rfl, rfl, rfl, rfl, rfl, rfl, congrArg Value.bool (by first | rfl | (simp [hc0, hc1, hc2]; done) | (exfalso; omega)  | exact Bool.noConfusion (hc0.symm.trans hc1) | exact Bool.noConfusion (hc0.symm.trans hc2) | exact Bool.noConfusion (hc1.symm.trans hc2)), trivial⟩
        · have hr2 := hb; have hc2 := hb; try simp only [beq_iff_eq, bne_iff_ne, beq_eq_false_iff_ne, bne_eq_false_iff_eq, decide_eq_true_eq, decide_eq_false_iff_not, Bool.not_eq_true', Bool.not_eq_false', Bool.true_eq, Bool.false_eq, ge_iff_le, gt_iff_lt, Bool.not_eq_eq_eq_not, Bool.not_true, Bool.not_false, ne_eq] at hc2
          refine TW.region ?_
          refine LW.v (r_mv) ?_
          refine LW.v (r_bin) ?_
          refine LW.v (r_mv) ?_
          refine LW.gen fun b hb => ?_; cases b
          · have hr3 := hb.symm; have hc3 := hb.symm; try simp only [beq_iff_eq, bne_iff_ne, beq_eq_false_iff_ne, bne_eq_false_iff_eq, decide_eq_true_eq, decide_eq_false_iff_not, Bool.not_eq_true', Bool.not_eq_false', Bool.true_eq, Bool.false_eq, ge_iff_le, gt_iff_lt, Bool.not_eq_eq_eq_not, Bool.not_true, Bool.not_false, ne_eq] at hc3
            refine LW.no (by rfl) (by rfl) (by rfl) (by rfl) (by rfl) (by rfl) ?_
            refine LW.no (by rfl) (by rfl) (by rfl) (by rfl) (by rfl) (by rfl) ?_
            refine LW.v (r_pick) ?_
            refine LW.v (r_as) ?_
            refine LW.nil ?_
            exact go _ _ H ⟨rfl, rfl, rfl, rfl, rfl, rfl, rfl, rfl, congrArg Value.bool (by first | rfl | (simp [hc0, hc1, hc2, hc3]; done) | (exfalso; omega)  | exact Bool.noConfusion (hc0.symm.trans hc1) | exact Bool.noConfusion (hc0.symm.trans hc2) | exact Bool.noConfusion (hc0.symm.trans hc3) | exact Bool.noConfusion (hc1.symm.trans hc2) | exact Bool.noConfusion (hc1.symm.trans hc3) | exact Bool.noConfusion (hc2.symm.trans hc3)), trivial⟩
          · have hr3 := hb.symm; have hc3 := hb.symm; try simp only [beq_iff_eq, bne_iff_ne, beq_eq_false_iff_ne, bne_eq_false_iff_eq, decide_eq_true_eq, decide_eq_false_iff_not, Bool.not_eq_true', Bool.not_eq_false', Bool.true_eq, Bool.false_eq, ge_iff_le, gt_iff_lt, Bool.not_eq_eq_eq_not, Bool.not_true, Bool.not_false, ne_eq] at hc3
            refine LW.yes (by rfl) (by rfl) (by rfl) (by rfl) (by rfl) ?_
            refine LW.v (r_mv) ?_
            refine LW.yes (by rfl) (by rfl) (by rfl) (by rfl) (by rfl) ?_
            refine LW.v (r_bin) ?_
            refine LW.v (r_pick) ?_
            refine LW.v (r_as) ?_
            refine LW.nil ?_
            exact go _ _ H ⟨rfl, rfl, rfl, rfl, rfl, rfl, rfl, rfl, congrArg Value.bool (by first | rfl | (simp [hc0, hc1, hc2, hc3]; done) | (exfalso; omega)  | exact Bool.noConfusion (hc0.symm.trans hc1) | exact Bool.noConfusion (hc0.symm.trans hc2) | exact Bool.noConfusion (hc0.symm.trans hc3) | exact Bool.noConfusion (hc1.symm.trans hc2) | exact Bool.noConfusion (hc1.symm.trans hc3) | exact Bool.noConfusion (hc2.symm.trans hc3)), trivial⟩
    · have hr0 := hb.symm; have hc0 := hb.symm; try simp only [beq_iff_eq, bne_iff_ne, beq_eq_false_iff_ne, bne_eq_false_iff_eq, decide_eq_true_eq, decide_eq_false_iff_not, Bool.not_eq_true', Bool.not_eq_false', Bool.true_eq, Bool.false_eq, ge_iff_le, gt_iff_lt, Bool.not_eq_eq_eq_not, Bool.not_true, Bool.not_false, ne_eq] at hc0
      refine LW.yes (by rfl) (by rfl) (by rfl) (by rfl) (by rfl) ?_
      refine LW.v (r_mv) ?_
      refine LW.yes (by rfl) (by rfl) (by rfl) (by rfl) (by rfl) ?_
      refine LW.new (r_bsl H [.int .i64 27, .int .i64 35, .int .i64 32] [.int .i64 27, .int .i64 35, .int .i64 32] rfl rfl (hv := by simp [Value.cells])) ?_; intro gb w H
      refine LW.yes (by rfl) (by rfl) (by rfl) (by rfl) (by rfl) ?_
      refine LW.c r_c2 ((among_spec _ _ _ _ [27, 35, 32] (rowAt_blk H) (by decide)).mono ?_)
      rintro _ w ⟨rfl, rfl⟩
      refine ⟨_, rfl, ?_⟩
      have H := H.drop
      refine LW.v (r_pick) ?_
      refine LW.v (r_as) ?_
      refine LW.nil ?_
      refine TW.c rfl (fun hb => ?_) (fun hb => ?_)
      · have hr1 := hb; have hc1 := hb; try simp only [beq_iff_eq, bne_iff_ne, beq_eq_false_iff_ne, bne_eq_false_iff_eq, decide_eq_true_eq, decide_eq_false_iff_not, Bool.not_eq_true', Bool.not_eq_false', Bool.true_eq, Bool.false_eq, ge_iff_le, gt_iff_lt, Bool.not_eq_eq_eq_not, Bool.not_true, Bool.not_false, ne_eq] at hc1
        refine TW.skip ?_
        exact go _ _ H ⟨rfl, rfl, rfl, rfl, rfl, rfl, rfl, rfl, congrArg Value.bool (by first | rfl | (simp [hc0, hc1]; done) | (exfalso; omega)  | exact Bool.noConfusion (hc0.symm.trans hc1)), trivial⟩
      · have hr1 := hb; have hc1 := hb; try simp only [beq_iff_eq, bne_iff_ne, beq_eq_false_iff_ne, bne_eq_false_iff_eq, decide_eq_true_eq, decide_eq_false_iff_not, Bool.not_eq_true', Bool.not_eq_false', Bool.true_eq, Bool.false_eq, ge_iff_le, gt_iff_lt, Bool.not_eq_eq_eq_not, Bool.not_true, Bool.not_false, ne_eq] at hc1
        refine TW.seq ?_
        refine TW.region ?_
        refine LW.v (r_mv) ?_
        refine LW.v (r_bin) ?_
        refine LW.v (r_mv) ?_
        refine LW.gen fun b hb => ?_; cases b
        · have hr2 := hb.symm; have hc2 := hb.symm; try simp only [beq_iff_eq, bne_iff_ne, beq_eq_false_iff_ne, bne_eq_false_iff_eq, decide_eq_true_eq, decide_eq_false_iff_not, Bool.not_eq_true', Bool.not_eq_false', Bool.true_eq, Bool.false_eq, ge_iff_le, gt_iff_lt, Bool.not_eq_eq_eq_not, Bool.not_true, Bool.not_false, ne_eq] at hc2
          refine LW.no (by rfl) (by rfl) (by rfl) (by rfl) (by rfl) (by rfl) ?_
          refine LW.no (by rfl) (by rfl) (by rfl) (by rfl) (by rfl) (by rfl) ?_
          refine LW.no (by rfl) (by rfl) (by rfl) (by rfl) (by rfl) (by rfl) ?_
          refine LW.v (r_pick) ?_
          refine LW.v (r_as) ?_
          refine LW.nil ?_
          refine TW.c rfl (fun h => by first | (cases h; done) | exact absurd h (by simp [hc0, hc1, hc2])) (fun _ => ?_)
          refine TW.region ?_
          refine LW.v (r_mv) ?_
          refine LW.v (r_bin) ?_
          refine LW.v (r_mv) ?_
          refine LW.gen fun b hb => ?_; cases b
          · have hr3 := hb.symm; have hc3 := hb.symm; try simp only [beq_iff_eq, bne_iff_ne, beq_eq_false_iff_ne, bne_eq_false_iff_eq, decide_eq_true_eq, decide_eq_false_iff_not, Bool.not_eq_true', Bool.not_eq_false', Bool.true_eq, Bool.false_eq, ge_iff_le, gt_iff_lt, Bool.not_eq_eq_eq_not, Bool.not_true, Bool.not_false, ne_eq] at hc3
            refine LW.no (by rfl) (by rfl) (by rfl) (by rfl) (by rfl) (by rfl) ?_
            refine LW.no (by rfl) (by rfl) (by rfl) (by rfl) (by rfl) (by rfl) ?_
            refine LW.v (r_pick) ?_
            refine LW.v (r_as) ?_
            refine LW.nil ?_
            exact go _ _ H ⟨rfl, rfl, rfl, rfl, rfl, rfl, rfl, rfl, congrArg Value.bool (by first | rfl | (simp [hc0, hc1, hc2, hc3]; done) | (exfalso; omega)  | exact Bool.noConfusion (hc0.symm.trans hc1) | exact Bool.noConfusion (hc0.symm.trans hc2) | exact Bool.noConfusion (hc0.symm.trans hc3) | exact Bool.noConfusion (hc1.symm.trans hc2) | exact Bool.noConfusion (hc1.symm.trans hc3) | exact Bool.noConfusion (hc2.symm.trans hc3)), trivial⟩
          · have hr3 := hb.symm; have hc3 := hb.symm; try simp only [beq_iff_eq, bne_iff_ne, beq_eq_false_iff_ne, bne_eq_false_iff_eq, decide_eq_true_eq, decide_eq_false_iff_not, Bool.not_eq_true', Bool.not_eq_false', Bool.true_eq, Bool.false_eq, ge_iff_le, gt_iff_lt, Bool.not_eq_eq_eq_not, Bool.not_true, Bool.not_false, ne_eq] at hc3
            refine LW.yes (by rfl) (by rfl) (by rfl) (by rfl) (by rfl) ?_
            refine LW.v (r_mv) ?_
            refine LW.yes (by rfl) (by rfl) (by rfl) (by rfl) (by rfl) ?_
            refine LW.v (r_bin) ?_
            refine LW.v (r_pick) ?_
            refine LW.v (r_as) ?_
            refine LW.nil ?_
            exact go _ _ H ⟨rfl, rfl, rfl, rfl, rfl, rfl, rfl, rfl, congrArg Value.bool (by first | rfl | (simp [hc0, hc1, hc2, hc3]; done) | (exfalso; omega)  | exact Bool.noConfusion (hc0.symm.trans hc1) | exact Bool.noConfusion (hc0.symm.trans hc2) | exact Bool.noConfusion (hc0.symm.trans hc3) | exact Bool.noConfusion (hc1.symm.trans hc2) | exact Bool.noConfusion (hc1.symm.trans hc3) | exact Bool.noConfusion (hc2.symm.trans hc3)), trivial⟩
        · have hr2 := hb.symm; have hc2 := hb.symm; try simp only [beq_iff_eq, bne_iff_ne, beq_eq_false_iff_ne, bne_eq_false_iff_eq, decide_eq_true_eq, decide_eq_false_iff_not, Bool.not_eq_true', Bool.not_eq_false', Bool.true_eq, Bool.false_eq, ge_iff_le, gt_iff_lt, Bool.not_eq_eq_eq_not, Bool.not_true, Bool.not_false, ne_eq] at hc2
          refine LW.yes (by rfl) (by rfl) (by rfl) (by rfl) (by rfl) ?_
          refine LW.v (r_mv) ?_
          refine LW.yes (by rfl) (by rfl) (by rfl) (by rfl) (by rfl) ?_
          refine LW.new (r_bsl H [.int .i64 37, .int .i64 41, .int .i64 42] [.int .i64 37, .int .i64 41, .int .i64 42] rfl rfl (hv := by simp [Value.cells])) ?_; intro gb w H
          refine LW.yes (by rfl) (by rfl) (by rfl) (by rfl) (by rfl) ?_
          refine LW.c r_c2 ((among_spec _ _ _ _ [37, 41, 42] (rowAt_blk H) (by decide)).mono ?_)
          rintro _ w ⟨rfl, rfl⟩
          refine ⟨_, rfl, ?_⟩
          have H := H.drop
          refine LW.v (r_pick) ?_
          refine LW.v (r_as) ?_
          refine LW.nil ?_
          refine TW.c rfl (fun hb => ?_) (fun hb => ?_)
          · have hr3 := hb; have hc3 := hb; try simp only [beq_iff_eq, bne_iff_ne, beq_eq_false_iff_ne, bne_eq_false_iff_eq, decide_eq_true_eq, decide_eq_false_iff_not, Bool.not_eq_true', Bool.not_eq_false', Bool.true_eq, Bool.false_eq, ge_iff_le, gt_iff_lt, Bool.not_eq_eq_eq_not, Bool.not_true, Bool.not_false, ne_eq] at hc3
            refine TW.skip ?_
            exact go _ _ H ⟨rfl, rfl, rfl, rfl, rfl, rfl, rfl, rfl, congrArg Value.bool (by first | rfl | (simp [hc0, hc1, hc2, hc3]; done) | (exfalso; omega)  | exact Bool.noConfusion (hc0.symm.trans hc1) | exact Bool.noConfusion (hc0.symm.trans hc2) | exact Bool.noConfusion (hc0.symm.trans hc3) | exact Bool.noConfusion (hc1.symm.trans hc2) | exact Bool.noConfusion (hc1.symm.trans hc3) | exact Bool.noConfusion (hc2.symm.trans hc3)), trivial⟩
          · have hr3 := hb; have hc3 := hb; try simp only [beq_iff_eq, bne_iff_ne, beq_eq_false_iff_ne, bne_eq_false_iff_eq, decide_eq_true_eq, decide_eq_false_iff_not, Bool.not_eq_true', Bool.not_eq_false', Bool.true_eq, Bool.false_eq, ge_iff_le, gt_iff_lt, Bool.not_eq_eq_eq_not, Bool.not_true, Bool.not_false, ne_eq] at hc3
            refine TW.region ?_
            refine LW.v (r_mv) ?_
            refine LW.v (r_bin) ?_
            refine LW.v (r_mv) ?_
            refine LW.gen fun b hb => ?_; cases b
            · have hr4 := hb.symm; have hc4 := hb.symm; try simp only [beq_iff_eq, bne_iff_ne, beq_eq_false_iff_ne, bne_eq_false_iff_eq, decide_eq_true_eq, decide_eq_false_iff_not, Bool.not_eq_true', Bool.not_eq_false', Bool.true_eq, Bool.false_eq, ge_iff_le, gt_iff_lt, Bool.not_eq_eq_eq_not, Bool.not_true, Bool.not_false, ne_eq] at hc4
              refine LW.no (by rfl) (by rfl) (by rfl) (by rfl) (by rfl) (by rfl) ?_
              refine LW.no (by rfl) (by rfl) (by rfl) (by rfl) (by rfl) (by rfl) ?_
              refine LW.v (r_pick) ?_
              refine LW.v (r_as) ?_
              refine LW.nil ?_
              exact go _ _ H ⟨rfl, rfl, rfl, rfl, rfl, rfl, rfl, rfl, congrArg Value.bool (by first | rfl | (simp [hc0, hc1, hc2, hc3, hc4]; done) | (exfalso; omega)  | exact Bool.noConfusion (hc0.symm.trans hc1) | exact Bool.noConfusion (hc0.symm.trans hc2) | exact Bool.noConfusion (hc0.symm.trans hc3) | exact Bool.noConfusion (hc0.symm.trans hc4) | exact Bool.noConfusion (hc1.symm.trans hc2) | exact Bool.noConfusion (hc1.symm.trans hc3) | exact Bool.noConfusion (hc1.symm.trans hc4) | exact Bool.noConfusion (hc2.symm.trans hc3) | exact Bool.noConfusion (hc2.symm.trans hc4) | exact Bool.noConfusion (hc3.symm.trans hc4)), trivial⟩
            · have hr4 := hb.symm; have hc4 := hb.symm; try simp only [beq_iff_eq, bne_iff_ne, beq_eq_false_iff_ne, bne_eq_false_iff_eq, decide_eq_true_eq, decide_eq_false_iff_not, Bool.not_eq_true', Bool.not_eq_false', Bool.true_eq, Bool.false_eq, ge_iff_le, gt_iff_lt, Bool.not_eq_eq_eq_not, Bool.not_true, Bool.not_false, ne_eq] at hc4
              refine LW.yes (by rfl) (by rfl) (by rfl) (by rfl) (by rfl) ?_
              refine LW.v (r_mv) ?_
              refine LW.yes (by rfl) (by rfl) (by rfl) (by rfl) (by rfl) ?_
              refine LW.v (r_bin) ?_
              refine LW.v (r_pick) ?_
              refine LW.v (r_as) ?_
              refine LW.nil ?_
              exact go _ _ H ⟨rfl, rfl, rfl, rfl, rfl, rfl, rfl, rfl, congrArg Value.bool (by first | rfl | (simp [hc0, hc1, hc2, hc3, hc4]; done) | (exfalso; omega)  | exact Bool.noConfusion (hc0.symm.trans hc1) | exact Bool.noConfusion (hc0.symm.trans hc2) | exact Bool.noConfusion (hc0.symm.trans hc3) | exact Bool.noConfusion (hc0.symm.trans hc4) | exact Bool.noConfusion (hc1.symm.trans hc2) | exact Bool.noConfusion (hc1.symm.trans hc3) | exact Bool.noConfusion (hc1.symm.trans hc4) | exact Bool.noConfusion (hc2.symm.trans hc3) | exact Bool.noConfusion (hc2.symm.trans hc4) | exact Bool.noConfusion (hc3.symm.trans hc4)), trivial⟩
  refine TW.c rfl (fun hb => ?_) (fun hb => ?_)
  · have hr0 := hb; have hc0 := hb; try simp only [beq_iff_eq, bne_iff_ne, beq_eq_false_iff_ne, bne_eq_false_iff_eq, decide_eq_true_eq, decide_eq_false_iff_not, Bool.not_eq_true', Bool.not_eq_false', Bool.true_eq, Bool.false_eq, ge_iff_le, gt_iff_lt, Bool.not_eq_eq_eq_not, Bool.not_true, Bool.not_false, ne_eq] at hc0
    refine TW.seq ?_
    have hs : WhS.byWord D op a b v = .ret a := by first | (simp only [WhS.byWord, hr0, if_true, if_false, Bool.false_eq_true, ↓reduceIte]; done) | (simp [WhS.byWord, hc0]; done)
    rw [hs] at hr ⊢
    refine TW.region ?_
    refine LW.v (r_mv) ?_
    refine LW.v (r_as) ?_
    refine LW.v (r_as) ?_
    refine LW.nil ?_
    refine TW.ret (ret2 (by rfl) rT rT ?_)
    obtain rfl : (a, D) = r := Option.some.inj (hr rfl)
    exact ⟨rfl, c, hc, hg, by first | exact H | exact H.drop | exact H.drop.drop⟩
  · have hr0 := hb; have hc0 := hb; try simp only [beq_iff_eq, bne_iff_ne, beq_eq_false_iff_ne, bne_eq_false_iff_eq, decide_eq_true_eq, decide_eq_false_iff_not, Bool.not_eq_true', Bool.not_eq_false', Bool.true_eq, Bool.false_eq, ge_iff_le, gt_iff_lt, Bool.not_eq_eq_eq_not, Bool.not_true, Bool.not_false, ne_eq] at hc0
    refine TW.seq ?_
    refine TW.join1 H [(1, .int .i64 op), (2, .int .i64 a), (3, .int .i64 b), (4, .int .u32 v), (5, .pointer (some ⟨g5, 0, none⟩)), (12, .func (.func 108) #[] #[.pointer (some ⟨g5, 0, none⟩)]), (13, .bool (WhS.one v)), (14, .int .u32 (IntKind.u32.wrap (WhS.tz v))), (56, .bool ((decide (v = 0) && WhS.among op [36, 37, 31]) || (decide (v = 1) && WhS.among op [43, 44])))] (fun go => ?_) (fun f w H => ?_)
    · refine TW.seq ?_
      refine TW.region ?_
      refine LW.v (r_mv) ?_
      refine LW.v (r_bin) ?_
      refine LW.v (r_mv) ?_
      refine LW.gen fun b hb => ?_; cases b
      · have hr1 := hb.symm; have hc1 := hb.symm; try simp only [beq_iff_eq, bne_iff_ne, beq_eq_false_iff_ne, bne_eq_false_iff_eq, decide_eq_true_eq, decide_eq_false_iff_not, Bool.not_eq_true', Bool.not_eq_false', Bool.true_eq, Bool.false_eq, ge_iff_le, gt_iff_lt, Bool.not_eq_eq_eq_not, Bool.not_true, Bool.not_false, ne_eq] at hc1
        refine LW.no (by rfl) (by rfl) (by rfl) (by rfl) (by rfl) (by rfl) ?_
        refine LW.no (by rfl) (by rfl) (by rfl) (by rfl) (by rfl) (by rfl) ?_
        refine LW.no (by rfl) (by rfl) (by rfl) (by rfl) (by rfl) (by rfl) ?_
        refine LW.v (r_pick) ?_
        refine LW.v (r_as) ?_
        refine LW.nil ?_
        refine TW.c rfl (fun h => by first | (cases h; done) | exact absurd h (by simp [hc0, hc1])) (fun _ => ?_)
        refine TW.region ?_
        refine LW.v (r_mv) ?_
        refine LW.v (r_bin) ?_
        refine LW.v (r_mv) ?_
        refine LW.gen fun b hb => ?_; cases b
        · have hr2 := hb.symm; have hc2 := hb.symm; try simp only [beq_iff_eq, bne_iff_ne, beq_eq_false_iff_ne, bne_eq_false_iff_eq, decide_eq_true_eq, decide_eq_false_iff_not, Bool.not_eq_true', Bool.not_eq_false', Bool.true_eq, Bool.false_eq, ge_iff_le, gt_iff_lt, Bool.not_eq_eq_eq_not, Bool.not_true, Bool.not_false, ne_eq] at hc2
          refine LW.no (by rfl) (by rfl) (by rfl) (by rfl) (by rfl) (by rfl) ?_
          refine LW.no (by rfl) (by rfl) (by rfl) (by rfl) (by rfl) (by rfl) ?_
          refine LW.no (by rfl) (by rfl) (by rfl) (by rfl) (by rfl) (by rfl) ?_
          refine LW.v (r_pick) ?_
          refine LW.v (r_as) ?_
          refine LW.nil ?_
          exact go _ _ H ⟨rfl, rfl, rfl, rfl, rfl, rfl, rfl, rfl, congrArg Value.bool (by first | rfl | (simp [hc0, hc1, hc2]; done) | (exfalso; omega)  | exact Bool.noConfusion (hc0.symm.trans hc1) | exact Bool.noConfusion (hc0.symm.trans hc2) | exact Bool.noConfusion (hc1.symm.trans hc2)), trivial⟩
        · have hr2 := hb.symm; have hc2 := hb.symm; try simp only [beq_iff_eq, bne_iff_ne, beq_eq_false_iff_ne, bne_eq_false_iff_eq, decide_eq_true_eq, decide_eq_false_iff_not, Bool.not_eq_true', Bool.not_eq_false', Bool.true_eq, Bool.false_eq, ge_iff_le, gt_iff_lt, Bool.not_eq_eq_eq_not, Bool.not_true, Bool.not_false, ne_eq] at hc2
          refine LW.yes (by rfl) (by rfl) (by rfl) (by rfl) (by rfl) ?_
          refine LW.v (r_mv) ?_
          refine LW.yes (by rfl) (by rfl) (by rfl) (by rfl) (by rfl) ?_
          refine LW.new (r_bsl H [.int .i64 43, .int .i64 44] [.int .i64 43, .int .i64 44] rfl rfl (hv := by simp [Value.cells])) ?_; intro gb w H
          refine LW.yes (by rfl) (by rfl) (by rfl) (by rfl) (by rfl) ?_
          refine LW.c r_c2 ((among_spec _ _ _ _ [43, 44] (rowAt_blk H) (by decide)).mono ?_)
          rintro _ w ⟨rfl, rfl⟩
          refine ⟨_, rfl, ?_⟩
          have H := H.drop
          refine LW.v (r_pick) ?_
          refine LW.v (r_as) ?_
          refine LW.nil ?_
          exact go _ _ H ⟨rfl, rfl, rfl, rfl, rfl, rfl, rfl, rfl, congrArg Value.bool (by first | rfl | (simp [hc0, hc1, hc2]; done) | (exfalso; omega)  | exact Bool.noConfusion (hc0.symm.trans hc1) | exact Bool.noConfusion (hc0.symm.trans hc2) | exact Bool.noConfusion (hc1.symm.trans hc2)), trivial⟩
      · have hr1 := hb.symm; have hc1 := hb.symm; try simp only [beq_iff_eq, bne_iff_ne, beq_eq_false_iff_ne, bne_eq_false_iff_eq, decide_eq_true_eq, decide_eq_false_iff_not, Bool.not_eq_true', Bool.not_eq_false', Bool.true_eq, Bool.false_eq, ge_iff_le, gt_iff_lt, Bool.not_eq_eq_eq_not, Bool.not_true, Bool.not_false, ne_eq] at hc1
        refine LW.yes (by rfl) (by rfl) (by rfl) (by rfl) (by rfl) ?_
        refine LW.v (r_mv) ?_
        refine LW.yes (by rfl) (by rfl) (by rfl) (by rfl) (by rfl) ?_
        refine LW.new (r_bsl H [.int .i64 36, .int .i64 37, .int .i64 31] [.int .i64 36, .int .i64 37, .int .i64 31] rfl rfl (hv := by simp [Value.cells])) ?_; intro gb w H
        refine LW.yes (by rfl) (by rfl) (by rfl) (by rfl) (by rfl) ?_
        refine LW.c r_c2 ((among_spec _ _ _ _ [36, 37, 31] (rowAt_blk H) (by decide)).mono ?_)
        rintro _ w ⟨rfl, rfl⟩
        refine ⟨_, rfl, ?_⟩
        have H := H.drop
        refine LW.v (r_pick) ?_
        refine LW.v (r_as) ?_
        refine LW.nil ?_
        refine TW.c rfl (fun hb => ?_) (fun hb => ?_)
        · have hr2 := hb; have hc2 := hb; try simp only [beq_iff_eq, bne_iff_ne, beq_eq_false_iff_ne, bne_eq_false_iff_eq, decide_eq_true_eq, decide_eq_false_iff_not, Bool.not_eq_true', Bool.not_eq_false', Bool.true_eq, Bool.false_eq, ge_iff_le, gt_iff_lt, Bool.not_eq_eq_eq_not, Bool.not_true, Bool.not_false, ne_eq] at hc2
          refine TW.skip ?_
          exact go _ _ H ⟨rfl, rfl, rfl, rfl, rfl, rfl, rfl, rfl, congrArg Value.bool (by first | rfl | (simp [hc0, hc1, hc2]; done) | (exfalso; omega)  | exact Bool.noConfusion (hc0.symm.trans hc1) | exact Bool.noConfusion (hc0.symm.trans hc2) | exact Bool.noConfusion (hc1.symm.trans hc2)), trivial⟩
        · have hr2 := hb; have hc2 := hb; try simp only [beq_iff_eq, bne_iff_ne, beq_eq_false_iff_ne, bne_eq_false_iff_eq, decide_eq_true_eq, decide_eq_false_iff_not, Bool.not_eq_true', Bool.not_eq_false', Bool.true_eq, Bool.false_eq, ge_iff_le, gt_iff_lt, Bool.not_eq_eq_eq_not, Bool.not_true, Bool.not_false, ne_eq] at hc2
          refine TW.region ?_
          refine LW.v (r_mv) ?_
          refine LW.v (r_bin) ?_
          refine LW.v (r_mv) ?_
          refine LW.gen fun b hb => ?_; cases b
          · have hr3 := hb.symm; have hc3 := hb.symm; try simp only [beq_iff_eq, bne_iff_ne, beq_eq_false_iff_ne, bne_eq_false_iff_eq, decide_eq_true_eq, decide_eq_false_iff_not, Bool.not_eq_true', Bool.not_eq_false', Bool.true_eq, Bool.false_eq, ge_iff_le, gt_iff_lt, Bool.not_eq_eq_eq_not, Bool.not_true, Bool.not_false, ne_eq] at hc3
            refine LW.no (by rfl) (by rfl) (by rfl) (by rfl) (by rfl) (by rfl) ?_
            refine LW.no (by rfl) (by rfl) (by rfl) (by rfl) (by rfl) (by rfl) ?_
            refine LW.no (by rfl) (by rfl) (by rfl) (by rfl) (by rfl) (by rfl) ?_
            refine LW.v (r_pick) ?_
            refine LW.v (r_as) ?_
            refine LW.nil ?_
            exact go _ _ H ⟨rfl, rfl, rfl, rfl, rfl, rfl, rfl, rfl, congrArg Value.bool (by first | rfl | (simp [hc0, hc1, hc2, hc3]; done) | (exfalso; omega)  | exact Bool.noConfusion (hc0.symm.trans hc1) | exact Bool.noConfusion (hc0.symm.trans hc2) | exact Bool.noConfusion (hc0.symm.trans hc3) | exact Bool.noConfusion (hc1.symm.trans hc2) | exact Bool.noConfusion (hc1.symm.trans hc3) | exact Bool.noConfusion (hc2.symm.trans hc3)), trivial⟩
          · have hr3 := hb.symm; have hc3 := hb.symm; try simp only [beq_iff_eq, bne_iff_ne, beq_eq_false_iff_ne, bne_eq_false_iff_eq, decide_eq_true_eq, decide_eq_false_iff_not, Bool.not_eq_true', Bool.not_eq_false', Bool.true_eq, Bool.false_eq, ge_iff_le, gt_iff_lt, Bool.not_eq_eq_eq_not, Bool.not_true, Bool.not_false, ne_eq] at hc3
            refine LW.yes (by rfl) (by rfl) (by rfl) (by rfl) (by rfl) ?_
            refine LW.v (r_mv) ?_
            refine LW.yes (by rfl) (by rfl) (by rfl) (by rfl) (by rfl) ?_
            refine LW.new (r_bsl H [.int .i64 43, .int .i64 44] [.int .i64 43, .int .i64 44] rfl rfl (hv := by simp [Value.cells])) ?_; intro gb w H
            refine LW.yes (by rfl) (by rfl) (by rfl) (by rfl) (by rfl) ?_
            refine LW.c r_c2 ((among_spec _ _ _ _ [43, 44] (rowAt_blk H) (by decide)).mono ?_)
            rintro _ w ⟨rfl, rfl⟩
            refine ⟨_, rfl, ?_⟩
            have H := H.drop
            refine LW.v (r_pick) ?_
            refine LW.v (r_as) ?_
            refine LW.nil ?_
            exact go _ _ H ⟨rfl, rfl, rfl, rfl, rfl, rfl, rfl, rfl, congrArg Value.bool (by first | rfl | (simp [hc0, hc1, hc2, hc3]; done) | (exfalso; omega)  | exact Bool.noConfusion (hc0.symm.trans hc1) | exact Bool.noConfusion (hc0.symm.trans hc2) | exact Bool.noConfusion (hc0.symm.trans hc3) | exact Bool.noConfusion (hc1.symm.trans hc2) | exact Bool.noConfusion (hc1.symm.trans hc3) | exact Bool.noConfusion (hc2.symm.trans hc3)), trivial⟩
    refine TW.c rfl (fun hb => ?_) (fun hb => ?_)
    · have hr1 := hb; have hc1 := hb; try simp only [beq_iff_eq, bne_iff_ne, beq_eq_false_iff_ne, bne_eq_false_iff_eq, decide_eq_true_eq, decide_eq_false_iff_not, Bool.not_eq_true', Bool.not_eq_false', Bool.true_eq, Bool.false_eq, ge_iff_le, gt_iff_lt, Bool.not_eq_eq_eq_not, Bool.not_true, Bool.not_false, ne_eq] at hc1
      refine TW.seq ?_
      have hs : WhS.byWord D op a b v = .const 0 := by first | (simp only [WhS.byWord, hr0, hr1, if_true, if_false, Bool.false_eq_true, ↓reduceIte]; done) | (simp [WhS.byWord, hc0, hc1]; done)
      rw [hs] at hr ⊢
      refine TW.region ?_
      refine LW.v (r_ld H) ?_
      refine LW.c r_c2 ((const_at p D 0 hc (by omega) H).mono ?_)
      rintro _ w ⟨rfl, c', hc', H⟩
      refine ⟨_, rfl, ?_⟩
      refine LW.v (r_as) ?_
      refine LW.v (r_as) ?_
      refine LW.nil ?_
      refine TW.ret (ret2 (by rfl) rT rT ?_)
      obtain rfl : addT D (WhS.K (0)) = r := Option.some.inj (hr rfl)
      exact ⟨rfl, c', hc', hg.add (by first | exact WhS.u32_rng _ | exact ⟨by decide, by decide⟩ | exact WhS.tmod_rng hv | exact WhS.wdo_rng (hg.known _) hv | exact WhS.wdo_rng (hg.known _) (hg.known _)), by first | exact H | exact H.drop | exact H.drop.drop⟩
    · have hr1 := hb; have hc1 := hb; try simp only [beq_iff_eq, bne_iff_ne, beq_eq_false_iff_ne, bne_eq_false_iff_eq, decide_eq_true_eq, decide_eq_false_iff_not, Bool.not_eq_true', Bool.not_eq_false', Bool.true_eq, Bool.false_eq, ge_iff_le, gt_iff_lt, Bool.not_eq_eq_eq_not, Bool.not_true, Bool.not_false, ne_eq] at hc1
      refine TW.seq ?_
      refine TW.join1 H [(1, .int .i64 op), (2, .int .i64 a), (3, .int .i64 b), (4, .int .u32 v), (5, .pointer (some ⟨g5, 0, none⟩)), (12, .func (.func 108) #[] #[.pointer (some ⟨g5, 0, none⟩)]), (13, .bool (WhS.one v)), (14, .int .u32 (IntKind.u32.wrap (WhS.tz v))), (73, .bool (decide (v = 4294967295) && decide (op = 35)))] (fun go => ?_) (fun f w H => ?_)
      · refine TW.region ?_
        refine LW.v (r_mv) ?_
        refine LW.v (r_bin) ?_
        refine LW.v (r_mv) ?_
        refine LW.gen fun b hb => ?_; cases b
        · have hr2 := hb.symm; have hc2 := hb.symm; try simp only [beq_iff_eq, bne_iff_ne, beq_eq_false_iff_ne, bne_eq_false_iff_eq, decide_eq_true_eq, decide_eq_false_iff_not, Bool.not_eq_true', Bool.not_eq_false', Bool.true_eq, Bool.false_eq, ge_iff_le, gt_iff_lt, Bool.not_eq_eq_eq_not, Bool.not_true, Bool.not_false, ne_eq] at hc2
          refine LW.no (by rfl) (by rfl) (by rfl) (by rfl) (by rfl) (by rfl) ?_
          refine LW.no (by rfl) (by rfl) (by rfl) (by rfl) (by rfl) (by rfl) ?_
          refine LW.v (r_pick) ?_
          refine LW.v (r_as) ?_
          refine LW.nil ?_
          exact go _ _ H ⟨rfl, rfl, rfl, rfl, rfl, rfl, rfl, rfl, congrArg Value.bool (by first | rfl | (simp [hc0, hc1, hc2]; done) | (exfalso; omega)  | exact Bool.noConfusion (hc0.symm.trans hc1) | exact Bool.noConfusion (hc0.symm.trans hc2) | exact Bool.noConfusion (hc1.symm.trans hc2)), trivial⟩
        · have hr2 := hb.symm; have hc2 := hb.symm; try simp only [beq_iff_eq, bne_iff_ne, beq_eq_false_iff_ne, bne_eq_false_iff_eq, decide_eq_true_eq, decide_eq_false_iff_not, Bool.not_eq_true', Bool.not_eq_false', Bool.true_eq, Bool.false_eq, ge_iff_le, gt_iff_lt, Bool.not_eq_eq_eq_not, Bool.not_true, Bool.not_false, ne_eq] at hc2
          refine LW.yes (by rfl) (by rfl) (by rfl) (by rfl) (by rfl) ?_
          refine LW.v (r_mv) ?_
          refine LW.yes (by rfl) (by rfl) (by rfl) (by rfl) (by rfl) ?_
          refine LW.v (r_bin) ?_
          refine LW.v (r_pick) ?_
          refine LW.v (r_as) ?_
          refine LW.nil ?_
          exact go _ _ H ⟨rfl, rfl, rfl, rfl, rfl, rfl, rfl, rfl, congrArg Value.bool (by first | rfl | (simp [hc0, hc1, hc2]; done) | (exfalso; omega)  | exact Bool.noConfusion (hc0.symm.trans hc1) | exact Bool.noConfusion (hc0.symm.trans hc2) | exact Bool.noConfusion (hc1.symm.trans hc2)), trivial⟩
      refine TW.c rfl (fun hb => ?_) (fun hb => ?_)
      · have hr2 := hb; have hc2 := hb; try simp only [beq_iff_eq, bne_iff_ne, beq_eq_false_iff_ne, bne_eq_false_iff_eq, decide_eq_true_eq, decide_eq_false_iff_not, Bool.not_eq_true', Bool.not_eq_false', Bool.true_eq, Bool.false_eq, ge_iff_le, gt_iff_lt, Bool.not_eq_eq_eq_not, Bool.not_true, Bool.not_false, ne_eq] at hc2
        refine TW.seq ?_
        have hs : WhS.byWord D op a b v = .ret b := by first | (simp only [WhS.byWord, hr0, hr1, hr2, if_true, if_false, Bool.false_eq_true, ↓reduceIte]; done) | (simp [WhS.byWord, hc0, hc1, hc2]; done)
        rw [hs] at hr ⊢
        refine TW.region ?_
        refine LW.v (r_mv) ?_
        refine LW.v (r_as) ?_
        refine LW.v (r_as) ?_
        refine LW.nil ?_
        refine TW.ret (ret2 (by rfl) rT rT ?_)
        obtain rfl : (b, D) = r := Option.some.inj (hr rfl)
        exact ⟨rfl, c, hc, hg, by first | exact H | exact H.drop | exact H.drop.drop⟩
      · have hr2 := hb; have hc2 := hb; try simp only [beq_iff_eq, bne_iff_ne, beq_eq_false_iff_ne, bne_eq_false_iff_eq, decide_eq_true_eq, decide_eq_false_iff_not, Bool.not_eq_true', Bool.not_eq_false', Bool.true_eq, Bool.false_eq, ge_iff_le, gt_iff_lt, Bool.not_eq_eq_eq_not, Bool.not_true, Bool.not_false, ne_eq] at hc2
        refine TW.seq ?_
        refine TW.join1 H [(1, .int .i64 op), (2, .int .i64 a), (3, .int .i64 b), (4, .int .u32 v), (5, .pointer (some ⟨g5, 0, none⟩)), (12, .func (.func 108) #[] #[.pointer (some ⟨g5, 0, none⟩)]), (13, .bool (WhS.one v)), (14, .int .u32 (IntKind.u32.wrap (WhS.tz v))), (81, .bool (WhS.shift op && decide (v.tmod 32 = 0)))] (fun go => ?_) (fun f w H => ?_)
        · refine TW.region ?_
          refine LW.v (r_mv) ?_
          refine LW.c r_c1 ((shift_spec _ _ _ _ op H).mono ?_)
          rintro _ w ⟨rfl, H⟩
          refine ⟨_, rfl, ?_⟩
          refine LW.v (r_mv) ?_
          refine LW.gen fun b hb => ?_; cases b
          · have hr3 := hb.symm; have hc3 := hb.symm; try simp only [beq_iff_eq, bne_iff_ne, beq_eq_false_iff_ne, bne_eq_false_iff_eq, decide_eq_true_eq, decide_eq_false_iff_not, Bool.not_eq_true', Bool.not_eq_false', Bool.true_eq, Bool.false_eq, ge_iff_le, gt_iff_lt, Bool.not_eq_eq_eq_not, Bool.not_true, Bool.not_false, ne_eq] at hc3
            refine LW.no (by rfl) (by rfl) (by rfl) (by rfl) (by rfl) (by rfl) ?_
            refine LW.no (by rfl) (by rfl) (by rfl) (by rfl) (by rfl) (by rfl) ?_
            refine LW.no (by rfl) (by rfl) (by rfl) (by rfl) (by rfl) (by rfl) ?_
            refine LW.v (r_pick) ?_
            refine LW.v (r_as) ?_
            refine LW.nil ?_
            exact go _ _ H ⟨rfl, rfl, rfl, rfl, rfl, rfl, rfl, rfl, congrArg Value.bool (by first | rfl | (simp [hc0, hc1, hc2, hc3]; done) | (exfalso; omega)  | exact Bool.noConfusion (hc0.symm.trans hc1) | exact Bool.noConfusion (hc0.symm.trans hc2) | exact Bool.noConfusion (hc0.symm.trans hc3) | exact Bool.noConfusion (hc1.symm.trans hc2) | exact Bool.noConfusion (hc1.symm.trans hc3) | exact Bool.noConfusion (hc2.symm.trans hc3)), trivial⟩
          · have hr3 := hb.symm; have hc3 := hb.symm; try simp only [beq_iff_eq, bne_iff_ne, beq_eq_false_iff_ne, bne_eq_false_iff_eq, decide_eq_true_eq, decide_eq_false_iff_not, Bool.not_eq_true', Bool.not_eq_false', Bool.true_eq, Bool.false_eq, ge_iff_le, gt_iff_lt, Bool.not_eq_eq_eq_not, Bool.not_true, Bool.not_false, ne_eq] at hc3
            refine LW.yes (by rfl) (by rfl) (by rfl) (by rfl) (by rfl) ?_
            refine LW.v (r_mv) ?_
            refine LW.yes (by rfl) (by rfl) (by rfl) (by rfl) (by rfl) ?_
            refine LW.v (r_rem (hb := by omega)) ?_
            refine LW.yes (by rfl) (by rfl) (by rfl) (by rfl) (by rfl) ?_
            refine LW.v (r_bin) ?_
            refine LW.v (r_pick) ?_
            refine LW.v (r_as) ?_
            refine LW.nil ?_
            exact go _ _ H ⟨rfl, rfl, rfl, rfl, rfl, rfl, rfl, rfl, congrArg Value.bool (by first | rfl | (simp [hc0, hc1, hc2, hc3]; done) | (exfalso; omega)  | exact Bool.noConfusion (hc0.symm.trans hc1) | exact Bool.noConfusion (hc0.symm.trans hc2) | exact Bool.noConfusion (hc0.symm.trans hc3) | exact Bool.noConfusion (hc1.symm.trans hc2) | exact Bool.noConfusion (hc1.symm.trans hc3) | exact Bool.noConfusion (hc2.symm.trans hc3)), trivial⟩
        refine TW.c rfl (fun hb => ?_) (fun hb => ?_)
        · have hr3 := hb; have hc3 := hb; try simp only [beq_iff_eq, bne_iff_ne, beq_eq_false_iff_ne, bne_eq_false_iff_eq, decide_eq_true_eq, decide_eq_false_iff_not, Bool.not_eq_true', Bool.not_eq_false', Bool.true_eq, Bool.false_eq, ge_iff_le, gt_iff_lt, Bool.not_eq_eq_eq_not, Bool.not_true, Bool.not_false, ne_eq] at hc3
          refine TW.seq ?_
          have hs : WhS.byWord D op a b v = .ret a := by first | (simp only [WhS.byWord, hr0, hr1, hr2, hr3, if_true, if_false, Bool.false_eq_true, ↓reduceIte]; done) | (simp [WhS.byWord, hc0, hc1, hc2, hc3]; done)
          rw [hs] at hr ⊢
          refine TW.region ?_
          refine LW.v (r_mv) ?_
          refine LW.v (r_as) ?_
          refine LW.v (r_as) ?_
          refine LW.nil ?_
          refine TW.ret (ret2 (by rfl) rT rT ?_)
          obtain rfl : (a, D) = r := Option.some.inj (hr rfl)
          exact ⟨rfl, c, hc, hg, by first | exact H | exact H.drop | exact H.drop.drop⟩
        · have hr3 := hb; have hc3 := hb; try simp only [beq_iff_eq, bne_iff_ne, beq_eq_false_iff_ne, bne_eq_false_iff_eq, decide_eq_true_eq, decide_eq_false_iff_not, Bool.not_eq_true', Bool.not_eq_false', Bool.true_eq, Bool.false_eq, ge_iff_le, gt_iff_lt, Bool.not_eq_eq_eq_not, Bool.not_true, Bool.not_false, ne_eq] at hc3
          refine TW.seq ?_
          refine TW.join1 H [(1, .int .i64 op), (2, .int .i64 a), (3, .int .i64 b), (4, .int .u32 v), (5, .pointer (some ⟨g5, 0, none⟩)), (12, .func (.func 108) #[] #[.pointer (some ⟨g5, 0, none⟩)]), (13, .bool (WhS.one v)), (14, .int .u32 (IntKind.u32.wrap (WhS.tz v))), (90, .bool (WhS.shift op && decide (32 ≤ v)))] (fun go => ?_) (fun f w H => ?_)
          · refine TW.region ?_
            refine LW.v (r_mv) ?_
            refine LW.c r_c1 ((shift_spec _ _ _ _ op H).mono ?_)
            rintro _ w ⟨rfl, H⟩
            refine ⟨_, rfl, ?_⟩
            refine LW.v (r_mv) ?_
            refine LW.gen fun b hb => ?_; cases b
            · have hr4 := hb.symm; have hc4 := hb.symm; try simp only [beq_iff_eq, bne_iff_ne, beq_eq_false_iff_ne, bne_eq_false_iff_eq, decide_eq_true_eq, decide_eq_false_iff_not, Bool.not_eq_true', Bool.not_eq_false', Bool.true_eq, Bool.false_eq, ge_iff_le, gt_iff_lt, Bool.not_eq_eq_eq_not, Bool.not_true, Bool.not_false, ne_eq] at hc4
              refine LW.no (by rfl) (by rfl) (by rfl) (by rfl) (by rfl) (by rfl) ?_
              refine LW.no (by rfl) (by rfl) (by rfl) (by rfl) (by rfl) (by rfl) ?_
              refine LW.v (r_pick) ?_
              refine LW.v (r_as) ?_
              refine LW.nil ?_
              exact go _ _ H ⟨rfl, rfl, rfl, rfl, rfl, rfl, rfl, rfl, congrArg Value.bool (by first | rfl | (simp [hc0, hc1, hc2, hc3, hc4]; done) | (exfalso; omega)  | exact Bool.noConfusion (hc0.symm.trans hc1) | exact Bool.noConfusion (hc0.symm.trans hc2) | exact Bool.noConfusion (hc0.symm.trans hc3) | exact Bool.noConfusion (hc0.symm.trans hc4) | exact Bool.noConfusion (hc1.symm.trans hc2) | exact Bool.noConfusion (hc1.symm.trans hc3) | exact Bool.noConfusion (hc1.symm.trans hc4) | exact Bool.noConfusion (hc2.symm.trans hc3) | exact Bool.noConfusion (hc2.symm.trans hc4) | exact Bool.noConfusion (hc3.symm.trans hc4)), trivial⟩
            · have hr4 := hb.symm; have hc4 := hb.symm; try simp only [beq_iff_eq, bne_iff_ne, beq_eq_false_iff_ne, bne_eq_false_iff_eq, decide_eq_true_eq, decide_eq_false_iff_not, Bool.not_eq_true', Bool.not_eq_false', Bool.true_eq, Bool.false_eq, ge_iff_le, gt_iff_lt, Bool.not_eq_eq_eq_not, Bool.not_true, Bool.not_false, ne_eq] at hc4
              refine LW.yes (by rfl) (by rfl) (by rfl) (by rfl) (by rfl) ?_
              refine LW.v (r_mv) ?_
              refine LW.yes (by rfl) (by rfl) (by rfl) (by rfl) (by rfl) ?_
              refine LW.v (r_bin) ?_
              refine LW.v (r_pick) ?_
              refine LW.v (r_as) ?_
              refine LW.nil ?_
              exact go _ _ H ⟨rfl, rfl, rfl, rfl, rfl, rfl, rfl, rfl, congrArg Value.bool (by first | rfl | (simp [hc0, hc1, hc2, hc3, hc4]; done) | (exfalso; omega)  | exact Bool.noConfusion (hc0.symm.trans hc1) | exact Bool.noConfusion (hc0.symm.trans hc2) | exact Bool.noConfusion (hc0.symm.trans hc3) | exact Bool.noConfusion (hc0.symm.trans hc4) | exact Bool.noConfusion (hc1.symm.trans hc2) | exact Bool.noConfusion (hc1.symm.trans hc3) | exact Bool.noConfusion (hc1.symm.trans hc4) | exact Bool.noConfusion (hc2.symm.trans hc3) | exact Bool.noConfusion (hc2.symm.trans hc4) | exact Bool.noConfusion (hc3.symm.trans hc4)), trivial⟩
          refine TW.c rfl (fun hb => ?_) (fun hb => ?_)
          · have hr4 := hb; have hc4 := hb; try simp only [beq_iff_eq, bne_iff_ne, beq_eq_false_iff_ne, bne_eq_false_iff_eq, decide_eq_true_eq, decide_eq_false_iff_not, Bool.not_eq_true', Bool.not_eq_false', Bool.true_eq, Bool.false_eq, ge_iff_le, gt_iff_lt, Bool.not_eq_eq_eq_not, Bool.not_true, Bool.not_false, ne_eq] at hc4
            refine TW.seq ?_
            have hs : WhS.byWord D op a b v = .goes op a (v.tmod 32) := by first | (simp only [WhS.byWord, hr0, hr1, hr2, hr3, hr4, if_true, if_false, Bool.false_eq_true, ↓reduceIte]; done) | (simp [WhS.byWord, hc0, hc1, hc2, hc3, hc4]; done)
            rw [hs] at hr ⊢
            refine TW.region ?_
            refine LW.v (r_mv) ?_
            refine LW.v (r_mv) ?_
            refine LW.v (r_mv) ?_
            refine LW.v (r_mv) ?_
            refine LW.v (r_rem (hb := by omega)) ?_
            have H := H.perm (perm_front _ 1 _ rfl)
            simp only [List.eraseIdx] at H
            refine LW.c r_k3 ((goes_spec h hc hg hlen (by first | exact WhS.u32_rng _ | exact ⟨by decide, by decide⟩ | exact WhS.tmod_rng hv | exact WhS.wdo_rng (hg.known _) hv | exact WhS.wdo_rng (hg.known _) (hg.known _)) (hr rfl) (by infer_instance) H).mono ?_)
            rintro _ w ⟨rfl, c2, hc2, hg2, H⟩
            refine ⟨_, rfl, ?_⟩
            refine LW.v (r_ext) ?_
            refine LW.v (r_ext) ?_
            refine LW.v (r_as) ?_
            refine LW.v (r_as) ?_
            refine LW.nil ?_
            refine TW.ret (ret2 (by rfl) rT rT ?_)
            exact ⟨rfl, c2, hc2, hg2, by first | exact H | exact H.drop | exact H.dropAt 1 | exact (H.dropAt 1).dropAt 1⟩
          · have hr4 := hb; have hc4 := hb; try simp only [beq_iff_eq, bne_iff_ne, beq_eq_false_iff_ne, bne_eq_false_iff_eq, decide_eq_true_eq, decide_eq_false_iff_not, Bool.not_eq_true', Bool.not_eq_false', Bool.true_eq, Bool.false_eq, ge_iff_le, gt_iff_lt, Bool.not_eq_eq_eq_not, Bool.not_true, Bool.not_false, ne_eq] at hc4
            refine TW.seq ?_
            refine TW.join1 H [(1, .int .i64 op), (2, .int .i64 a), (3, .int .i64 b), (4, .int .u32 v), (5, .pointer (some ⟨g5, 0, none⟩)), (12, .func (.func 108) #[] #[.pointer (some ⟨g5, 0, none⟩)]), (13, .bool (WhS.one v)), (14, .int .u32 (IntKind.u32.wrap (WhS.tz v))), (105, .bool (WhS.one v && decide (1 < v) && decide (op = 37)))] (fun go => ?_) (fun f w H => ?_)
            · refine TW.region ?_
              refine LW.v (r_mv) ?_
              refine LW.v (r_mv) ?_
              refine LW.gen fun b hb => ?_; cases b
              · have hr5 := hb.symm; have hc5 := hb.symm; try simp only [beq_iff_eq, bne_iff_ne, beq_eq_false_iff_ne, bne_eq_false_iff_eq, decide_eq_true_eq, decide_eq_false_iff_not, Bool.not_eq_true', Bool.not_eq_false', Bool.true_eq, Bool.false_eq, ge_iff_le, gt_iff_lt, Bool.not_eq_eq_eq_not, Bool.not_true, Bool.not_false, ne_eq] at hc5
                refine LW.no (by rfl) (by rfl) (by rfl) (by rfl) (by rfl) (by rfl) ?_
                refine LW.no (by rfl) (by rfl) (by rfl) (by rfl) (by rfl) (by rfl) ?_
                refine LW.v (r_pick) ?_
                refine LW.v (r_mv) ?_
                refine LW.no (by rfl) (by rfl) (by rfl) (by rfl) (by rfl) (by rfl) ?_
                refine LW.no (by rfl) (by rfl) (by rfl) (by rfl) (by rfl) (by rfl) ?_
                refine LW.v (r_pick) ?_
                refine LW.v (r_as) ?_
                refine LW.nil ?_
                exact go _ _ H ⟨rfl, rfl, rfl, rfl, rfl, rfl, rfl, rfl, congrArg Value.bool (by first | rfl | (simp [hc0, hc1, hc2, hc3, hc4, hc5]; done) | (exfalso; omega)  | exact Bool.noConfusion (hc0.symm.trans hc1) | exact Bool.noConfusion (hc0.symm.trans hc2) | exact Bool.noConfusion (hc0.symm.trans hc3) | exact Bool.noConfusion (hc0.symm.trans hc4) | exact Bool.noConfusion (hc0.symm.trans hc5) | exact Bool.noConfusion (hc1.symm.trans hc2) | exact Bool.noConfusion (hc1.symm.trans hc3) | exact Bool.noConfusion (hc1.symm.trans hc4) | exact Bool.noConfusion (hc1.symm.trans hc5) | exact Bool.noConfusion (hc2.symm.trans hc3) | exact Bool.noConfusion (hc2.symm.trans hc4) | exact Bool.noConfusion (hc2.symm.trans hc5) | exact Bool.noConfusion (hc3.symm.trans hc4) | exact Bool.noConfusion (hc3.symm.trans hc5) | exact Bool.noConfusion (hc4.symm.trans hc5)), trivial⟩
              · have hr5 := hb.symm; have hc5 := hb.symm; try simp only [beq_iff_eq, bne_iff_ne, beq_eq_false_iff_ne, bne_eq_false_iff_eq, decide_eq_true_eq, decide_eq_false_iff_not, Bool.not_eq_true', Bool.not_eq_false', Bool.true_eq, Bool.false_eq, ge_iff_le, gt_iff_lt, Bool.not_eq_eq_eq_not, Bool.not_true, Bool.not_false, ne_eq] at hc5
                refine LW.yes (by rfl) (by rfl) (by rfl) (by rfl) (by rfl) ?_
                refine LW.v (r_mv) ?_
                refine LW.yes (by rfl) (by rfl) (by rfl) (by rfl) (by rfl) ?_
                refine LW.v (r_bin) ?_
                refine LW.v (r_pick) ?_
                refine LW.v (r_mv) ?_
                refine LW.gen fun b hb => ?_; cases b
                · have hr6 := hb.symm; have hc6 := hb.symm; try simp only [beq_iff_eq, bne_iff_ne, beq_eq_false_iff_ne, bne_eq_false_iff_eq, decide_eq_true_eq, decide_eq_false_iff_not, Bool.not_eq_true', Bool.not_eq_false', Bool.true_eq, Bool.false_eq, ge_iff_le, gt_iff_lt, Bool.not_eq_eq_eq_not, Bool.not_true, Bool.not_false, ne_eq] at hc6
                  refine LW.no (by rfl) (by rfl) (by rfl) (by rfl) (by rfl) (by rfl) ?_
                  refine LW.no (by rfl) (by rfl) (by rfl) (by rfl) (by rfl) (by rfl) ?_
                  refine LW.v (r_pick) ?_
                  refine LW.v (r_as) ?_
                  refine LW.nil ?_
                  exact go _ _ H ⟨rfl, rfl, rfl, rfl, rfl, rfl, rfl, rfl, congrArg Value.bool (by first | rfl | (simp [hc0, hc1, hc2, hc3, hc4, hc5, hc6]; done) | (exfalso; omega)  | exact Bool.noConfusion (hc0.symm.trans hc1) | exact Bool.noConfusion (hc0.symm.trans hc2) | exact Bool.noConfusion (hc0.symm.trans hc3) | exact Bool.noConfusion (hc0.symm.trans hc4) | exact Bool.noConfusion (hc0.symm.trans hc5) | exact Bool.noConfusion (hc0.symm.trans hc6) | exact Bool.noConfusion (hc1.symm.trans hc2) | exact Bool.noConfusion (hc1.symm.trans hc3) | exact Bool.noConfusion (hc1.symm.trans hc4) | exact Bool.noConfusion (hc1.symm.trans hc5) | exact Bool.noConfusion (hc1.symm.trans hc6) | exact Bool.noConfusion (hc2.symm.trans hc3) | exact Bool.noConfusion (hc2.symm.trans hc4) | exact Bool.noConfusion (hc2.symm.trans hc5) | exact Bool.noConfusion (hc2.symm.trans hc6) | exact Bool.noConfusion (hc3.symm.trans hc4) | exact Bool.noConfusion (hc3.symm.trans hc5) | exact Bool.noConfusion (hc3.symm.trans hc6) | exact Bool.noConfusion (hc4.symm.trans hc5) | exact Bool.noConfusion (hc4.symm.trans hc6) | exact Bool.noConfusion (hc5.symm.trans hc6)), trivial⟩
                · have hr6 := hb.symm; have hc6 := hb.symm; try simp only [beq_iff_eq, bne_iff_ne, beq_eq_false_iff_ne, bne_eq_false_iff_eq, decide_eq_true_eq, decide_eq_false_iff_not, Bool.not_eq_true', Bool.not_eq_false', Bool.true_eq, Bool.false_eq, ge_iff_le, gt_iff_lt, Bool.not_eq_eq_eq_not, Bool.not_true, Bool.not_false, ne_eq] at hc6
                  refine LW.yes (by rfl) (by rfl) (by rfl) (by rfl) (by rfl) ?_
                  refine LW.v (r_mv) ?_
                  refine LW.yes (by rfl) (by rfl) (by rfl) (by rfl) (by rfl) ?_
                  refine LW.v (r_bin) ?_
                  refine LW.v (r_pick) ?_
                  refine LW.v (r_as) ?_
                  refine LW.nil ?_
                  exact go _ _ H ⟨rfl, rfl, rfl, rfl, rfl, rfl, rfl, rfl, congrArg Value.bool (by first | rfl | (simp [hc0, hc1, hc2, hc3, hc4, hc5, hc6]; done) | (exfalso; omega)  | exact Bool.noConfusion (hc0.symm.trans hc1) | exact Bool.noConfusion (hc0.symm.trans hc2) | exact Bool.noConfusion (hc0.symm.trans hc3) | exact Bool.noConfusion (hc0.symm.trans hc4) | exact Bool.noConfusion (hc0.symm.trans hc5) | exact Bool.noConfusion (hc0.symm.trans hc6) | exact Bool.noConfusion (hc1.symm.trans hc2) | exact Bool.noConfusion (hc1.symm.trans hc3) | exact Bool.noConfusion (hc1.symm.trans hc4) | exact Bool.noConfusion (hc1.symm.trans hc5) | exact Bool.noConfusion (hc1.symm.trans hc6) | exact Bool.noConfusion (hc2.symm.trans hc3) | exact Bool.noConfusion (hc2.symm.trans hc4) | exact Bool.noConfusion (hc2.symm.trans hc5) | exact Bool.noConfusion (hc2.symm.trans hc6) | exact Bool.noConfusion (hc3.symm.trans hc4) | exact Bool.noConfusion (hc3.symm.trans hc5) | exact Bool.noConfusion (hc3.symm.trans hc6) | exact Bool.noConfusion (hc4.symm.trans hc5) | exact Bool.noConfusion (hc4.symm.trans hc6) | exact Bool.noConfusion (hc5.symm.trans hc6)), trivial⟩
            refine TW.c rfl (fun hb => ?_) (fun hb => ?_)
            · have hr5 := hb; have hc5 := hb; try simp only [beq_iff_eq, bne_iff_ne, beq_eq_false_iff_ne, bne_eq_false_iff_eq, decide_eq_true_eq, decide_eq_false_iff_not, Bool.not_eq_true', Bool.not_eq_false', Bool.true_eq, Bool.false_eq, ge_iff_le, gt_iff_lt, Bool.not_eq_eq_eq_not, Bool.not_true, Bool.not_false, ne_eq] at hc5
              refine TW.seq ?_
              have hs : WhS.byWord D op a b v = .goes 29 a (IntKind.u32.wrap (WhS.tz v)) := by first | (simp only [WhS.byWord, hr0, hr1, hr2, hr3, hr4, hr5, if_true, if_false, Bool.false_eq_true, ↓reduceIte]; done) | (simp [WhS.byWord, hc0, hc1, hc2, hc3, hc4, hc5]; done)
              rw [hs] at hr ⊢
              refine TW.region ?_
              refine LW.v (r_mv) ?_
              refine LW.v (r_mv) ?_
              refine LW.v (r_mv) ?_
              have H := H.perm (perm_front _ 1 _ rfl)
              simp only [List.eraseIdx] at H
              refine LW.c r_k3 ((goes_spec h hc hg hlen (by first | exact WhS.u32_rng _ | exact ⟨by decide, by decide⟩ | exact WhS.tmod_rng hv | exact WhS.wdo_rng (hg.known _) hv | exact WhS.wdo_rng (hg.known _) (hg.known _)) (hr rfl) (by infer_instance) H).mono ?_)
              rintro _ w ⟨rfl, c2, hc2, hg2, H⟩
              refine ⟨_, rfl, ?_⟩
              refine LW.v (r_ext) ?_
              refine LW.v (r_ext) ?_
              refine LW.v (r_as) ?_
              refine LW.v (r_as) ?_
              refine LW.nil ?_
              refine TW.ret (ret2 (by rfl) rT rT ?_)
              exact ⟨rfl, c2, hc2, hg2, by first | exact H | exact H.drop | exact H.dropAt 1 | exact (H.dropAt 1).dropAt 1⟩
            · have hr5 := hb; have hc5 := hb; try simp only [beq_iff_eq, bne_iff_ne, beq_eq_false_iff_ne, bne_eq_false_iff_eq, decide_eq_true_eq, decide_eq_false_iff_not, Bool.not_eq_true', Bool.not_eq_false', Bool.true_eq, Bool.false_eq, ge_iff_le, gt_iff_lt, Bool.not_eq_eq_eq_not, Bool.not_true, Bool.not_false, ne_eq] at hc5
              refine TW.seq ?_
              refine TW.join1 H [(1, .int .i64 op), (2, .int .i64 a), (3, .int .i64 b), (4, .int .u32 v), (5, .pointer (some ⟨g5, 0, none⟩)), (12, .func (.func 108) #[] #[.pointer (some ⟨g5, 0, none⟩)]), (13, .bool (WhS.one v)), (14, .int .u32 (IntKind.u32.wrap (WhS.tz v))), (121, .bool (WhS.one v && decide (1 < v) && decide (op = 42)))] (fun go => ?_) (fun f w H => ?_)
              · refine TW.region ?_
                refine LW.v (r_mv) ?_
                refine LW.v (r_mv) ?_
                refine LW.gen fun b hb => ?_; cases b
                · have hr6 := hb.symm; have hc6 := hb.symm; try simp only [beq_iff_eq, bne_iff_ne, beq_eq_false_iff_ne, bne_eq_false_iff_eq, decide_eq_true_eq, decide_eq_false_iff_not, Bool.not_eq_true', Bool.not_eq_false', Bool.true_eq, Bool.false_eq, ge_iff_le, gt_iff_lt, Bool.not_eq_eq_eq_not, Bool.not_true, Bool.not_false, ne_eq] at hc6
                  refine LW.no (by rfl) (by rfl) (by rfl) (by rfl) (by rfl) (by rfl) ?_
                  refine LW.no (by rfl) (by rfl) (by rfl) (by rfl) (by rfl) (by rfl) ?_
                  refine LW.v (r_pick) ?_
                  refine LW.v (r_mv) ?_
                  refine LW.no (by rfl) (by rfl) (by rfl) (by rfl) (by rfl) (by rfl) ?_
                  refine LW.no (by rfl) (by rfl) (by rfl) (by rfl) (by rfl) (by rfl) ?_
                  refine LW.v (r_pick) ?_
                  refine LW.v (r_as) ?_
                  refine LW.nil ?_
                  exact go _ _ H ⟨rfl, rfl, rfl, rfl, rfl, rfl, rfl, rfl, congrArg Value.bool (by first | rfl | (simp [hc0, hc1, hc2, hc3, hc4, hc5, hc6]; done) | (exfalso; omega)  | exact Bool.noConfusion (hc0.symm.trans hc1) | exact Bool.noConfusion (hc0.symm.trans hc2) | exact Bool.noConfusion (hc0.symm.trans hc3) | exact Bool.noConfusion (hc0.symm.trans hc4) | exact Bool.noConfusion (hc0.symm.trans hc5) | exact Bool.noConfusion (hc0.symm.trans hc6) | exact Bool.noConfusion (hc1.symm.trans hc2) | exact Bool.noConfusion (hc1.symm.trans hc3) | exact Bool.noConfusion (hc1.symm.trans hc4) | exact Bool.noConfusion (hc1.symm.trans hc5) | exact Bool.noConfusion (hc1.symm.trans hc6) | exact Bool.noConfusion (hc2.symm.trans hc3) | exact Bool.noConfusion (hc2.symm.trans hc4) | exact Bool.noConfusion (hc2.symm.trans hc5) | exact Bool.noConfusion (hc2.symm.trans hc6) | exact Bool.noConfusion (hc3.symm.trans hc4) | exact Bool.noConfusion (hc3.symm.trans hc5) | exact Bool.noConfusion (hc3.symm.trans hc6) | exact Bool.noConfusion (hc4.symm.trans hc5) | exact Bool.noConfusion (hc4.symm.trans hc6) | exact Bool.noConfusion (hc5.symm.trans hc6)), trivial⟩
                · have hr6 := hb.symm; have hc6 := hb.symm; try simp only [beq_iff_eq, bne_iff_ne, beq_eq_false_iff_ne, bne_eq_false_iff_eq, decide_eq_true_eq, decide_eq_false_iff_not, Bool.not_eq_true', Bool.not_eq_false', Bool.true_eq, Bool.false_eq, ge_iff_le, gt_iff_lt, Bool.not_eq_eq_eq_not, Bool.not_true, Bool.not_false, ne_eq] at hc6
                  refine LW.yes (by rfl) (by rfl) (by rfl) (by rfl) (by rfl) ?_
                  refine LW.v (r_mv) ?_
                  refine LW.yes (by rfl) (by rfl) (by rfl) (by rfl) (by rfl) ?_
                  refine LW.v (r_bin) ?_
                  refine LW.v (r_pick) ?_
                  refine LW.v (r_mv) ?_
                  refine LW.gen fun b hb => ?_; cases b
                  · have hr7 := hb.symm; have hc7 := hb.symm; try simp only [beq_iff_eq, bne_iff_ne, beq_eq_false_iff_ne, bne_eq_false_iff_eq, decide_eq_true_eq, decide_eq_false_iff_not, Bool.not_eq_true', Bool.not_eq_false', Bool.true_eq, Bool.false_eq, ge_iff_le, gt_iff_lt, Bool.not_eq_eq_eq_not, Bool.not_true, Bool.not_false, ne_eq] at hc7
                    refine LW.no (by rfl) (by rfl) (by rfl) (by rfl) (by rfl) (by rfl) ?_
                    refine LW.no (by rfl) (by rfl) (by rfl) (by rfl) (by rfl) (by rfl) ?_
                    refine LW.v (r_pick) ?_
                    refine LW.v (r_as) ?_
                    refine LW.nil ?_
                    exact go _ _ H ⟨rfl, rfl, rfl, rfl, rfl, rfl, rfl, rfl, congrArg Value.bool (by first | rfl | (simp [hc0, hc1, hc2, hc3, hc4, hc5, hc6, hc7]; done) | (exfalso; omega) ), trivial⟩
                  · have hr7 := hb.symm; have hc7 := hb.symm; try simp only [beq_iff_eq, bne_iff_ne, beq_eq_false_iff_ne, bne_eq_false_iff_eq, decide_eq_true_eq, decide_eq_false_iff_not, Bool.not_eq_true', Bool.not_eq_false', Bool.true_eq, Bool.false_eq, ge_iff_le, gt_iff_lt, Bool.not_eq_eq_eq_not, Bool.not_true, Bool.not_false, ne_eq] at hc7
                    refine LW.yes (by rfl) (by rfl) (by rfl) (by rfl) (by rfl) ?_
                    refine LW.v (r_mv) ?_
                    refine LW.yes (by rfl) (by rfl) (by rfl) (by rfl) (by rfl) ?_
                    refine LW.v (r_bin) ?_
                    refine LW.v (r_pick) ?_
                    refine LW.v (r_as) ?_
                    refine LW.nil ?_
                    exact go _ _ H ⟨rfl, rfl, rfl, rfl, rfl, rfl, rfl, rfl, congrArg Value.bool (by first | rfl | (simp [hc0, hc1, hc2, hc3, hc4, hc5, hc6, hc7]; done) | (exfalso; omega) ), trivial⟩
              refine TW.c rfl (fun hb => ?_) (fun hb => ?_)
              · have hr6 := hb; have hc6 := hb; try simp only [beq_iff_eq, bne_iff_ne, beq_eq_false_iff_ne, bne_eq_false_iff_eq, decide_eq_true_eq, decide_eq_false_iff_not, Bool.not_eq_true', Bool.not_eq_false', Bool.true_eq, Bool.false_eq, ge_iff_le, gt_iff_lt, Bool.not_eq_eq_eq_not, Bool.not_true, Bool.not_false, ne_eq] at hc6
                refine TW.seq ?_
                have hs : WhS.byWord D op a b v = .goes 33 a (IntKind.u32.wrap (WhS.tz v)) := by first | (simp only [WhS.byWord, hr0, hr1, hr2, hr3, hr4, hr5, hr6, if_true, if_false, Bool.false_eq_true, ↓reduceIte]; done) | (simp [WhS.byWord, hc0, hc1, hc2, hc3, hc4, hc5, hc6]; done)
                rw [hs] at hr ⊢
                refine TW.region ?_
                refine LW.v (r_mv) ?_
                refine LW.v (r_mv) ?_
                refine LW.v (r_mv) ?_
                have H := H.perm (perm_front _ 1 _ rfl)
                simp only [List.eraseIdx] at H
                refine LW.c r_k3 ((goes_spec h hc hg hlen (by first | exact WhS.u32_rng _ | exact ⟨by decide, by decide⟩ | exact WhS.tmod_rng hv | exact WhS.wdo_rng (hg.known _) hv | exact WhS.wdo_rng (hg.known _) (hg.known _)) (hr rfl) (by infer_instance) H).mono ?_)
                rintro _ w ⟨rfl, c2, hc2, hg2, H⟩
                refine ⟨_, rfl, ?_⟩
                refine LW.v (r_ext) ?_
                refine LW.v (r_ext) ?_
                refine LW.v (r_as) ?_
                refine LW.v (r_as) ?_
                refine LW.nil ?_
                refine TW.ret (ret2 (by rfl) rT rT ?_)
                exact ⟨rfl, c2, hc2, hg2, by first | exact H | exact H.drop | exact H.dropAt 1 | exact (H.dropAt 1).dropAt 1⟩
              · have hr6 := hb; have hc6 := hb; try simp only [beq_iff_eq, bne_iff_ne, beq_eq_false_iff_ne, bne_eq_false_iff_eq, decide_eq_true_eq, decide_eq_false_iff_not, Bool.not_eq_true', Bool.not_eq_false', Bool.true_eq, Bool.false_eq, ge_iff_le, gt_iff_lt, Bool.not_eq_eq_eq_not, Bool.not_true, Bool.not_false, ne_eq] at hc6
                refine TW.seq ?_
                refine TW.join1 H [(1, .int .i64 op), (2, .int .i64 a), (3, .int .i64 b), (4, .int .u32 v), (5, .pointer (some ⟨g5, 0, none⟩)), (12, .func (.func 108) #[] #[.pointer (some ⟨g5, 0, none⟩)]), (13, .bool (WhS.one v)), (14, .int .u32 (IntKind.u32.wrap (WhS.tz v))), (137, .bool (WhS.one v && decide (1 < v) && decide (op = 44)))] (fun go => ?_) (fun f w H => ?_)
                · refine TW.region ?_
                  refine LW.v (r_mv) ?_
                  refine LW.v (r_mv) ?_
                  refine LW.gen fun b hb => ?_; cases b
                  · have hr7 := hb.symm; have hc7 := hb.symm; try simp only [beq_iff_eq, bne_iff_ne, beq_eq_false_iff_ne, bne_eq_false_iff_eq, decide_eq_true_eq, decide_eq_false_iff_not, Bool.not_eq_true', Bool.not_eq_false', Bool.true_eq, Bool.false_eq, ge_iff_le, gt_iff_lt, Bool.not_eq_eq_eq_not, Bool.not_true, Bool.not_false, ne_eq] at hc7
                    refine LW.no (by rfl) (by rfl) (by rfl) (by rfl) (by rfl) (by rfl) ?_
                    refine LW.no (by rfl) (by rfl) (by rfl) (by rfl) (by rfl) (by rfl) ?_
                    refine LW.v (r_pick) ?_
                    refine LW.v (r_mv) ?_
                    refine LW.no (by rfl) (by rfl) (by rfl) (by rfl) (by rfl) (by rfl) ?_
                    refine LW.no (by rfl) (by rfl) (by rfl) (by rfl) (by rfl) (by rfl) ?_
                    refine LW.v (r_pick) ?_
                    refine LW.v (r_as) ?_
                    refine LW.nil ?_
                    exact go _ _ H ⟨rfl, rfl, rfl, rfl, rfl, rfl, rfl, rfl, congrArg Value.bool (by first | rfl | (simp [hc0, hc1, hc2, hc3, hc4, hc5, hc6, hc7]; done) | (exfalso; omega) ), trivial⟩
                  · have hr7 := hb.symm; have hc7 := hb.symm; try simp only [beq_iff_eq, bne_iff_ne, beq_eq_false_iff_ne, bne_eq_false_iff_eq, decide_eq_true_eq, decide_eq_false_iff_not, Bool.not_eq_true', Bool.not_eq_false', Bool.true_eq, Bool.false_eq, ge_iff_le, gt_iff_lt, Bool.not_eq_eq_eq_not, Bool.not_true, Bool.not_false, ne_eq] at hc7
                    refine LW.yes (by rfl) (by rfl) (by rfl) (by rfl) (by rfl) ?_
                    refine LW.v (r_mv) ?_
                    refine LW.yes (by rfl) (by rfl) (by rfl) (by rfl) (by rfl) ?_
                    refine LW.v (r_bin) ?_
                    refine LW.v (r_pick) ?_
                    refine LW.v (r_mv) ?_
                    refine LW.gen fun b hb => ?_; cases b
                    · have hr8 := hb.symm; have hc8 := hb.symm; try simp only [beq_iff_eq, bne_iff_ne, beq_eq_false_iff_ne, bne_eq_false_iff_eq, decide_eq_true_eq, decide_eq_false_iff_not, Bool.not_eq_true', Bool.not_eq_false', Bool.true_eq, Bool.false_eq, ge_iff_le, gt_iff_lt, Bool.not_eq_eq_eq_not, Bool.not_true, Bool.not_false, ne_eq] at hc8
                      refine LW.no (by rfl) (by rfl) (by rfl) (by rfl) (by rfl) (by rfl) ?_
                      refine LW.no (by rfl) (by rfl) (by rfl) (by rfl) (by rfl) (by rfl) ?_
                      refine LW.v (r_pick) ?_
                      refine LW.v (r_as) ?_
                      refine LW.nil ?_
                      exact go _ _ H ⟨rfl, rfl, rfl, rfl, rfl, rfl, rfl, rfl, congrArg Value.bool (by first | rfl | (simp [hc0, hc1, hc2, hc3, hc4, hc5, hc6, hc7, hc8]; done) | (exfalso; omega) ), trivial⟩
                    · have hr8 := hb.symm; have hc8 := hb.symm; try simp only [beq_iff_eq, bne_iff_ne, beq_eq_false_iff_ne, bne_eq_false_iff_eq, decide_eq_true_eq, decide_eq_false_iff_not, Bool.not_eq_true', Bool.not_eq_false', Bool.true_eq, Bool.false_eq, ge_iff_le, gt_iff_lt, Bool.not_eq_eq_eq_not, Bool.not_true, Bool.not_false, ne_eq] at hc8
                      refine LW.yes (by rfl) (by rfl) (by rfl) (by rfl) (by rfl) ?_
                      refine LW.v (r_mv) ?_
                      refine LW.yes (by rfl) (by rfl) (by rfl) (by rfl) (by rfl) ?_
                      refine LW.v (r_bin) ?_
                      refine LW.v (r_pick) ?_
                      refine LW.v (r_as) ?_
                      refine LW.nil ?_
                      exact go _ _ H ⟨rfl, rfl, rfl, rfl, rfl, rfl, rfl, rfl, congrArg Value.bool (by first | rfl | (simp [hc0, hc1, hc2, hc3, hc4, hc5, hc6, hc7, hc8]; done) | (exfalso; omega) ), trivial⟩
                refine TW.c rfl (fun hb => ?_) (fun hb => ?_)
                · have hr7 := hb; have hc7 := hb; try simp only [beq_iff_eq, bne_iff_ne, beq_eq_false_iff_ne, bne_eq_false_iff_eq, decide_eq_true_eq, decide_eq_false_iff_not, Bool.not_eq_true', Bool.not_eq_false', Bool.true_eq, Bool.false_eq, ge_iff_le, gt_iff_lt, Bool.not_eq_eq_eq_not, Bool.not_true, Bool.not_false, ne_eq] at hc7
                  refine TW.seq ?_
                  have hs : WhS.byWord D op a b v = .goes 36 a (IntKind.u32.wrap (v - 1)) := by first | (simp only [WhS.byWord, hr0, hr1, hr2, hr3, hr4, hr5, hr6, hr7, if_true, if_false, Bool.false_eq_true, ↓reduceIte]; done) | (simp [WhS.byWord, hc0, hc1, hc2, hc3, hc4, hc5, hc6, hc7]; done)
                  rw [hs] at hr ⊢
                  refine TW.region ?_
                  refine LW.v (r_mv) ?_
                  refine LW.v (r_mv) ?_
                  refine LW.v (r_mv) ?_
                  refine LW.v (r_bin) ?_
                  have H := H.perm (perm_front _ 1 _ rfl)
                  simp only [List.eraseIdx] at H
                  refine LW.c r_k3 ((goes_spec h hc hg hlen (by first | exact WhS.u32_rng _ | exact ⟨by decide, by decide⟩ | exact WhS.tmod_rng hv | exact WhS.wdo_rng (hg.known _) hv | exact WhS.wdo_rng (hg.known _) (hg.known _)) (hr rfl) (by infer_instance) H).mono ?_)
                  rintro _ w ⟨rfl, c2, hc2, hg2, H⟩
                  refine ⟨_, rfl, ?_⟩
                  refine LW.v (r_ext) ?_
                  refine LW.v (r_ext) ?_
                  refine LW.v (r_as) ?_
                  refine LW.v (r_as) ?_
                  refine LW.nil ?_
                  refine TW.ret (ret2 (by rfl) rT rT ?_)
                  exact ⟨rfl, c2, hc2, hg2, by first | exact H | exact H.drop | exact H.dropAt 1 | exact (H.dropAt 1).dropAt 1⟩
                · have hr7 := hb; have hc7 := hb; try simp only [beq_iff_eq, bne_iff_ne, beq_eq_false_iff_ne, bne_eq_false_iff_eq, decide_eq_true_eq, decide_eq_false_iff_not, Bool.not_eq_true', Bool.not_eq_false', Bool.true_eq, Bool.false_eq, ge_iff_le, gt_iff_lt, Bool.not_eq_eq_eq_not, Bool.not_true, Bool.not_false, ne_eq] at hc7
                  refine TW.skip <| TW.inBlock <| TW.seq ?_
                  refine TW.region ?_
                  refine LW.v (r_ld H) ?_
                  refine LW.v (r_mv) ?_
                  refine LW.c r_c2 ((node_at p D a hc H).mono ?_)
                  rintro _ w ⟨rfl, H⟩
                  refine ⟨_, rfl, ?_⟩
                  refine LW.v (r_mv) ?_
                  refine LW.v (r_ext) ?_
                  refine LW.v (r_ext) ?_
                  refine LW.new (r_al H) ?_; intro g15 w H
                  refine LW.sto (r_stW H) ?_; intro w H
                  refine LW.v (r_as) ?_
                  refine LW.nil ?_
                  refine TW.seq <| TW.seq ?_
                  refine TW.join1 H [(1, .int .i64 op), (4, .int .u32 v), (5, .pointer (some ⟨g5, 0, none⟩)), (12, .func (.func 108) #[] #[.pointer (some ⟨g5, 0, none⟩)]), (15, .pointer (some ⟨g15, 0, none⟩)), (168, .bool (!decide ((WhD.node D a).1.kind = 2) || !decide ((WhD.node D a).1.op = op)))] (fun go => ?_) (fun f w H => ?_)
                  · refine TW.region ?_
                    refine LW.v (r_fa) ?_
                    refine LW.v (r_ld H) ?_
                    refine LW.v (r_bin) ?_
                    refine LW.v (r_mv) ?_
                    refine LW.gen fun b hb => ?_; cases b
                    · have hr8 := hb.symm; have hc8 := hb.symm; try simp only [beq_iff_eq, bne_iff_ne, beq_eq_false_iff_ne, bne_eq_false_iff_eq, decide_eq_true_eq, decide_eq_false_iff_not, Bool.not_eq_true', Bool.not_eq_false', Bool.true_eq, Bool.false_eq, ge_iff_le, gt_iff_lt, Bool.not_eq_eq_eq_not, Bool.not_true, Bool.not_false, ne_eq] at hc8
                      refine LW.yes (by rfl) (by rfl) (by rfl) (by rfl) (by rfl) ?_
                      refine LW.v (r_fa) ?_
                      refine LW.yes (by rfl) (by rfl) (by rfl) (by rfl) (by rfl) ?_
                      refine LW.v (r_ld H) ?_
                      refine LW.yes (by rfl) (by rfl) (by rfl) (by rfl) (by rfl) ?_
                      refine LW.v (r_mv) ?_
                      refine LW.yes (by rfl) (by rfl) (by rfl) (by rfl) (by rfl) ?_
                      refine LW.v (r_bin) ?_
                      refine LW.v (r_pick) ?_
                      refine LW.nil ?_
                      exact go _ _ H ⟨rfl, rfl, rfl, rfl, rfl, congrArg Value.bool (by first | rfl | (simp [hc0, hc1, hc2, hc3, hc4, hc5, hc6, hc7, hc8]; done) | (exfalso; omega) ), trivial⟩
                    · have hr8 := hb.symm; have hc8 := hb.symm; try simp only [beq_iff_eq, bne_iff_ne, beq_eq_false_iff_ne, bne_eq_false_iff_eq, decide_eq_true_eq, decide_eq_false_iff_not, Bool.not_eq_true', Bool.not_eq_false', Bool.true_eq, Bool.false_eq, ge_iff_le, gt_iff_lt, Bool.not_eq_eq_eq_not, Bool.not_true, Bool.not_false, ne_eq] at hc8
                      refine LW.no (by rfl) (by rfl) (by rfl) (by rfl) (by rfl) (by rfl) ?_
                      refine LW.no (by rfl) (by rfl) (by rfl) (by rfl) (by rfl) (by rfl) ?_
                      refine LW.no (by rfl) (by rfl) (by rfl) (by rfl) (by rfl) (by rfl) ?_
                      refine LW.no (by rfl) (by rfl) (by rfl) (by rfl) (by rfl) (by rfl) ?_
                      refine LW.v (r_pick) ?_
                      refine LW.nil ?_
                      exact go _ _ H ⟨rfl, rfl, rfl, rfl, rfl, congrArg Value.bool (by first | rfl | (simp [hc0, hc1, hc2, hc3, hc4, hc5, hc6, hc7, hc8]; done) | (exfalso; omega) ), trivial⟩
                  refine TW.c rfl (fun hb => ?_) (fun hb => ?_)
                  · have hr8 := hb; have hc8 := hb; try simp only [beq_iff_eq, bne_iff_ne, beq_eq_false_iff_ne, bne_eq_false_iff_eq, decide_eq_true_eq, decide_eq_false_iff_not, Bool.not_eq_true', Bool.not_eq_false', Bool.true_eq, Bool.false_eq, ge_iff_le, gt_iff_lt, Bool.not_eq_eq_eq_not, Bool.not_true, Bool.not_false, ne_eq] at hc8
                    refine TW.seq ?_
                    have hs : WhS.byWord D op a b v = .no := by first | (simp only [WhS.byWord, hr0, hr1, hr2, hr3, hr4, hr5, hr6, hr7, hr8, if_true, if_false, Bool.false_eq_true, ↓reduceIte]; done) | (simp [WhS.byWord, hc0, hc1, hc2, hc3, hc4, hc5, hc6, hc7, hc8]; done)
                    rw [hs] at hr ⊢
                    refine TW.region ?_
                    refine LW.v (r_as) ?_
                    refine LW.v (r_as) ?_
                    refine LW.nil ?_
                    refine TW.ret (ret2 (by rfl) rT rT ?_)
                    exact ⟨rfl, c, hc, hg, by first | exact H | exact H.drop | exact H.drop.drop⟩
                  · have hr8 := hb; have hc8 := hb; try simp only [beq_iff_eq, bne_iff_ne, beq_eq_false_iff_ne, bne_eq_false_iff_eq, decide_eq_true_eq, decide_eq_false_iff_not, Bool.not_eq_true', Bool.not_eq_false', Bool.true_eq, Bool.false_eq, ge_iff_le, gt_iff_lt, Bool.not_eq_eq_eq_not, Bool.not_true, Bool.not_false, ne_eq] at hc8
                    refine TW.skip <| TW.seq ?_
                    refine TW.region ?_
                    refine LW.v (r_ld H) ?_
                    refine LW.v (r_fa) ?_
                    refine LW.v (r_ld H) ?_
                    refine LW.c r_c2 ((known_at p D (WhD.node D a).1.b hc H).mono ?_)
                    rintro _ w ⟨rfl, H⟩
                    refine ⟨_, rfl, ?_⟩
                    refine LW.v (r_mv) ?_
                    refine LW.v (r_ext) ?_
                    refine LW.v (r_ext) ?_
                    refine LW.v (r_as) ?_
                    refine LW.v (r_as) ?_
                    refine LW.nil ?_
                    refine TW.seq <| TW.block <| TW.seq ?_
                    refine TW.region ?_
                    refine LW.v (r_mv) ?_
                    refine LW.v (r_not) ?_
                    refine LW.v (r_as) ?_
                    refine LW.nil ?_
                    refine TW.c rfl (fun hb => ?_) (fun hb => ?_)
                    · have hr9 := hb; have hc9 := hb; try simp only [beq_iff_eq, bne_iff_ne, beq_eq_false_iff_ne, bne_eq_false_iff_eq, decide_eq_true_eq, decide_eq_false_iff_not, Bool.not_eq_true', Bool.not_eq_false', Bool.true_eq, Bool.false_eq, ge_iff_le, gt_iff_lt, Bool.not_eq_eq_eq_not, Bool.not_true, Bool.not_false, ne_eq] at hc9
                      refine TW.seq ?_
                      have hs : WhS.byWord D op a b v = .no := by first | (simp only [WhS.byWord, hr0, hr1, hr2, hr3, hr4, hr5, hr6, hr7, hr8, hr9, if_true, if_false, Bool.false_eq_true, ↓reduceIte]; done) | (simp [WhS.byWord, hc0, hc1, hc2, hc3, hc4, hc5, hc6, hc7, hc8, hc9]; done)
                      rw [hs] at hr ⊢
                      refine TW.region ?_
                      refine LW.v (r_as) ?_
                      refine LW.v (r_as) ?_
                      refine LW.nil ?_
                      refine TW.ret (ret2 (by rfl) rT rT ?_)
                      exact ⟨rfl, c, hc, hg, by first | exact H | exact H.drop | exact H.drop.drop⟩
                    · have hr9 := hb; have hc9 := hb; try simp only [beq_iff_eq, bne_iff_ne, beq_eq_false_iff_ne, bne_eq_false_iff_eq, decide_eq_true_eq, decide_eq_false_iff_not, Bool.not_eq_true', Bool.not_eq_false', Bool.true_eq, Bool.false_eq, ge_iff_le, gt_iff_lt, Bool.not_eq_eq_eq_not, Bool.not_true, Bool.not_false, ne_eq] at hc9
                      refine TW.seq ?_
                      refine TW.region ?_
                      refine LW.v (r_mv) ?_
                      refine LW.new (r_bsl H [.int .i64 27, .int .i64 36, .int .i64 35, .int .i64 32] [.int .i64 27, .int .i64 36, .int .i64 35, .int .i64 32] rfl rfl (hv := by simp [Value.cells])) ?_; intro gb w H
                      refine LW.c r_c2 ((among_spec _ _ _ _ [27, 36, 35, 32] (rowAt_blk H) (by decide)).mono ?_)
                      rintro _ w ⟨rfl, rfl⟩
                      refine ⟨_, rfl, ?_⟩
                      have H := H.drop
                      refine LW.v (r_as) ?_
                      refine LW.nil ?_
                      refine TW.c rfl (fun hb => ?_) (fun hb => ?_)
                      · have hr10 := hb; have hc10 := hb; try simp only [beq_iff_eq, bne_iff_ne, beq_eq_false_iff_ne, bne_eq_false_iff_eq, decide_eq_true_eq, decide_eq_false_iff_not, Bool.not_eq_true', Bool.not_eq_false', Bool.true_eq, Bool.false_eq, ge_iff_le, gt_iff_lt, Bool.not_eq_eq_eq_not, Bool.not_true, Bool.not_false, ne_eq] at hc10
                        refine TW.seq ?_
                        refine TW.region ?_
                        refine LW.v (r_mv) ?_
                        refine LW.v (r_mv) ?_
                        refine LW.v (r_mv) ?_
                        refine LW.c r_c3 ((wdo_spec _ _ _ _ op (WhS.known D (WhD.node D a).1.b).1 v hv.1 hv.2 H).mono ?_)
                        rintro _ w ⟨rfl, H⟩
                        refine ⟨_, rfl, ?_⟩
                        refine LW.v (r_mv) ?_
                        refine LW.v (r_ext) ?_
                        refine LW.v (r_ext) ?_
                        refine LW.v (r_as) ?_
                        refine LW.v (r_as) ?_
                        refine LW.nil ?_
                        refine TW.seq ?_
                        have hs : WhS.byWord D op a b v = .goes op (WhD.node D a).1.a (WhI.wdo op (WhS.known D (WhD.node D a).1.b).1 v).1 := by first | (simp only [WhS.byWord, hr0, hr1, hr2, hr3, hr4, hr5, hr6, hr7, hr8, hr9, hr10, if_true, if_false, Bool.false_eq_true, ↓reduceIte]; done) | (simp [WhS.byWord, hc0, hc1, hc2, hc3, hc4, hc5, hc6, hc7, hc8, hc9, hc10]; done)
                        rw [hs] at hr ⊢
                        refine TW.region ?_
                        refine LW.v (r_mv) ?_
                        refine LW.v (r_mv) ?_
                        refine LW.v (r_fa) ?_
                        refine LW.v (r_ld H) ?_
                        refine LW.v (r_mv) ?_
                        have H := H.perm (perm_front _ 2 _ rfl)
                        simp only [List.eraseIdx] at H
                        refine LW.c r_k3 ((goes_spec h hc hg hlen (by first | exact WhS.u32_rng _ | exact ⟨by decide, by decide⟩ | exact WhS.tmod_rng hv | exact WhS.wdo_rng (hg.known _) hv | exact WhS.wdo_rng (hg.known _) (hg.known _)) (hr rfl) (by infer_instance) H).mono ?_)
                        rintro _ w ⟨rfl, c2, hc2, hg2, H⟩
                        refine ⟨_, rfl, ?_⟩
                        refine LW.v (r_ext) ?_
                        refine LW.v (r_ext) ?_
                        refine LW.v (r_as) ?_
                        refine LW.v (r_as) ?_
                        refine LW.nil ?_
                        refine TW.ret (ret2 (by rfl) rT rT ?_)
                        exact ⟨rfl, c2, hc2, hg2, by first | exact H | exact H.drop | exact H.dropAt 1 | exact (H.dropAt 1).dropAt 1⟩
                      · have hr10 := hb; have hc10 := hb; try simp only [beq_iff_eq, bne_iff_ne, beq_eq_false_iff_ne, bne_eq_false_iff_eq, decide_eq_true_eq, decide_eq_false_iff_not, Bool.not_eq_true', Bool.not_eq_false', Bool.true_eq, Bool.false_eq, ge_iff_le, gt_iff_lt, Bool.not_eq_eq_eq_not, Bool.not_true, Bool.not_false, ne_eq] at hc10
                        refine TW.seq ?_
                        refine TW.join1 H [(1, .int .i64 op), (4, .int .u32 v), (5, .pointer (some ⟨g5, 0, none⟩)), (12, .func (.func 108) #[] #[.pointer (some ⟨g5, 0, none⟩)]), (15, .pointer (some ⟨g15, 0, none⟩)), (17, .int .u32 (WhS.known D (WhD.node D a).1.b).1), (198, .bool (!WhS.shift op || decide ((WhS.known D (WhD.node D a).1.b).1 < 1) || decide (32 ≤ (WhS.known D (WhD.node D a).1.b).1)))] (fun go => ?_) (fun f w H => ?_)
                        · refine TW.region ?_
                          refine LW.v (r_mv) ?_
                          refine LW.c r_c1 ((shift_spec _ _ _ _ op H).mono ?_)
                          rintro _ w ⟨rfl, H⟩
                          refine ⟨_, rfl, ?_⟩
                          refine LW.v (r_not) ?_
                          refine LW.v (r_mv) ?_
                          refine LW.gen fun b hb => ?_; cases b
                          · have hr11 := hb.symm; have hc11 := hb.symm; try simp only [beq_iff_eq, bne_iff_ne, beq_eq_false_iff_ne, bne_eq_false_iff_eq, decide_eq_true_eq, decide_eq_false_iff_not, Bool.not_eq_true', Bool.not_eq_false', Bool.true_eq, Bool.false_eq, ge_iff_le, gt_iff_lt, Bool.not_eq_eq_eq_not, Bool.not_true, Bool.not_false, ne_eq] at hc11
                            refine LW.yes (by rfl) (by rfl) (by rfl) (by rfl) (by rfl) ?_
                            refine LW.v (r_mv) ?_
                            refine LW.yes (by rfl) (by rfl) (by rfl) (by rfl) (by rfl) ?_
                            refine LW.v (r_bin) ?_
                            refine LW.v (r_pick) ?_
                            refine LW.v (r_mv) ?_
                            refine LW.gen fun b hb => ?_; cases b
                            · have hr12 := hb.symm; have hc12 := hb.symm; try simp only [beq_iff_eq, bne_iff_ne, beq_eq_false_iff_ne, bne_eq_false_iff_eq, decide_eq_true_eq, decide_eq_false_iff_not, Bool.not_eq_true', Bool.not_eq_false', Bool.true_eq, Bool.false_eq, ge_iff_le, gt_iff_lt, Bool.not_eq_eq_eq_not, Bool.not_true, Bool.not_false, ne_eq] at hc12
                              refine LW.yes (by rfl) (by rfl) (by rfl) (by rfl) (by rfl) ?_
                              refine LW.v (r_mv) ?_
                              refine LW.yes (by rfl) (by rfl) (by rfl) (by rfl) (by rfl) ?_
                              refine LW.v (r_bin) ?_
                              refine LW.v (r_pick) ?_
                              refine LW.v (r_as) ?_
                              refine LW.nil ?_
                              exact go _ _ H ⟨rfl, rfl, rfl, rfl, rfl, rfl, congrArg Value.bool (by first | rfl | (simp [hc0, hc1, hc2, hc3, hc4, hc5, hc6, hc7, hc8, hc9, hc10, hc11, hc12]; done) | (exfalso; omega) ), trivial⟩
                            · have hr12 := hb.symm; have hc12 := hb.symm; try simp only [beq_iff_eq, bne_iff_ne, beq_eq_false_iff_ne, bne_eq_false_iff_eq, decide_eq_true_eq, decide_eq_false_iff_not, Bool.not_eq_true', Bool.not_eq_false', Bool.true_eq, Bool.false_eq, ge_iff_le, gt_iff_lt, Bool.not_eq_eq_eq_not, Bool.not_true, Bool.not_false, ne_eq] at hc12
                              refine LW.no (by rfl) (by rfl) (by rfl) (by rfl) (by rfl) (by rfl) ?_
                              refine LW.no (by rfl) (by rfl) (by rfl) (by rfl) (by rfl) (by rfl) ?_
                              refine LW.v (r_pick) ?_
                              refine LW.v (r_as) ?_
                              refine LW.nil ?_
                              exact go _ _ H ⟨rfl, rfl, rfl, rfl, rfl, rfl, congrArg Value.bool (by first | rfl | (simp [hc0, hc1, hc2, hc3, hc4, hc5, hc6, hc7, hc8, hc9, hc10, hc11, hc12]; done) | (exfalso; omega) ), trivial⟩
                          · have hr11 := hb.symm; have hc11 := hb.symm; try simp only [beq_iff_eq, bne_iff_ne, beq_eq_false_iff_ne, bne_eq_false_iff_eq, decide_eq_true_eq, decide_eq_false_iff_not, Bool.not_eq_true', Bool.not_eq_false', Bool.true_eq, Bool.false_eq, ge_iff_le, gt_iff_lt, Bool.not_eq_eq_eq_not, Bool.not_true, Bool.not_false, ne_eq] at hc11
                            refine LW.no (by rfl) (by rfl) (by rfl) (by rfl) (by rfl) (by rfl) ?_
                            refine LW.no (by rfl) (by rfl) (by rfl) (by rfl) (by rfl) (by rfl) ?_
                            refine LW.v (r_pick) ?_
                            refine LW.v (r_mv) ?_
                            refine LW.no (by rfl) (by rfl) (by rfl) (by rfl) (by rfl) (by rfl) ?_
                            refine LW.no (by rfl) (by rfl) (by rfl) (by rfl) (by rfl) (by rfl) ?_
                            refine LW.v (r_pick) ?_
                            refine LW.v (r_as) ?_
                            refine LW.nil ?_
                            exact go _ _ H ⟨rfl, rfl, rfl, rfl, rfl, rfl, congrArg Value.bool (by first | rfl | (simp [hc0, hc1, hc2, hc3, hc4, hc5, hc6, hc7, hc8, hc9, hc10, hc11]; done) | (exfalso; omega) ), trivial⟩
                        refine TW.c rfl (fun hb => ?_) (fun hb => ?_)
                        · have hr11 := hb; have hc11 := hb; try simp only [beq_iff_eq, bne_iff_ne, beq_eq_false_iff_ne, bne_eq_false_iff_eq, decide_eq_true_eq, decide_eq_false_iff_not, Bool.not_eq_true', Bool.not_eq_false', Bool.true_eq, Bool.false_eq, ge_iff_le, gt_iff_lt, Bool.not_eq_eq_eq_not, Bool.not_true, Bool.not_false, ne_eq] at hc11
                          refine TW.seq ?_
                          have hs : WhS.byWord D op a b v = .no := by first | (simp only [WhS.byWord, hr0, hr1, hr2, hr3, hr4, hr5, hr6, hr7, hr8, hr9, hr10, hr11, if_true, if_false, Bool.false_eq_true, ↓reduceIte]; done) | (simp [WhS.byWord, hc0, hc1, hc2, hc3, hc4, hc5, hc6, hc7, hc8, hc9, hc10, hc11]; done)
                          rw [hs] at hr ⊢
                          refine TW.region ?_
                          refine LW.v (r_as) ?_
                          refine LW.v (r_as) ?_
                          refine LW.nil ?_
                          refine TW.ret (ret2 (by rfl) rT rT ?_)
                          exact ⟨rfl, c, hc, hg, by first | exact H | exact H.drop | exact H.drop.drop⟩
                        · have hr11 := hb; have hc11 := hb; try simp only [beq_iff_eq, bne_iff_ne, beq_eq_false_iff_ne, bne_eq_false_iff_eq, decide_eq_true_eq, decide_eq_false_iff_not, Bool.not_eq_true', Bool.not_eq_false', Bool.true_eq, Bool.false_eq, ge_iff_le, gt_iff_lt, Bool.not_eq_eq_eq_not, Bool.not_true, Bool.not_false, ne_eq] at hc11
                          refine TW.seq ?_
                          refine TW.region ?_
                          refine LW.v (r_mv) ?_
                          refine LW.v (r_mv) ?_
                          refine LW.v (r_bin) ?_
                          refine LW.v (r_bin) ?_
                          refine LW.v (r_as) ?_
                          refine LW.nil ?_
                          refine TW.c rfl (fun hb => ?_) (fun hb => ?_)
                          · have hr12 := hb; have hc12 := hb; try simp only [beq_iff_eq, bne_iff_ne, beq_eq_false_iff_ne, bne_eq_false_iff_eq, decide_eq_true_eq, decide_eq_false_iff_not, Bool.not_eq_true', Bool.not_eq_false', Bool.true_eq, Bool.false_eq, ge_iff_le, gt_iff_lt, Bool.not_eq_eq_eq_not, Bool.not_true, Bool.not_false, ne_eq] at hc12
                            refine TW.seq ?_
                            have hs : WhS.byWord D op a b v = .goes op (WhD.node D a).1.a (IntKind.u32.wrap ((WhS.known D (WhD.node D a).1.b).1 + v)) := by first | (simp only [WhS.byWord, hr0, hr1, hr2, hr3, hr4, hr5, hr6, hr7, hr8, hr9, hr10, hr11, hr12, if_true, if_false, Bool.false_eq_true, ↓reduceIte]; done) | (simp [WhS.byWord, hc0, hc1, hc2, hc3, hc4, hc5, hc6, hc7, hc8, hc9, hc10, hc11, hc12]; done)
                            rw [hs] at hr ⊢
                            refine TW.region ?_
                            refine LW.v (r_mv) ?_
                            refine LW.v (r_mv) ?_
                            refine LW.v (r_fa) ?_
                            refine LW.v (r_ld H) ?_
                            refine LW.v (r_mv) ?_
                            refine LW.v (r_mv) ?_
                            refine LW.v (r_bin) ?_
                            have H := H.perm (perm_front _ 2 _ rfl)
                            simp only [List.eraseIdx] at H
                            refine LW.c r_k3 ((goes_spec h hc hg hlen (by first | exact WhS.u32_rng _ | exact ⟨by decide, by decide⟩ | exact WhS.tmod_rng hv | exact WhS.wdo_rng (hg.known _) hv | exact WhS.wdo_rng (hg.known _) (hg.known _)) (hr rfl) (by infer_instance) H).mono ?_)
                            rintro _ w ⟨rfl, c2, hc2, hg2, H⟩
                            refine ⟨_, rfl, ?_⟩
                            refine LW.v (r_ext) ?_
                            refine LW.v (r_ext) ?_
                            refine LW.v (r_as) ?_
                            refine LW.v (r_as) ?_
                            refine LW.nil ?_
                            refine TW.ret (ret2 (by rfl) rT rT ?_)
                            exact ⟨rfl, c2, hc2, hg2, by first | exact H | exact H.drop | exact H.dropAt 1 | exact (H.dropAt 1).dropAt 1⟩
                          · have hr12 := hb; have hc12 := hb; try simp only [beq_iff_eq, bne_iff_ne, beq_eq_false_iff_ne, bne_eq_false_iff_eq, decide_eq_true_eq, decide_eq_false_iff_not, Bool.not_eq_true', Bool.not_eq_false', Bool.true_eq, Bool.false_eq, ge_iff_le, gt_iff_lt, Bool.not_eq_eq_eq_not, Bool.not_true, Bool.not_false, ne_eq] at hc12
                            refine TW.seq ?_
                            refine TW.region ?_
                            refine LW.v (r_mv) ?_
                            refine LW.v (r_bin) ?_
                            refine LW.v (r_as) ?_
                            refine LW.nil ?_
                            refine TW.c rfl (fun hb => ?_) (fun hb => ?_)
                            · have hr13 := hb; have hc13 := hb; try simp only [beq_iff_eq, bne_iff_ne, beq_eq_false_iff_ne, bne_eq_false_iff_eq, decide_eq_true_eq, decide_eq_false_iff_not, Bool.not_eq_true', Bool.not_eq_false', Bool.true_eq, Bool.false_eq, ge_iff_le, gt_iff_lt, Bool.not_eq_eq_eq_not, Bool.not_true, Bool.not_false, ne_eq] at hc13
                              refine TW.seq ?_
                              have hs : WhS.byWord D op a b v = .goes op (WhD.node D a).1.a 31 := by first | (simp only [WhS.byWord, hr0, hr1, hr2, hr3, hr4, hr5, hr6, hr7, hr8, hr9, hr10, hr11, hr12, hr13, if_true, if_false, Bool.false_eq_true, ↓reduceIte]; done) | (simp [WhS.byWord, hc0, hc1, hc2, hc3, hc4, hc5, hc6, hc7, hc8, hc9, hc10, hc11, hc12, hc13]; done)
                              rw [hs] at hr ⊢
                              refine TW.region ?_
                              refine LW.v (r_mv) ?_
                              refine LW.v (r_mv) ?_
                              refine LW.v (r_fa) ?_
                              refine LW.v (r_ld H) ?_
                              have H := H.perm (perm_front _ 2 _ rfl)
                              simp only [List.eraseIdx] at H
                              refine LW.c r_k3 ((goes_spec h hc hg hlen (by first | exact WhS.u32_rng _ | exact ⟨by decide, by decide⟩ | exact WhS.tmod_rng hv | exact WhS.wdo_rng (hg.known _) hv | exact WhS.wdo_rng (hg.known _) (hg.known _)) (hr rfl) (by infer_instance) H).mono ?_)
                              rintro _ w ⟨rfl, c2, hc2, hg2, H⟩
                              refine ⟨_, rfl, ?_⟩
                              refine LW.v (r_ext) ?_
                              refine LW.v (r_ext) ?_
                              refine LW.v (r_as) ?_
                              refine LW.v (r_as) ?_
                              refine LW.nil ?_
                              refine TW.ret (ret2 (by rfl) rT rT ?_)
                              exact ⟨rfl, c2, hc2, hg2, by first | exact H | exact H.drop | exact H.dropAt 1 | exact (H.dropAt 1).dropAt 1⟩
                            · have hr13 := hb; have hc13 := hb; try simp only [beq_iff_eq, bne_iff_ne, beq_eq_false_iff_ne, bne_eq_false_iff_eq, decide_eq_true_eq, decide_eq_false_iff_not, Bool.not_eq_true', Bool.not_eq_false', Bool.true_eq, Bool.false_eq, ge_iff_le, gt_iff_lt, Bool.not_eq_eq_eq_not, Bool.not_true, Bool.not_false, ne_eq] at hc13
                              refine TW.skip <| TW.inBlock <| TW.seq ?_
                              have hs : WhS.byWord D op a b v = .const 0 := by first | (simp only [WhS.byWord, hr0, hr1, hr2, hr3, hr4, hr5, hr6, hr7, hr8, hr9, hr10, hr11, hr12, hr13, if_true, if_false, Bool.false_eq_true, ↓reduceIte]; done) | (simp [WhS.byWord, hc0, hc1, hc2, hc3, hc4, hc5, hc6, hc7, hc8, hc9, hc10, hc11, hc12, hc13]; done)
                              rw [hs] at hr ⊢
                              refine TW.region ?_
                              refine LW.v (r_ld H) ?_
                              refine LW.c r_c2 ((const_at p D 0 hc (by omega) H).mono ?_)
                              rintro _ w ⟨rfl, c', hc', H⟩
                              refine ⟨_, rfl, ?_⟩
                              refine LW.v (r_as) ?_
                              refine LW.v (r_as) ?_
                              refine LW.nil ?_
                              refine TW.ret (ret2 (by rfl) rT rT ?_)
                              obtain rfl : addT D (WhS.K (0)) = r := Option.some.inj (hr rfl)
                              exact ⟨rfl, c', hc', hg.add (by first | exact WhS.u32_rng _ | exact ⟨by decide, by decide⟩ | exact WhS.tmod_rng hv | exact WhS.wdo_rng (hg.known _) hv | exact WhS.wdo_rng (hg.known _) (hg.known _)), by first | exact H | exact H.drop | exact H.drop.drop⟩
theorem byWord_no {B : Nat} {w0 w : World} {p n : Nat} {rec : WhS.Rec} (h : MadeOK B w0 p n rec) {D : List T} {c : Ck} {Ls : List Ck} {mk : Ck → List Ck} {op a b v : Int} (hc : DagC p D c) (hg : WhS.Rng D) (hlen : D.length + (n + 1) < 1073741824) (hv : 0 ≤ v ∧ v < 4294967296) (hB : 0 < B) (hG : RowAt w0 ⟨0, 0, none⟩ tabV)
    (hno : (WhS.byWord D op a b v).isNo = true) (H : Hp B w0 w Ls) (hb : HasC Ls c mk := by infer_instance) :
    Calls Tryz.prog 99 #[.pointer (some ⟨p, 0, none⟩), .int .i64 op, .int .i64 a, .int .i64 b, .int .u32 v] w fun e w' => e = .returned (.tuple #[.int .i64 0, .bool false]) ∧ ∃ c', DagC p D c' ∧ Hp B w0 w' (mk c') := by
  obtain ⟨R, H1, back⟩ := H.pick (h := hb)
  have := byWord_spec h (op := op) (a := a) (b := b) (v := v) (r := (0, D)) hc hg hlen hv hB hG (fun e => by rw [hno] at e; cases e) H1
  simp only [WhS.outS, hno, if_true] at this
  exact this.mono fun e w' ⟨h1, c', h2, h3, h4⟩ => ⟨h1, c', h2, back _ _ h4⟩
theorem byWord_yes {B : Nat} {w0 w : World} {p n : Nat} {rec : WhS.Rec} (h : MadeOK B w0 p n rec) {D : List T} {c : Ck} {Ls : List Ck} {mk : Ck → List Ck} {op a b v : Int} {r : Int × List T} (hc : DagC p D c) (hg : WhS.Rng D) (hlen : D.length + (n + 1) < 1073741824) (hv : 0 ≤ v ∧ v < 4294967296) (hB : 0 < B) (hG : RowAt w0 ⟨0, 0, none⟩ tabV)
    (hno : (WhS.byWord D op a b v).isNo = false) (hr : WhS.exec rec D op a b (WhS.byWord D op a b v) = some r) (H : Hp B w0 w Ls) (hb : HasC Ls c mk := by infer_instance) :
    Calls Tryz.prog 99 #[.pointer (some ⟨p, 0, none⟩), .int .i64 op, .int .i64 a, .int .i64 b, .int .u32 v] w fun e w' => e = .returned (.tuple #[.int .i64 r.1, .bool true]) ∧ ∃ c', DagC p r.2 c' ∧ WhS.Rng r.2 ∧ Hp B w0 w' (mk c') := by
  obtain ⟨R, H1, back⟩ := H.pick (h := hb)
  have := byWord_spec h (op := op) (a := a) (b := b) (v := v) (r := r) hc hg hlen hv hB hG (fun _ => hr) H1
  simp only [WhS.outS, hno, Bool.false_eq_true, if_false] at this
  exact this.mono fun e w' ⟨h1, c', h2, h3, h4⟩ => ⟨h1, c', h2, h3, back _ _ h4⟩
theorem twice_no {B : Nat} {w0 w : World} {p n : Nat} {rec : WhS.Rec} (h : MadeOK B w0 p n rec) {D : List T} {c : Ck} {Ls : List Ck} {mk : Ck → List Ck} {op a : Int} (hc : DagC p D c) (hg : WhS.Rng D) (hlen : D.length + (n + 1) < 1073741824)
    (hno : (WhS.twice op a).isNo = true) (H : Hp B w0 w Ls) (hb : HasC Ls c mk := by infer_instance) :
    Calls Tryz.prog 100 #[.pointer (some ⟨p, 0, none⟩), .int .i64 op, .int .i64 a] w fun e w' => e = .returned (.tuple #[.int .i64 0, .bool false]) ∧ ∃ c', DagC p D c' ∧ Hp B w0 w' (mk c') := by
  obtain ⟨R, H1, back⟩ := H.pick (h := hb)
  have := twice_spec h (op := op) (a := a) (r := (0, D)) hc hg hlen (fun e => by rw [hno] at e; cases e) H1
  simp only [WhS.outS, hno, if_true] at this
  exact this.mono fun e w' ⟨h1, c', h2, h3, h4⟩ => ⟨h1, c', h2, back _ _ h4⟩
theorem twice_yes {B : Nat} {w0 w : World} {p n : Nat} {rec : WhS.Rec} (h : MadeOK B w0 p n rec) {D : List T} {c : Ck} {Ls : List Ck} {mk : Ck → List Ck} {op a : Int} {r : Int × List T} (hc : DagC p D c) (hg : WhS.Rng D) (hlen : D.length + (n + 1) < 1073741824)
    (hno : (WhS.twice op a).isNo = false) (hr : WhS.exec rec D op a a (WhS.twice op a) = some r) (H : Hp B w0 w Ls) (hb : HasC Ls c mk := by infer_instance) :
    Calls Tryz.prog 100 #[.pointer (some ⟨p, 0, none⟩), .int .i64 op, .int .i64 a] w fun e w' => e = .returned (.tuple #[.int .i64 r.1, .bool true]) ∧ ∃ c', DagC p r.2 c' ∧ WhS.Rng r.2 ∧ Hp B w0 w' (mk c') := by
  obtain ⟨R, H1, back⟩ := H.pick (h := hb)
  have := twice_spec h (op := op) (a := a) (r := r) hc hg hlen (fun _ => hr) H1
  simp only [WhS.outS, hno, Bool.false_eq_true, if_false] at this
  exact this.mono fun e w' ⟨h1, c', h2, h3, h4⟩ => ⟨h1, c', h2, h3, back _ _ h4⟩
theorem made_step {B : Nat} {w0 : World} {p n : Nat} {rec : WhS.Rec} (h : MadeOK B w0 p n rec) (hB : 0 < B) (hG : RowAt w0 ⟨0, 0, none⟩ tabV) : MadeOK B w0 p (n + 1) (fun D op a b => WhS.exec rec D op a b (WhS.made D op a b)) := by
  intro D c L op a b r w hc hg hlen hr H
  change WhS.exec rec D op a b (WhS.made D op a b) = some r at hr
  have hw := hg.known b
  have hx : ∀ (o x y : Int), WhS.exec rec D op a a (WhS.twice op a) = WhS.exec rec D op a b (WhS.twice op a) ∨ (WhS.twice op a).isNo = true := by
    intro _ _ _
    unfold WhS.twice
    repeat' split
    all_goals first | exact .inl rfl | exact .inr rfl
  refine calls_go Tryz.func86 Tryz.ntmps86 rfl rfl ?_
  refine TW.seq ?_
  refine TW.region ?_
  refine LW.v (r_as) ?_
  refine LW.nil ?_
  refine TW.seq ?_
  refine TW.region ?_
  refine LW.v (r_mv) ?_
  refine LW.v (r_mv) ?_
  refine LW.c r_c2 ((known_at p D a hc H).mono ?_)
  rintro _ w ⟨rfl, H⟩
  refine ⟨_, rfl, ?_⟩
  refine LW.v (r_mv) ?_
  refine LW.v (r_ext) ?_
  refine LW.v (r_ext) ?_
  refine LW.v (r_as) ?_
  refine LW.v (r_as) ?_
  refine LW.nil ?_
  refine TW.seq ?_
  refine TW.region ?_
  refine LW.v (r_mv) ?_
  refine LW.v (r_mv) ?_
  refine LW.c r_c2 ((known_at p D b hc H).mono ?_)
  rintro _ w ⟨rfl, H⟩
  refine ⟨_, rfl, ?_⟩
  refine LW.v (r_mv) ?_
  refine LW.v (r_ext) ?_
  refine LW.v (r_ext) ?_
  refine LW.v (r_as) ?_
  refine LW.v (r_as) ?_
  refine LW.nil ?_
  refine TW.seq ?_
  refine TW.region ?_
  refine LW.v (r_mv) ?_
  refine LW.new (r_bsl H [.int .i64 27, .int .i64 36, .int .i64 35, .int .i64 32, .int .i64 37, .int .i64 38, .int .i64 40] [.int .i64 27, .int .i64 36, .int .i64 35, .int .i64 32, .int .i64 37, .int .i64 38, .int .i64 40] rfl rfl (hv := by simp [Value.cells])) ?_; intro gb w H
  refine LW.c r_c2 ((among_spec _ _ _ _ [27, 36, 35, 32, 37, 38, 40] (rowAt_blk H) (by decide)).mono ?_)
  rintro _ w ⟨rfl, rfl⟩
  refine ⟨_, rfl, ?_⟩
  have H := H.drop
  refine LW.v (r_as) ?_
  refine LW.nil ?_
  refine TW.seq <| TW.block <| TW.seq ?_
  refine TW.join1 H [(0, .pointer (some ⟨p, 0, none⟩)), (1, .int .i64 op), (2, .int .i64 a), (3, .int .i64 b), (9, .int .u32 (WhS.known D a).1), (10, .bool (WhS.known D a).2), (11, .int .u32 (WhS.known D b).1), (12, .bool (WhS.known D b).2), (13, .bool (WhS.turns op)), (37, .bool ((WhS.known D a).2 && (WhS.known D b).2))] (fun go => ?_) (fun f w H => ?_)
  · refine TW.region ?_
    refine LW.v (r_mv) ?_
    refine LW.v (r_mv) ?_
    refine LW.gen fun b hb => ?_; cases b
    · have hr0 := hb.symm; have hc0 := hb.symm; try simp only [beq_iff_eq, bne_iff_ne, beq_eq_false_iff_ne, bne_eq_false_iff_eq, decide_eq_true_eq, decide_eq_false_iff_not, Bool.not_eq_true', Bool.not_eq_false', Bool.true_eq, Bool.false_eq, ge_iff_le, gt_iff_lt, Bool.not_eq_eq_eq_not, Bool.not_true, Bool.not_false, ne_eq] at hc0
      refine LW.no (by rfl) (by rfl) (by rfl) (by rfl) (by rfl) (by rfl) ?_
      refine LW.v (r_pick) ?_
      refine LW.v (r_as) ?_
      refine LW.nil ?_
      exact go _ _ H ⟨rfl, rfl, rfl, rfl, rfl, rfl, rfl, rfl, rfl, congrArg Value.bool (by first | rfl | (simp [hc0]; done) | (exfalso; omega) ), trivial⟩
    · have hr0 := hb.symm; have hc0 := hb.symm; try simp only [beq_iff_eq, bne_iff_ne, beq_eq_false_iff_ne, bne_eq_false_iff_eq, decide_eq_true_eq, decide_eq_false_iff_not, Bool.not_eq_true', Bool.not_eq_false', Bool.true_eq, Bool.false_eq, ge_iff_le, gt_iff_lt, Bool.not_eq_eq_eq_not, Bool.not_true, Bool.not_false, ne_eq] at hc0
      refine LW.yes (by rfl) (by rfl) (by rfl) (by rfl) (by rfl) ?_
      refine LW.v (r_mv) ?_
      refine LW.v (r_pick) ?_
      refine LW.v (r_as) ?_
      refine LW.nil ?_
      exact go _ _ H ⟨rfl, rfl, rfl, rfl, rfl, rfl, rfl, rfl, rfl, congrArg Value.bool (by first | rfl | (simp [hc0]; done) | (exfalso; omega) ), trivial⟩
  refine TW.c rfl (fun hb => ?_) (fun hb => ?_)
  · have hr0 := hb; have hc0 := hb; try simp only [beq_iff_eq, bne_iff_ne, beq_eq_false_iff_ne, bne_eq_false_iff_eq, decide_eq_true_eq, decide_eq_false_iff_not, Bool.not_eq_true', Bool.not_eq_false', Bool.true_eq, Bool.false_eq, ge_iff_le, gt_iff_lt, Bool.not_eq_eq_eq_not, Bool.not_true, Bool.not_false, ne_eq] at hc0
    refine TW.seq ?_
    have hs : WhS.made D op a b = .const (WhI.wdo op (WhS.known D a).1 (WhS.known D b).1).1 := by
      unfold WhS.made
      rw [if_pos hr0]
    rw [hs] at hr
    refine TW.region ?_
    refine LW.v (r_mv) ?_
    refine LW.v (r_mv) ?_
    refine LW.v (r_mv) ?_
    refine LW.c r_c3 ((wdo_spec _ _ _ _ op (WhS.known D a).1 (WhS.known D b).1 hw.1 hw.2 H).mono ?_)
    rintro _ w ⟨rfl, H⟩
    refine ⟨_, rfl, ?_⟩
    refine LW.v (r_mv) ?_
    refine LW.v (r_ext) ?_
    refine LW.v (r_ext) ?_
    refine LW.v (r_as) ?_
    refine LW.v (r_as) ?_
    refine LW.nil ?_
    refine TW.seq ?_
    refine TW.region ?_
    refine LW.v (r_mv) ?_
    refine LW.v (r_mv) ?_
    refine LW.c r_c2 ((const_at p D _ hc (by omega) H).mono ?_)
    rintro _ w ⟨rfl, c', hc', H⟩
    refine ⟨_, rfl, ?_⟩
    refine LW.v (r_as) ?_
    refine LW.nil ?_
    refine TW.ret (ret1 (by rfl) rT ?_)
    obtain rfl : addT D (WhS.K (WhI.wdo op (WhS.known D a).1 (WhS.known D b).1).1) = r := Option.some.inj hr
    exact ⟨rfl, c', hc', hg.add (WhS.wdo_rng (hg.known _) hw), H⟩
  · have hr0 := hb; have hc0 := hb; try simp only [beq_iff_eq, bne_iff_ne, beq_eq_false_iff_ne, bne_eq_false_iff_eq, decide_eq_true_eq, decide_eq_false_iff_not, Bool.not_eq_true', Bool.not_eq_false', Bool.true_eq, Bool.false_eq, ge_iff_le, gt_iff_lt, Bool.not_eq_eq_eq_not, Bool.not_true, Bool.not_false, ne_eq] at hc0
    refine TW.seq ?_
    refine TW.join1 H [(0, .pointer (some ⟨p, 0, none⟩)), (1, .int .i64 op), (2, .int .i64 a), (3, .int .i64 b), (9, .int .u32 (WhS.known D a).1), (10, .bool (WhS.known D a).2), (11, .int .u32 (WhS.known D b).1), (12, .bool (WhS.known D b).2), (13, .bool (WhS.turns op)), (52, .bool (WhS.turns op && (((WhS.known D a).2 && !(WhS.known D b).2) || (!(WhS.known D a).2 && !(WhS.known D b).2 && decide (a > b)))))] (fun go => ?_) (fun f w H => ?_)
    · refine TW.region ?_
      refine LW.v (r_mv) ?_
      refine LW.v (r_mv) ?_
      refine LW.gen fun b hb => ?_; cases b
      · have hr1 := hb.symm; have hc1 := hb.symm; try simp only [beq_iff_eq, bne_iff_ne, beq_eq_false_iff_ne, bne_eq_false_iff_eq, decide_eq_true_eq, decide_eq_false_iff_not, Bool.not_eq_true', Bool.not_eq_false', Bool.true_eq, Bool.false_eq, ge_iff_le, gt_iff_lt, Bool.not_eq_eq_eq_not, Bool.not_true, Bool.not_false, ne_eq] at hc1
        refine LW.no (by rfl) (by rfl) (by rfl) (by rfl) (by rfl) (by rfl) ?_
        refine LW.no (by rfl) (by rfl) (by rfl) (by rfl) (by rfl) (by rfl) ?_
        refine LW.nou (by rfl) (by rfl) (by rfl) (by rfl) (by rfl) ?_
        refine LW.nou (by rfl) (by rfl) (by rfl) (by rfl) (by rfl) ?_
        refine LW.no (by rfl) (by rfl) (by rfl) (by rfl) (by rfl) (by rfl) ?_
        refine LW.no (by rfl) (by rfl) (by rfl) (by rfl) (by rfl) (by rfl) ?_
        refine LW.nou (by rfl) (by rfl) (by rfl) (by rfl) (by rfl) ?_
        refine LW.nou (by rfl) (by rfl) (by rfl) (by rfl) (by rfl) ?_
        refine LW.nou (by rfl) (by rfl) (by rfl) (by rfl) (by rfl) ?_
        refine LW.nou (by rfl) (by rfl) (by rfl) (by rfl) (by rfl) ?_
        refine LW.nou (by rfl) (by rfl) (by rfl) (by rfl) (by rfl) ?_
        refine LW.nou (by rfl) (by rfl) (by rfl) (by rfl) (by rfl) ?_
        refine LW.nou (by rfl) (by rfl) (by rfl) (by rfl) (by rfl) ?_
        refine LW.nou (by rfl) (by rfl) (by rfl) (by rfl) (by rfl) ?_
        refine LW.nou (by rfl) (by rfl) (by rfl) (by rfl) (by rfl) ?_
        refine LW.nou (by rfl) (by rfl) (by rfl) (by rfl) (by rfl) ?_
        refine LW.nou (by rfl) (by rfl) (by rfl) (by rfl) (by rfl) ?_
        refine LW.no (by rfl) (by rfl) (by rfl) (by rfl) (by rfl) (by rfl) ?_
        refine LW.v (r_pick) ?_
        refine LW.v (r_as) ?_
        refine LW.nil ?_
        exact go _ _ H ⟨rfl, rfl, rfl, rfl, rfl, rfl, rfl, rfl, rfl, congrArg Value.bool (by first | rfl | (simp [hc0, hc1]; done) | (exfalso; omega)  | exact Bool.noConfusion (hc0.symm.trans hc1)), trivial⟩
      · have hr1 := hb.symm; have hc1 := hb.symm; try simp only [beq_iff_eq, bne_iff_ne, beq_eq_false_iff_ne, bne_eq_false_iff_eq, decide_eq_true_eq, decide_eq_false_iff_not, Bool.not_eq_true', Bool.not_eq_false', Bool.true_eq, Bool.false_eq, ge_iff_le, gt_iff_lt, Bool.not_eq_eq_eq_not, Bool.not_true, Bool.not_false, ne_eq] at hc1
        refine LW.yes (by rfl) (by rfl) (by rfl) (by rfl) (by rfl) ?_
        refine LW.v (r_mv) ?_
        refine LW.yes (by rfl) (by rfl) (by rfl) (by rfl) (by rfl) ?_
        refine LW.v (r_mv) ?_
        refine LW.gen fun b hb => ?_; cases b
        · have hr2 := hb.symm; have hc2 := hb.symm; try simp only [beq_iff_eq, bne_iff_ne, beq_eq_false_iff_ne, bne_eq_false_iff_eq, decide_eq_true_eq, decide_eq_false_iff_not, Bool.not_eq_true', Bool.not_eq_false', Bool.true_eq, Bool.false_eq, ge_iff_le, gt_iff_lt, Bool.not_eq_eq_eq_not, Bool.not_true, Bool.not_false, ne_eq] at hc2
          refine LW.no (by rfl) (by rfl) (by rfl) (by rfl) (by rfl) (by rfl) ?_
          refine LW.no (by rfl) (by rfl) (by rfl) (by rfl) (by rfl) (by rfl) ?_
          refine LW.yes (by rfl) (by rfl) (by rfl) (by rfl) (by rfl) ?_
          refine LW.v (r_pick) ?_
          refine LW.yes (by rfl) (by rfl) (by rfl) (by rfl) (by rfl) ?_
          refine LW.v (r_mv) ?_
          refine LW.yes (by rfl) (by rfl) (by rfl) (by rfl) (by rfl) ?_
          refine LW.v (r_mv) ?_
          refine LW.yes (by rfl) (by rfl) (by rfl) (by rfl) (by rfl) ?_
          refine LW.v (r_not) ?_
          refine LW.yes (by rfl) (by rfl) (by rfl) (by rfl) (by rfl) ?_
          refine LW.v (r_mv) ?_
          refine LW.gen fun b hb => ?_; cases b
          · have hr3 := hb.symm; have hc3 := hb.symm; try simp only [beq_iff_eq, bne_iff_ne, beq_eq_false_iff_ne, bne_eq_false_iff_eq, decide_eq_true_eq, decide_eq_false_iff_not, Bool.not_eq_true', Bool.not_eq_false', Bool.true_eq, Bool.false_eq, ge_iff_le, gt_iff_lt, Bool.not_eq_eq_eq_not, Bool.not_true, Bool.not_false, ne_eq] at hc3
            refine LW.no (by rfl) (by rfl) (by rfl) (by rfl) (by rfl) (by rfl) ?_
            refine LW.no (by rfl) (by rfl) (by rfl) (by rfl) (by rfl) (by rfl) ?_
            refine LW.yes (by rfl) (by rfl) (by rfl) (by rfl) (by rfl) ?_
            refine LW.v (r_pick) ?_
            refine LW.yes (by rfl) (by rfl) (by rfl) (by rfl) (by rfl) ?_
            refine LW.v (r_mv) ?_
            refine LW.no (by rfl) (by rfl) (by rfl) (by rfl) (by rfl) (by rfl) ?_
            refine LW.no (by rfl) (by rfl) (by rfl) (by rfl) (by rfl) (by rfl) ?_
            refine LW.no (by rfl) (by rfl) (by rfl) (by rfl) (by rfl) (by rfl) ?_
            refine LW.yes (by rfl) (by rfl) (by rfl) (by rfl) (by rfl) ?_
            refine LW.v (r_pick) ?_
            refine LW.yes (by rfl) (by rfl) (by rfl) (by rfl) (by rfl) ?_
            refine LW.v (r_pick) ?_
            refine LW.v (r_pick) ?_
            refine LW.v (r_as) ?_
            refine LW.nil ?_
            exact go _ _ H ⟨rfl, rfl, rfl, rfl, rfl, rfl, rfl, rfl, rfl, congrArg Value.bool (by first | rfl | (simp [hc0, hc1, hc2, hc3]; done) | (exfalso; omega)  | exact Bool.noConfusion (hc0.symm.trans hc1) | exact Bool.noConfusion (hc0.symm.trans hc2) | exact Bool.noConfusion (hc0.symm.trans hc3) | exact Bool.noConfusion (hc1.symm.trans hc2) | exact Bool.noConfusion (hc1.symm.trans hc3) | exact Bool.noConfusion (hc2.symm.trans hc3)), trivial⟩
          · have hr3 := hb.symm; have hc3 := hb.symm; try simp only [beq_iff_eq, bne_iff_ne, beq_eq_false_iff_ne, bne_eq_false_iff_eq, decide_eq_true_eq, decide_eq_false_iff_not, Bool.not_eq_true', Bool.not_eq_false', Bool.true_eq, Bool.false_eq, ge_iff_le, gt_iff_lt, Bool.not_eq_eq_eq_not, Bool.not_true, Bool.not_false, ne_eq] at hc3
            refine LW.yes (by rfl) (by rfl) (by rfl) (by rfl) (by rfl) ?_
            refine LW.v (r_mv) ?_
            refine LW.yes (by rfl) (by rfl) (by rfl) (by rfl) (by rfl) ?_
            refine LW.v (r_not) ?_
            refine LW.yes (by rfl) (by rfl) (by rfl) (by rfl) (by rfl) ?_
            refine LW.v (r_pick) ?_
            refine LW.yes (by rfl) (by rfl) (by rfl) (by rfl) (by rfl) ?_
            refine LW.v (r_mv) ?_
            refine LW.gen fun b hb => ?_; cases b
            · have hr4 := hb.symm; have hc4 := hb.symm; try simp only [beq_iff_eq, bne_iff_ne, beq_eq_false_iff_ne, bne_eq_false_iff_eq, decide_eq_true_eq, decide_eq_false_iff_not, Bool.not_eq_true', Bool.not_eq_false', Bool.true_eq, Bool.false_eq, ge_iff_le, gt_iff_lt, Bool.not_eq_eq_eq_not, Bool.not_true, Bool.not_false, ne_eq] at hc4
              refine LW.no (by rfl) (by rfl) (by rfl) (by rfl) (by rfl) (by rfl) ?_
              refine LW.no (by rfl) (by rfl) (by rfl) (by rfl) (by rfl) (by rfl) ?_
              refine LW.no (by rfl) (by rfl) (by rfl) (by rfl) (by rfl) (by rfl) ?_
              refine LW.yes (by rfl) (by rfl) (by rfl) (by rfl) (by rfl) ?_
              refine LW.v (r_pick) ?_
              refine LW.yes (by rfl) (by rfl) (by rfl) (by rfl) (by rfl) ?_
              refine LW.v (r_pick) ?_
              refine LW.v (r_pick) ?_
              refine LW.v (r_as) ?_
              refine LW.nil ?_
              exact go _ _ H ⟨rfl, rfl, rfl, rfl, rfl, rfl, rfl, rfl, rfl, congrArg Value.bool (by first | rfl | (simp [hc0, hc1, hc2, hc3, hc4]; done) | (exfalso; omega)  | exact Bool.noConfusion (hc0.symm.trans hc1) | exact Bool.noConfusion (hc0.symm.trans hc2) | exact Bool.noConfusion (hc0.symm.trans hc3) | exact Bool.noConfusion (hc0.symm.trans hc4) | exact Bool.noConfusion (hc1.symm.trans hc2) | exact Bool.noConfusion (hc1.symm.trans hc3) | exact Bool.noConfusion (hc1.symm.trans hc4) | exact Bool.noConfusion (hc2.symm.trans hc3) | exact Bool.noConfusion (hc2.symm.trans hc4) | exact Bool.noConfusion (hc3.symm.trans hc4)), trivial⟩
            · have hr4 := hb.symm; have hc4 := hb.symm; try simp only [beq_iff_eq, bne_iff_ne, beq_eq_false_iff_ne, bne_eq_false_iff_eq, decide_eq_true_eq, decide_eq_false_iff_not, Bool.not_eq_true', Bool.not_eq_false', Bool.true_eq, Bool.false_eq, ge_iff_le, gt_iff_lt, Bool.not_eq_eq_eq_not, Bool.not_true, Bool.not_false, ne_eq] at hc4
              refine LW.yes (by rfl) (by rfl) (by rfl) (by rfl) (by rfl) ?_
              refine LW.v (r_mv) ?_
              refine LW.yes (by rfl) (by rfl) (by rfl) (by rfl) (by rfl) ?_
              refine LW.v (r_mv) ?_
              refine LW.yes (by rfl) (by rfl) (by rfl) (by rfl) (by rfl) ?_
              refine LW.v (r_bin) ?_
              refine LW.yes (by rfl) (by rfl) (by rfl) (by rfl) (by rfl) ?_
              refine LW.v (r_pick) ?_
              refine LW.yes (by rfl) (by rfl) (by rfl) (by rfl) (by rfl) ?_
              refine LW.v (r_pick) ?_
              refine LW.v (r_pick) ?_
              refine LW.v (r_as) ?_
              refine LW.nil ?_
              exact go _ _ H ⟨rfl, rfl, rfl, rfl, rfl, rfl, rfl, rfl, rfl, congrArg Value.bool (by first | rfl | (simp [hc0, hc1, hc2, hc3, hc4]; done) | (exfalso; omega)  | exact Bool.noConfusion (hc0.symm.trans hc1) | exact Bool.noConfusion (hc0.symm.trans hc2) | exact Bool.noConfusion (hc0.symm.trans hc3) | exact Bool.noConfusion (hc0.symm.trans hc4) | exact Bool.noConfusion (hc1.symm.trans hc2) | exact Bool.noConfusion (hc1.symm.trans hc3) | exact Bool.noConfusion (hc1.symm.trans hc4) | exact Bool.noConfusion (hc2.symm.trans hc3) | exact Bool.noConfusion (hc2.symm.trans hc4) | exact Bool.noConfusion (hc3.symm.trans hc4)), trivial⟩
        · have hr2 := hb.symm; have hc2 := hb.symm; try simp only [beq_iff_eq, bne_iff_ne, beq_eq_false_iff_ne, bne_eq_false_iff_eq, decide_eq_true_eq, decide_eq_false_iff_not, Bool.not_eq_true', Bool.not_eq_false', Bool.true_eq, Bool.false_eq, ge_iff_le, gt_iff_lt, Bool.not_eq_eq_eq_not, Bool.not_true, Bool.not_false, ne_eq] at hc2
          refine LW.yes (by rfl) (by rfl) (by rfl) (by rfl) (by rfl) ?_
          refine LW.v (r_mv) ?_
          refine LW.yes (by rfl) (by rfl) (by rfl) (by rfl) (by rfl) ?_
          refine LW.v (r_not) ?_
          refine LW.yes (by rfl) (by rfl) (by rfl) (by rfl) (by rfl) ?_
          refine LW.v (r_pick) ?_
          refine LW.yes (by rfl) (by rfl) (by rfl) (by rfl) (by rfl) ?_
          refine LW.v (r_mv) ?_
          refine LW.gen fun b hb => ?_; cases b
          · have hr3 := hb.symm; have hc3 := hb.symm; try simp only [beq_iff_eq, bne_iff_ne, beq_eq_false_iff_ne, bne_eq_false_iff_eq, decide_eq_true_eq, decide_eq_false_iff_not, Bool.not_eq_true', Bool.not_eq_false', Bool.true_eq, Bool.false_eq, ge_iff_le, gt_iff_lt, Bool.not_eq_eq_eq_not, Bool.not_true, Bool.not_false, ne_eq] at hc3
            refine LW.yes (by rfl) (by rfl) (by rfl) (by rfl) (by rfl) ?_
            refine LW.v (r_mv) ?_
            refine LW.yes (by rfl) (by rfl) (by rfl) (by rfl) (by rfl) ?_
            refine LW.v (r_not) ?_
            refine LW.yes (by rfl) (by rfl) (by rfl) (by rfl) (by rfl) ?_
            refine LW.v (r_mv) ?_
            refine LW.gen fun b hb => ?_; cases b
            · have hr4 := hb.symm; have hc4 := hb.symm; try simp only [beq_iff_eq, bne_iff_ne, beq_eq_false_iff_ne, bne_eq_false_iff_eq, decide_eq_true_eq, decide_eq_false_iff_not, Bool.not_eq_true', Bool.not_eq_false', Bool.true_eq, Bool.false_eq, ge_iff_le, gt_iff_lt, Bool.not_eq_eq_eq_not, Bool.not_true, Bool.not_false, ne_eq] at hc4
              refine LW.no (by rfl) (by rfl) (by rfl) (by rfl) (by rfl) (by rfl) ?_
              refine LW.no (by rfl) (by rfl) (by rfl) (by rfl) (by rfl) (by rfl) ?_
              refine LW.yes (by rfl) (by rfl) (by rfl) (by rfl) (by rfl) ?_
              refine LW.v (r_pick) ?_
              refine LW.yes (by rfl) (by rfl) (by rfl) (by rfl) (by rfl) ?_
              refine LW.v (r_mv) ?_
              refine LW.no (by rfl) (by rfl) (by rfl) (by rfl) (by rfl) (by rfl) ?_
              refine LW.no (by rfl) (by rfl) (by rfl) (by rfl) (by rfl) (by rfl) ?_
              refine LW.no (by rfl) (by rfl) (by rfl) (by rfl) (by rfl) (by rfl) ?_
              refine LW.yes (by rfl) (by rfl) (by rfl) (by rfl) (by rfl) ?_
              refine LW.v (r_pick) ?_
              refine LW.yes (by rfl) (by rfl) (by rfl) (by rfl) (by rfl) ?_
              refine LW.v (r_pick) ?_
              refine LW.v (r_pick) ?_
              refine LW.v (r_as) ?_
              refine LW.nil ?_
              exact go _ _ H ⟨rfl, rfl, rfl, rfl, rfl, rfl, rfl, rfl, rfl, congrArg Value.bool (by first | rfl | (simp [hc0, hc1, hc2, hc3, hc4]; done) | (exfalso; omega)  | exact Bool.noConfusion (hc0.symm.trans hc1) | exact Bool.noConfusion (hc0.symm.trans hc2) | exact Bool.noConfusion (hc0.symm.trans hc3) | exact Bool.noConfusion (hc0.symm.trans hc4) | exact Bool.noConfusion (hc1.symm.trans hc2) | exact Bool.noConfusion (hc1.symm.trans hc3) | exact Bool.noConfusion (hc1.symm.trans hc4) | exact Bool.noConfusion (hc2.symm.trans hc3) | exact Bool.noConfusion (hc2.symm.trans hc4) | exact Bool.noConfusion (hc3.symm.trans hc4)), trivial⟩
            · have hr4 := hb.symm; have hc4 := hb.symm; try simp only [beq_iff_eq, bne_iff_ne, beq_eq_false_iff_ne, bne_eq_false_iff_eq, decide_eq_true_eq, decide_eq_false_iff_not, Bool.not_eq_true', Bool.not_eq_false', Bool.true_eq, Bool.false_eq, ge_iff_le, gt_iff_lt, Bool.not_eq_eq_eq_not, Bool.not_true, Bool.not_false, ne_eq] at hc4
              refine LW.yes (by rfl) (by rfl) (by rfl) (by rfl) (by rfl) ?_
              refine LW.v (r_mv) ?_
              refine LW.yes (by rfl) (by rfl) (by rfl) (by rfl) (by rfl) ?_
              refine LW.v (r_not) ?_
              refine LW.yes (by rfl) (by rfl) (by rfl) (by rfl) (by rfl) ?_
              refine LW.v (r_pick) ?_
              refine LW.yes (by rfl) (by rfl) (by rfl) (by rfl) (by rfl) ?_
              refine LW.v (r_mv) ?_
              refine LW.gen fun b hb => ?_; cases b
              · have hr5 := hb.symm; have hc5 := hb.symm; try simp only [beq_iff_eq, bne_iff_ne, beq_eq_false_iff_ne, bne_eq_false_iff_eq, decide_eq_true_eq, decide_eq_false_iff_not, Bool.not_eq_true', Bool.not_eq_false', Bool.true_eq, Bool.false_eq, ge_iff_le, gt_iff_lt, Bool.not_eq_eq_eq_not, Bool.not_true, Bool.not_false, ne_eq] at hc5
                refine LW.no (by rfl) (by rfl) (by rfl) (by rfl) (by rfl) (by rfl) ?_
                refine LW.no (by rfl) (by rfl) (by rfl) (by rfl) (by rfl) (by rfl) ?_
                refine LW.no (by rfl) (by rfl) (by rfl) (by rfl) (by rfl) (by rfl) ?_
                refine LW.yes (by rfl) (by rfl) (by rfl) (by rfl) (by rfl) ?_
                refine LW.v (r_pick) ?_
                refine LW.yes (by rfl) (by rfl) (by rfl) (by rfl) (by rfl) ?_
                refine LW.v (r_pick) ?_
                refine LW.v (r_pick) ?_
                refine LW.v (r_as) ?_
                refine LW.nil ?_
                exact go _ _ H ⟨rfl, rfl, rfl, rfl, rfl, rfl, rfl, rfl, rfl, congrArg Value.bool (by first | rfl | (simp [hc0, hc1, hc2, hc3, hc4, hc5]; done) | (exfalso; omega)  | exact Bool.noConfusion (hc0.symm.trans hc1) | exact Bool.noConfusion (hc0.symm.trans hc2) | exact Bool.noConfusion (hc0.symm.trans hc3) | exact Bool.noConfusion (hc0.symm.trans hc4) | exact Bool.noConfusion (hc0.symm.trans hc5) | exact Bool.noConfusion (hc1.symm.trans hc2) | exact Bool.noConfusion (hc1.symm.trans hc3) | exact Bool.noConfusion (hc1.symm.trans hc4) | exact Bool.noConfusion (hc1.symm.trans hc5) | exact Bool.noConfusion (hc2.symm.trans hc3) | exact Bool.noConfusion (hc2.symm.trans hc4) | exact Bool.noConfusion (hc2.symm.trans hc5) | exact Bool.noConfusion (hc3.symm.trans hc4) | exact Bool.noConfusion (hc3.symm.trans hc5) | exact Bool.noConfusion (hc4.symm.trans hc5)), trivial⟩
              · have hr5 := hb.symm; have hc5 := hb.symm; try simp only [beq_iff_eq, bne_iff_ne, beq_eq_false_iff_ne, bne_eq_false_iff_eq, decide_eq_true_eq, decide_eq_false_iff_not, Bool.not_eq_true', Bool.not_eq_false', Bool.true_eq, Bool.false_eq, ge_iff_le, gt_iff_lt, Bool.not_eq_eq_eq_not, Bool.not_true, Bool.not_false, ne_eq] at hc5
                refine LW.yes (by rfl) (by rfl) (by rfl) (by rfl) (by rfl) ?_
                refine LW.v (r_mv) ?_
                refine LW.yes (by rfl) (by rfl) (by rfl) (by rfl) (by rfl) ?_
                refine LW.v (r_mv) ?_
                refine LW.yes (by rfl) (by rfl) (by rfl) (by rfl) (by rfl) ?_
                refine LW.v (r_bin) ?_
                refine LW.yes (by rfl) (by rfl) (by rfl) (by rfl) (by rfl) ?_
                refine LW.v (r_pick) ?_
                refine LW.yes (by rfl) (by rfl) (by rfl) (by rfl) (by rfl) ?_
                refine LW.v (r_pick) ?_
                refine LW.v (r_pick) ?_
                refine LW.v (r_as) ?_
                refine LW.nil ?_
                exact go _ _ H ⟨rfl, rfl, rfl, rfl, rfl, rfl, rfl, rfl, rfl, congrArg Value.bool (by first | rfl | (simp [hc0, hc1, hc2, hc3, hc4, hc5]; done) | (exfalso; omega)  | exact Bool.noConfusion (hc0.symm.trans hc1) | exact Bool.noConfusion (hc0.symm.trans hc2) | exact Bool.noConfusion (hc0.symm.trans hc3) | exact Bool.noConfusion (hc0.symm.trans hc4) | exact Bool.noConfusion (hc0.symm.trans hc5) | exact Bool.noConfusion (hc1.symm.trans hc2) | exact Bool.noConfusion (hc1.symm.trans hc3) | exact Bool.noConfusion (hc1.symm.trans hc4) | exact Bool.noConfusion (hc1.symm.trans hc5) | exact Bool.noConfusion (hc2.symm.trans hc3) | exact Bool.noConfusion (hc2.symm.trans hc4) | exact Bool.noConfusion (hc2.symm.trans hc5) | exact Bool.noConfusion (hc3.symm.trans hc4) | exact Bool.noConfusion (hc3.symm.trans hc5) | exact Bool.noConfusion (hc4.symm.trans hc5)), trivial⟩
          · have hr3 := hb.symm; have hc3 := hb.symm; try simp only [beq_iff_eq, bne_iff_ne, beq_eq_false_iff_ne, bne_eq_false_iff_eq, decide_eq_true_eq, decide_eq_false_iff_not, Bool.not_eq_true', Bool.not_eq_false', Bool.true_eq, Bool.false_eq, ge_iff_le, gt_iff_lt, Bool.not_eq_eq_eq_not, Bool.not_true, Bool.not_false, ne_eq] at hc3
            refine LW.no (by rfl) (by rfl) (by rfl) (by rfl) (by rfl) (by rfl) ?_
            refine LW.no (by rfl) (by rfl) (by rfl) (by rfl) (by rfl) (by rfl) ?_
            refine LW.no (by rfl) (by rfl) (by rfl) (by rfl) (by rfl) (by rfl) ?_
            refine LW.nou (by rfl) (by rfl) (by rfl) (by rfl) (by rfl) ?_
            refine LW.nou (by rfl) (by rfl) (by rfl) (by rfl) (by rfl) ?_
            refine LW.no (by rfl) (by rfl) (by rfl) (by rfl) (by rfl) (by rfl) ?_
            refine LW.no (by rfl) (by rfl) (by rfl) (by rfl) (by rfl) (by rfl) ?_
            refine LW.nou (by rfl) (by rfl) (by rfl) (by rfl) (by rfl) ?_
            refine LW.nou (by rfl) (by rfl) (by rfl) (by rfl) (by rfl) ?_
            refine LW.nou (by rfl) (by rfl) (by rfl) (by rfl) (by rfl) ?_
            refine LW.no (by rfl) (by rfl) (by rfl) (by rfl) (by rfl) (by rfl) ?_
            refine LW.yes (by rfl) (by rfl) (by rfl) (by rfl) (by rfl) ?_
            refine LW.v (r_pick) ?_
            refine LW.v (r_pick) ?_
            refine LW.v (r_as) ?_
            refine LW.nil ?_
            exact go _ _ H ⟨rfl, rfl, rfl, rfl, rfl, rfl, rfl, rfl, rfl, congrArg Value.bool (by first | rfl | (simp [hc0, hc1, hc2, hc3]; done) | (exfalso; omega)  | exact Bool.noConfusion (hc0.symm.trans hc1) | exact Bool.noConfusion (hc0.symm.trans hc2) | exact Bool.noConfusion (hc0.symm.trans hc3) | exact Bool.noConfusion (hc1.symm.trans hc2) | exact Bool.noConfusion (hc1.symm.trans hc3) | exact Bool.noConfusion (hc2.symm.trans hc3)), trivial⟩
    refine TW.c rfl (fun hb => ?_) (fun hb => ?_)
    · have hr1 := hb; have hc1 := hb; try simp only [beq_iff_eq, bne_iff_ne, beq_eq_false_iff_ne, bne_eq_false_iff_eq, decide_eq_true_eq, decide_eq_false_iff_not, Bool.not_eq_true', Bool.not_eq_false', Bool.true_eq, Bool.false_eq, ge_iff_le, gt_iff_lt, Bool.not_eq_eq_eq_not, Bool.not_true, Bool.not_false, ne_eq] at hc1
      refine TW.seq ?_
      have hs : WhS.made D op a b = .call op b a := by
        unfold WhS.made
        rw [if_neg (Bool.eq_false_iff.1 hr0), if_pos hr1]
      rw [hs] at hr
      refine TW.region ?_
      refine LW.v (r_mv) ?_
      refine LW.v (r_mv) ?_
      refine LW.v (r_mv) ?_
      refine LW.v (r_mv) ?_
      refine LW.c r_c4 ((h.at (op := op) (a := b) (b := a) hc hg (by omega) hr H).mono ?_)
      rintro _ w ⟨rfl, c2, hc2, hg2, H⟩
      refine ⟨_, rfl, ?_⟩
      refine LW.v (r_as) ?_
      refine LW.nil ?_
      refine TW.ret (ret1 (by rfl) rT ?_)
      exact ⟨rfl, c2, hc2, hg2, H⟩
    · have hr1 := hb; have hc1 := hb; try simp only [beq_iff_eq, bne_iff_ne, beq_eq_false_iff_ne, bne_eq_false_iff_eq, decide_eq_true_eq, decide_eq_false_iff_not, Bool.not_eq_true', Bool.not_eq_false', Bool.true_eq, Bool.false_eq, ge_iff_le, gt_iff_lt, Bool.not_eq_eq_eq_not, Bool.not_true, Bool.not_false, ne_eq] at hc1
      refine TW.seq ?_
      refine TW.join1 H [(0, .pointer (some ⟨p, 0, none⟩)), (1, .int .i64 op), (2, .int .i64 a), (3, .int .i64 b), (9, .int .u32 (WhS.known D a).1), (10, .bool (WhS.known D a).2), (11, .int .u32 (WhS.known D b).1), (12, .bool (WhS.known D b).2), (13, .bool (WhS.turns op)), (79, .bool (decide (op = 28) && (WhS.known D b).2))] (fun go => ?_) (fun f w H => ?_)
      · refine TW.region ?_
        refine LW.v (r_mv) ?_
        refine LW.v (r_bin) ?_
        refine LW.v (r_mv) ?_
        refine LW.gen fun b hb => ?_; cases b
        · have hr2 := hb.symm; have hc2 := hb.symm; try simp only [beq_iff_eq, bne_iff_ne, beq_eq_false_iff_ne, bne_eq_false_iff_eq, decide_eq_true_eq, decide_eq_false_iff_not, Bool.not_eq_true', Bool.not_eq_false', Bool.true_eq, Bool.false_eq, ge_iff_le, gt_iff_lt, Bool.not_eq_eq_eq_not, Bool.not_true, Bool.not_false, ne_eq] at hc2
          refine LW.no (by rfl) (by rfl) (by rfl) (by rfl) (by rfl) (by rfl) ?_
          refine LW.v (r_pick) ?_
          refine LW.v (r_as) ?_
          refine LW.nil ?_
          exact go _ _ H ⟨rfl, rfl, rfl, rfl, rfl, rfl, rfl, rfl, rfl, congrArg Value.bool (by first | rfl | (simp [hc0, hc1, hc2]; done) | (exfalso; omega)  | exact Bool.noConfusion (hc0.symm.trans hc1) | exact Bool.noConfusion (hc0.symm.trans hc2) | exact Bool.noConfusion (hc1.symm.trans hc2)), trivial⟩
        · have hr2 := hb.symm; have hc2 := hb.symm; try simp only [beq_iff_eq, bne_iff_ne, beq_eq_false_iff_ne, bne_eq_false_iff_eq, decide_eq_true_eq, decide_eq_false_iff_not, Bool.not_eq_true', Bool.not_eq_false', Bool.true_eq, Bool.false_eq, ge_iff_le, gt_iff_lt, Bool.not_eq_eq_eq_not, Bool.not_true, Bool.not_false, ne_eq] at hc2
          refine LW.yes (by rfl) (by rfl) (by rfl) (by rfl) (by rfl) ?_
          refine LW.v (r_mv) ?_
          refine LW.v (r_pick) ?_
          refine LW.v (r_as) ?_
          refine LW.nil ?_
          exact go _ _ H ⟨rfl, rfl, rfl, rfl, rfl, rfl, rfl, rfl, rfl, congrArg Value.bool (by first | rfl | (simp [hc0, hc1, hc2]; done) | (exfalso; omega)  | exact Bool.noConfusion (hc0.symm.trans hc1) | exact Bool.noConfusion (hc0.symm.trans hc2) | exact Bool.noConfusion (hc1.symm.trans hc2)), trivial⟩
      refine TW.c rfl (fun hb => ?_) (fun hb => ?_)
      · have hr2 := hb; have hc2 := hb; try simp only [beq_iff_eq, bne_iff_ne, beq_eq_false_iff_ne, bne_eq_false_iff_eq, decide_eq_true_eq, decide_eq_false_iff_not, Bool.not_eq_true', Bool.not_eq_false', Bool.true_eq, Bool.false_eq, ge_iff_le, gt_iff_lt, Bool.not_eq_eq_eq_not, Bool.not_true, Bool.not_false, ne_eq] at hc2
        refine TW.seq ?_
        have hs : WhS.made D op a b = .goes 27 a (IntKind.u32.wrap (0 - (WhS.known D b).1)) := by
          unfold WhS.made
          rw [if_neg (Bool.eq_false_iff.1 hr0), if_neg (Bool.eq_false_iff.1 hr1), if_pos hr2]
        rw [hs] at hr
        refine TW.region ?_
        refine LW.v (r_mv) ?_
        refine LW.v (r_mv) ?_
        refine LW.v (r_mv) ?_
        refine LW.v (r_mv) ?_
        refine LW.v (r_neg) ?_
        refine LW.c r_c2 ((const_at p D (IntKind.u32.wrap (0 - (WhS.known D b).1)) hc (by omega) H).mono ?_)
        rintro _ w ⟨rfl, c', hc', H⟩
        refine ⟨_, rfl, ?_⟩
        refine LW.c r_c4 ((h.at (op := 27) (a := a) (D := (addT D (WhS.K (IntKind.u32.wrap (0 - (WhS.known D b).1)))).2) hc' (hg.add (WhS.u32_rng _)) (by have := WhS.addT_len D (WhS.K (IntKind.u32.wrap (0 - (WhS.known D b).1))); omega) hr H).mono ?_)
        rintro _ w ⟨rfl, c2, hc2, hg2, H⟩
        refine ⟨_, rfl, ?_⟩
        refine LW.v (r_as) ?_
        refine LW.nil ?_
        refine TW.ret (ret1 (by rfl) rT ?_)
        exact ⟨rfl, c2, hc2, hg2, H⟩
      · have hr2 := hb; have hc2 := hb; try simp only [beq_iff_eq, bne_iff_ne, beq_eq_false_iff_ne, bne_eq_false_iff_eq, decide_eq_true_eq, decide_eq_false_iff_not, Bool.not_eq_true', Bool.not_eq_false', Bool.true_eq, Bool.false_eq, ge_iff_le, gt_iff_lt, Bool.not_eq_eq_eq_not, Bool.not_true, Bool.not_false, ne_eq] at hc2
        refine TW.skip <| TW.inBlock <| TW.seq <| TW.seq ?_
        refine TW.region ?_
        refine LW.v (r_mv) ?_
        refine LW.nil ?_
        refine TW.c rfl (fun hb => ?_) (fun hb => ?_)
        · have hr3 := hb; have hc3 := hb; try simp only [beq_iff_eq, bne_iff_ne, beq_eq_false_iff_ne, bne_eq_false_iff_eq, decide_eq_true_eq, decide_eq_false_iff_not, Bool.not_eq_true', Bool.not_eq_false', Bool.true_eq, Bool.false_eq, ge_iff_le, gt_iff_lt, Bool.not_eq_eq_eq_not, Bool.not_true, Bool.not_false, ne_eq] at hc3
          refine TW.seq ?_
          refine TW.region ?_
          refine LW.v (r_mv) ?_
          refine LW.v (r_mv) ?_
          refine LW.v (r_mv) ?_
          refine LW.v (r_mv) ?_
          refine LW.v (r_mv) ?_
          cases hno : (WhS.byWord D op a b (WhS.known D b).1).isNo
          · have hs : WhS.made D op a b = WhS.byWord D op a b (WhS.known D b).1 := by
              unfold WhS.made
              rw [if_neg (Bool.eq_false_iff.1 hr0), if_neg (Bool.eq_false_iff.1 hr1), if_neg (Bool.eq_false_iff.1 hr2), if_pos (by rw [hr3, hno]; rfl)]
            rw [hs] at hr
            refine LW.c r_c5 ((byWord_yes h hc hg hlen hw hB hG hno hr H).mono ?_)
            rintro _ w ⟨rfl, c2, hc2, hg2, H⟩
            refine ⟨_, rfl, ?_⟩
            refine LW.v (r_mv) ?_
            refine LW.v (r_ext) ?_
            refine LW.v (r_ext) ?_
            refine LW.v (r_as) ?_
            refine LW.v (r_as) ?_
            refine LW.nil ?_
            refine TW.seq ?_
            refine TW.region ?_
            refine LW.v (r_mv) ?_
            refine LW.nil ?_
            refine TW.c rfl (fun _ => ?_) (fun h => by first | (cases h; done) | exact absurd h (by simp [hc0, hc1, hc2, hc3]))
            refine TW.seq ?_
            refine TW.region ?_
            refine LW.v (r_mv) ?_
            refine LW.v (r_as) ?_
            refine LW.nil ?_
            refine TW.ret (ret1 (by rfl) rT ?_)
            exact ⟨rfl, c2, hc2, hg2, H⟩
          · refine LW.c r_c5 ((byWord_no h hc hg hlen hw hB hG hno H).mono ?_)
            rintro _ w ⟨rfl, c, hc, H⟩
            refine ⟨_, rfl, ?_⟩
            refine LW.v (r_mv) ?_
            refine LW.v (r_ext) ?_
            refine LW.v (r_ext) ?_
            refine LW.v (r_as) ?_
            refine LW.v (r_as) ?_
            refine LW.nil ?_
            refine TW.seq ?_
            refine TW.region ?_
            refine LW.v (r_mv) ?_
            refine LW.nil ?_
            refine TW.c rfl (fun h => by first | (cases h; done) | exact absurd h (by simp [hc0, hc1, hc2, hc3])) (fun _ => ?_)
            refine TW.skip <| TW.seq <| TW.seq ?_
            refine TW.region ?_
            refine LW.v (r_mv) ?_
            refine LW.v (r_mv) ?_
            refine LW.v (r_bin) ?_
            refine LW.nil ?_
            refine TW.c rfl (fun hb => ?_) (fun hb => ?_)
            · have hr4 := hb; have hc4 := hb; try simp only [beq_iff_eq, bne_iff_ne, beq_eq_false_iff_ne, bne_eq_false_iff_eq, decide_eq_true_eq, decide_eq_false_iff_not, Bool.not_eq_true', Bool.not_eq_false', Bool.true_eq, Bool.false_eq, ge_iff_le, gt_iff_lt, Bool.not_eq_eq_eq_not, Bool.not_true, Bool.not_false, ne_eq] at hc4
              refine TW.seq ?_
              refine TW.region ?_
              refine LW.v (r_mv) ?_
              refine LW.v (r_mv) ?_
              refine LW.v (r_mv) ?_
              cases hno2 : (WhS.twice op a).isNo
              · have hs : WhS.made D op a b = WhS.twice op a := by
                  unfold WhS.made
                  rw [if_neg (Bool.eq_false_iff.1 hr0), if_neg (Bool.eq_false_iff.1 hr1), if_neg (Bool.eq_false_iff.1 hr2), if_neg (by rw [hr3, hno]; exact Bool.noConfusion)]
                  unfold WhS.tail
                  rw [if_pos (by rw [hr4, hno2]; rfl)]
                rw [hs] at hr
                have hr : WhS.exec rec D op a a (WhS.twice op a) = some r := ((hx 0 0 0).resolve_right (by rw [hno2]; exact Bool.noConfusion)).trans hr
                refine LW.c r_c3 ((twice_yes h hc hg hlen hno2 hr H).mono ?_)
                rintro _ w ⟨rfl, c2, hc2, hg2, H⟩
                refine ⟨_, rfl, ?_⟩
                refine LW.v (r_mv) ?_
                refine LW.v (r_ext) ?_
                refine LW.v (r_ext) ?_
                refine LW.v (r_as) ?_
                refine LW.v (r_as) ?_
                refine LW.nil ?_
                refine TW.seq ?_
                refine TW.region ?_
                refine LW.v (r_mv) ?_
                refine LW.nil ?_
                refine TW.c rfl (fun _ => ?_) (fun h => by first | (cases h; done) | exact absurd h (by simp [hc0, hc1, hc2, hc3, hc4]))
                refine TW.seq ?_
                refine TW.region ?_
                refine LW.v (r_mv) ?_
                refine LW.v (r_as) ?_
                refine LW.nil ?_
                refine TW.ret (ret1 (by rfl) rT ?_)
                exact ⟨rfl, c2, hc2, hg2, H⟩
              · refine LW.c r_c3 ((twice_no h hc hg hlen hno2 H).mono ?_)
                rintro _ w ⟨rfl, c, hc, H⟩
                refine ⟨_, rfl, ?_⟩
                refine LW.v (r_mv) ?_
                refine LW.v (r_ext) ?_
                refine LW.v (r_ext) ?_
                refine LW.v (r_as) ?_
                refine LW.v (r_as) ?_
                refine LW.nil ?_
                refine TW.seq ?_
                refine TW.region ?_
                refine LW.v (r_mv) ?_
                refine LW.nil ?_
                refine TW.c rfl (fun h => by first | (cases h; done) | exact absurd h (by simp [hc0, hc1, hc2, hc3, hc4])) (fun _ => ?_)
                refine TW.skip <| TW.seq ?_
                have hs : WhS.made D op a b = .opr := by
                  unfold WhS.made
                  rw [if_neg (Bool.eq_false_iff.1 hr0), if_neg (Bool.eq_false_iff.1 hr1), if_neg (Bool.eq_false_iff.1 hr2), if_neg (by rw [hr3, hno]; exact Bool.noConfusion)]
                  unfold WhS.tail
                  rw [if_neg (by rw [hr4, hno2]; exact Bool.noConfusion)]
                rw [hs] at hr
                refine TW.region ?_
                refine LW.v (r_mv) ?_
                refine LW.v (r_mv) ?_
                refine LW.v (r_mv) ?_
                refine LW.v (r_mv) ?_
                refine LW.c r_c4 ((op_at p D op a b hc (by omega) H).mono ?_)
                rintro _ w ⟨rfl, c', hc', H⟩
                refine ⟨_, rfl, ?_⟩
                refine LW.v (r_mv) ?_
                refine LW.v (r_ext) ?_
                refine LW.v (r_ext) ?_
                refine LW.v (r_as) ?_
                refine LW.v (r_as) ?_
                refine LW.nil ?_
                refine TW.seq ?_
                refine TW.region ?_
                refine LW.v (r_mv) ?_
                refine LW.v (r_as) ?_
                refine LW.nil ?_
                refine TW.ret (ret1 (by rfl) rT ?_)
                obtain rfl : ((WhD.op D op a b).1, (WhD.op D op a b).2.2) = r := Option.some.inj hr
                exact ⟨rfl, c', hc', hg.op op a b, H⟩
            · have hr4 := hb; have hc4 := hb; try simp only [beq_iff_eq, bne_iff_ne, beq_eq_false_iff_ne, bne_eq_false_iff_eq, decide_eq_true_eq, decide_eq_false_iff_not, Bool.not_eq_true', Bool.not_eq_false', Bool.true_eq, Bool.false_eq, ge_iff_le, gt_iff_lt, Bool.not_eq_eq_eq_not, Bool.not_true, Bool.not_false, ne_eq] at hc4
              refine TW.skip <| TW.seq ?_
              have hs : WhS.made D op a b = .opr := by
                unfold WhS.made
                rw [if_neg (Bool.eq_false_iff.1 hr0), if_neg (Bool.eq_false_iff.1 hr1), if_neg (Bool.eq_false_iff.1 hr2), if_neg (by rw [hr3, hno]; exact Bool.noConfusion)]
                unfold WhS.tail
                rw [if_neg (by rw [hr4]; exact Bool.noConfusion)]
              rw [hs] at hr
              refine TW.region ?_
              refine LW.v (r_mv) ?_
              refine LW.v (r_mv) ?_
              refine LW.v (r_mv) ?_
              refine LW.v (r_mv) ?_
              refine LW.c r_c4 ((op_at p D op a b hc (by omega) H).mono ?_)
              rintro _ w ⟨rfl, c', hc', H⟩
              refine ⟨_, rfl, ?_⟩
              refine LW.v (r_mv) ?_
              refine LW.v (r_ext) ?_
              refine LW.v (r_ext) ?_
              refine LW.v (r_as) ?_
              refine LW.v (r_as) ?_
              refine LW.nil ?_
              refine TW.seq ?_
              refine TW.region ?_
              refine LW.v (r_mv) ?_
              refine LW.v (r_as) ?_
              refine LW.nil ?_
              refine TW.ret (ret1 (by rfl) rT ?_)
              obtain rfl : ((WhD.op D op a b).1, (WhD.op D op a b).2.2) = r := Option.some.inj hr
              exact ⟨rfl, c', hc', hg.op op a b, H⟩
        · have hr3 := hb; have hc3 := hb; try simp only [beq_iff_eq, bne_iff_ne, beq_eq_false_iff_ne, bne_eq_false_iff_eq, decide_eq_true_eq, decide_eq_false_iff_not, Bool.not_eq_true', Bool.not_eq_false', Bool.true_eq, Bool.false_eq, ge_iff_le, gt_iff_lt, Bool.not_eq_eq_eq_not, Bool.not_true, Bool.not_false, ne_eq] at hc3
          refine TW.skip <| TW.seq <| TW.seq ?_
          refine TW.region ?_
          refine LW.v (r_mv) ?_
          refine LW.v (r_mv) ?_
          refine LW.v (r_bin) ?_
          refine LW.nil ?_
          refine TW.c rfl (fun hb => ?_) (fun hb => ?_)
          · have hr4 := hb; have hc4 := hb; try simp only [beq_iff_eq, bne_iff_ne, beq_eq_false_iff_ne, bne_eq_false_iff_eq, decide_eq_true_eq, decide_eq_false_iff_not, Bool.not_eq_true', Bool.not_eq_false', Bool.true_eq, Bool.false_eq, ge_iff_le, gt_iff_lt, Bool.not_eq_eq_eq_not, Bool.not_true, Bool.not_false, ne_eq] at hc4
            refine TW.seq ?_
            refine TW.region ?_
            refine LW.v (r_mv) ?_
            refine LW.v (r_mv) ?_
            refine LW.v (r_mv) ?_
            cases hno2 : (WhS.twice op a).isNo
            · have hs : WhS.made D op a b = WhS.twice op a := by
                unfold WhS.made
                rw [if_neg (Bool.eq_false_iff.1 hr0), if_neg (Bool.eq_false_iff.1 hr1), if_neg (Bool.eq_false_iff.1 hr2), if_neg (by rw [hr3]; exact Bool.noConfusion)]
                unfold WhS.tail
                rw [if_pos (by rw [hr4, hno2]; rfl)]
              rw [hs] at hr
              have hr : WhS.exec rec D op a a (WhS.twice op a) = some r := ((hx 0 0 0).resolve_right (by rw [hno2]; exact Bool.noConfusion)).trans hr
              refine LW.c r_c3 ((twice_yes h hc hg hlen hno2 hr H).mono ?_)
              rintro _ w ⟨rfl, c2, hc2, hg2, H⟩
              refine ⟨_, rfl, ?_⟩
              refine LW.v (r_mv) ?_
              refine LW.v (r_ext) ?_
              refine LW.v (r_ext) ?_
              refine LW.v (r_as) ?_
              refine LW.v (r_as) ?_
              refine LW.nil ?_
              refine TW.seq ?_
              refine TW.region ?_
              refine LW.v (r_mv) ?_
              refine LW.nil ?_
              refine TW.c rfl (fun _ => ?_) (fun h => by first | (cases h; done) | exact absurd h (by simp [hc0, hc1, hc2, hc3, hc4]))
              refine TW.seq ?_
              refine TW.region ?_
              refine LW.v (r_mv) ?_
              refine LW.v (r_as) ?_
              refine LW.nil ?_
              refine TW.ret (ret1 (by rfl) rT ?_)
              exact ⟨rfl, c2, hc2, hg2, H⟩
            · refine LW.c r_c3 ((twice_no h hc hg hlen hno2 H).mono ?_)
              rintro _ w ⟨rfl, c, hc, H⟩
              refine ⟨_, rfl, ?_⟩
              refine LW.v (r_mv) ?_
              refine LW.v (r_ext) ?_
              refine LW.v (r_ext) ?_
              refine LW.v (r_as) ?_
              refine LW.v (r_as) ?_
              refine LW.nil ?_
              refine TW.seq ?_
              refine TW.region ?_
              refine LW.v (r_mv) ?_
              refine LW.nil ?_
              refine TW.c rfl (fun h => by first | (cases h; done) | exact absurd h (by simp [hc0, hc1, hc2, hc3, hc4])) (fun _ => ?_)
              refine TW.skip <| TW.seq ?_
              have hs : WhS.made D op a b = .opr := by
                unfold WhS.made
                rw [if_neg (Bool.eq_false_iff.1 hr0), if_neg (Bool.eq_false_iff.1 hr1), if_neg (Bool.eq_false_iff.1 hr2), if_neg (by rw [hr3]; exact Bool.noConfusion)]
                unfold WhS.tail
                rw [if_neg (by rw [hr4, hno2]; exact Bool.noConfusion)]
              rw [hs] at hr
              refine TW.region ?_
              refine LW.v (r_mv) ?_
              refine LW.v (r_mv) ?_
              refine LW.v (r_mv) ?_
              refine LW.v (r_mv) ?_
              refine LW.c r_c4 ((op_at p D op a b hc (by omega) H).mono ?_)
              rintro _ w ⟨rfl, c', hc', H⟩
              refine ⟨_, rfl, ?_⟩
              refine LW.v (r_mv) ?_
              refine LW.v (r_ext) ?_
              refine LW.v (r_ext) ?_
              refine LW.v (r_as) ?_
              refine LW.v (r_as) ?_
              refine LW.nil ?_
              refine TW.seq ?_
              refine TW.region ?_
              refine LW.v (r_mv) ?_
              refine LW.v (r_as) ?_
              refine LW.nil ?_
              refine TW.ret (ret1 (by rfl) rT ?_)
              obtain rfl : ((WhD.op D op a b).1, (WhD.op D op a b).2.2) = r := Option.some.inj hr
              exact ⟨rfl, c', hc', hg.op op a b, H⟩
          · have hr4 := hb; have hc4 := hb; try simp only [beq_iff_eq, bne_iff_ne, beq_eq_false_iff_ne, bne_eq_false_iff_eq, decide_eq_true_eq, decide_eq_false_iff_not, Bool.not_eq_true', Bool.not_eq_false', Bool.true_eq, Bool.false_eq, ge_iff_le, gt_iff_lt, Bool.not_eq_eq_eq_not, Bool.not_true, Bool.not_false, ne_eq] at hc4
            refine TW.skip <| TW.seq ?_
            have hs : WhS.made D op a b = .opr := by
              unfold WhS.made
              rw [if_neg (Bool.eq_false_iff.1 hr0), if_neg (Bool.eq_false_iff.1 hr1), if_neg (Bool.eq_false_iff.1 hr2), if_neg (by rw [hr3]; exact Bool.noConfusion)]
              unfold WhS.tail
              rw [if_neg (by rw [hr4]; exact Bool.noConfusion)]
            rw [hs] at hr
            refine TW.region ?_
            refine LW.v (r_mv) ?_
            refine LW.v (r_mv) ?_
            refine LW.v (r_mv) ?_
            refine LW.v (r_mv) ?_
            refine LW.c r_c4 ((op_at p D op a b hc (by omega) H).mono ?_)
            rintro _ w ⟨rfl, c', hc', H⟩
            refine ⟨_, rfl, ?_⟩
            refine LW.v (r_mv) ?_
            refine LW.v (r_ext) ?_
            refine LW.v (r_ext) ?_
            refine LW.v (r_as) ?_
            refine LW.v (r_as) ?_
            refine LW.nil ?_
            refine TW.seq ?_
            refine TW.region ?_
            refine LW.v (r_mv) ?_
            refine LW.v (r_as) ?_
            refine LW.nil ?_
            refine TW.ret (ret1 (by rfl) rT ?_)
            obtain rfl : ((WhD.op D op a b).1, (WhD.op D op a b).2.2) = r := Option.some.inj hr
            exact ⟨rfl, c', hc', hg.op op a b, H⟩
theorem made_ok {B : Nat} {w0 : World} {p : Nat} (hB : 0 < B) (hG : RowAt w0 ⟨0, 0, none⟩ tabV) : ∀ n, MadeOK B w0 p n (WhS.madeF n)
  | 0 => fun D c L op a b r w _ _ _ hr _ => by cases hr
  | n + 1 => made_step (made_ok hB hG n) hB hG
end Wh
