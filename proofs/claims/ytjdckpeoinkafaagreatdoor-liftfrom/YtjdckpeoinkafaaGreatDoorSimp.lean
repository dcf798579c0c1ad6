/- A part of the walk through the code: contracts of functions, printed by a program of the prover. -/
import Derived.Test.YtjdckpeoinkafaaGreatDoorDag
import Derived.Test.YtjdckpeoinkafaaGreatDoorSp
import Derived.Test.YtjdckpeoinkafaaGreatDoorWord
import Derived.Test.YtjdckpeoinkafaaGreatDoorInst
set_option linter.all false
namespace Wh
open Go Go.Proofs
set_option maxRecDepth 100000
theorem bs_dag : BS Tryz.prog 90 [(0, 1), (1, 3), (4, 1), (5, 1)] := ⟨_, Tryz.underlying90, fun w => by kernel_rfl⟩
theorem dag_open {B : Nat} {w0 w : World} {L : List Ck} {p : Nat} {D : List T} {c : Ck} (hc : DagC p D c) (H : Hp B w0 w (c :: L)) :
    ∃ v x1 x2 x3 x4 x5 Y, Hp B w0 w (Blk p 90 #[v, x1, x2, x3, x4, x5] :: Row 68 5 v D.length (rowOf T.val D) :: Y :: L) ∧ ∀ w' L', Hp B w0 w' (Blk p 90 #[v, x1, x2, x3, x4, x5] :: Row 68 5 v D.length (rowOf T.val D) :: Y :: L') → Hp B w0 w' (c :: L') := by
  rcases hc with ⟨rfl, rfl⟩ | ⟨m, v, rfl⟩
  · refine ⟨.slice none 0 0, .int .u32 0, .int .i32 0, .int .u32 0, .map none, .int .i64 0, Pu True, ?_, fun w' L' H' => (H'.dropAt 1).dropAt 1⟩
    have H1 := H.new (c' := Pu True) (Chg.refl _ _) trivial (fun _ hk => hk.elim)
    have H2 := H1.new (c' := Row 68 5 (.slice none 0 0) 0 []) (Chg.refl _ _) (World.ownsRow_nil _ _ _ _) (by intro k hk; simp [Row, Value.ownBlock] at hk)
    exact H2.perm (perm_front _ 2 _ rfl)
  · refine ⟨v, .int .u32 1, .int .i32 0, .int .u32 0, .map (some m), .int .i64 D.length, MapC T.val i64v m (numb 0 D), ?_, fun w' L' H' => ?_⟩
    · exact H.of_all.perm (List.Perm.cons _ (List.Perm.swap _ _ _))
    · exact Hp.all_of (l := dagL p m v D) (H'.perm (List.Perm.cons _ (List.Perm.swap _ _ _)))
theorem number_at {B : Nat} {w0 w : World} {Ls : List Ck} {c : Ck} {mk : Ck → List Ck} (p : Nat) (D : List T) (t : T) (hc : DagC p D c) (hlen : D.length < 1073741824) (H : Hp B w0 w Ls) (hb : HasC Ls c mk := by infer_instance) :
    Calls Tryz.prog 48 #[.pointer (some ⟨p, 0, none⟩), t.val] w fun e w' => e = .returned (.int .i64 (addT D t).1) ∧ ∃ c', DagC p (addT D t).2 c' ∧ Hp B w0 w' (mk c') := by
  obtain ⟨R, H1, back⟩ := H.pick (h := hb)
  exact (number_spec _ _ _ _ p D t c hc hlen H1).mono fun e w' ⟨h1, c', h2, h3⟩ => ⟨h1, c', h2, back _ _ h3⟩
theorem const_spec (B : Nat) (w0 w : World) (L : List Ck) (p : Nat) (D : List T) (c : Ck) (hc : DagC p D c) (v : Int) (hlen : D.length < 1073741824) (H : Hp B w0 w (c :: L)) : Calls Tryz.prog 20 #[.pointer (some ⟨p, 0, none⟩), .int .u32 v] w fun e w' => e = .returned (.int .i64 (addT D ⟨0, v, 0, 0, 0⟩).1) ∧ ∃ c', DagC p (addT D ⟨0, v, 0, 0, 0⟩).2 c' ∧ Hp B w0 w' (c' :: L) := by
  refine calls_go Tryz.func20 Tryz.ntmps20 rfl rfl ?_
  refine TW.seq ?_
  refine TW.region ?_
  refine LW.v (r_as) ?_
  refine LW.nil ?_
  refine TW.seq ?_
  refine TW.region ?_
  refine LW.v (r_mv) ?_
  refine LW.v (r_mv) ?_
  refine LW.v (r_bd) ?_
  refine LW.c r_c2 ((number_at p D ⟨0, v, 0, 0, 0⟩ hc hlen H).mono ?_)
  rintro _ w ⟨rfl, c', hc', H⟩
  refine ⟨_, rfl, ?_⟩
  refine LW.v (r_as) ?_
  refine LW.nil ?_
  refine TW.ret (ret1 (by rfl) rT ?_)
  exact ⟨by first | rfl | (simp [addT]; done) | (exfalso; omega), _, by simpa [addT] using hc', by first | exact H | exact H.drop⟩
theorem const_at {B : Nat} {w0 w : World} {Ls : List Ck} {c : Ck} {mk : Ck → List Ck} (p : Nat) (D : List T) (v : Int) (hc : DagC p D c) (hlen : D.length < 1073741824) (H : Hp B w0 w Ls) (hb : HasC Ls c mk := by infer_instance) :
    Calls Tryz.prog 20 #[.pointer (some ⟨p, 0, none⟩), .int .u32 v] w fun e w' => e = .returned (.int .i64 (addT D ⟨0, v, 0, 0, 0⟩).1) ∧ ∃ c', DagC p (addT D ⟨0, v, 0, 0, 0⟩).2 c' ∧ Hp B w0 w' (mk c') := by
  obtain ⟨R, H1, back⟩ := H.pick (h := hb)
  exact (const_spec _ _ _ _ p D c hc v hlen H1).mono fun e w' ⟨h1, c', h2, h3⟩ => ⟨h1, c', h2, back _ _ h3⟩
theorem var_spec (B : Nat) (w0 w : World) (L : List Ck) (p : Nat) (D : List T) (c : Ck) (hc : DagC p D c) (n : Int) (hlen : D.length < 1073741824) (H : Hp B w0 w (c :: L)) : Calls Tryz.prog 49 #[.pointer (some ⟨p, 0, none⟩), .int .i64 n] w fun e w' => e = .returned (.tuple #[.int .i64 (WhD.var D n).1, .int .i64 (WhD.var D n).2.1]) ∧ ∃ c', DagC p (WhD.var D n).2.2 c' ∧ Hp B w0 w' (c' :: L) := by
  refine calls_go Tryz.func49 Tryz.ntmps49 rfl rfl ?_
  refine TW.seq ?_
  refine TW.region ?_
  refine LW.v (r_as) ?_
  refine LW.v (r_as) ?_
  refine LW.nil ?_
  refine TW.seq <| TW.block <| TW.seq ?_
  refine TW.region ?_
  refine LW.v (r_mv) ?_
  refine LW.v (r_bin) ?_
  refine LW.v (r_mv) ?_
  refine LW.gen fun b hb => ?_; cases b
  · have hr0 := hb.symm; have hc0 := hb.symm; try simp only [beq_iff_eq, bne_iff_ne, beq_eq_false_iff_ne, bne_eq_false_iff_eq, decide_eq_true_eq, decide_eq_false_iff_not, Bool.not_eq_true', Bool.not_eq_false', Bool.true_eq, Bool.false_eq, ge_iff_le, gt_iff_lt, Bool.not_eq_eq_eq_not, Bool.not_true, Bool.not_false, ne_eq] at hc0
    refine LW.yes (by rfl) (by rfl) (by rfl) (by rfl) (by rfl) ?_
    refine LW.v (r_mv) ?_
    refine LW.yes (by rfl) (by rfl) (by rfl) (by rfl) (by rfl) ?_
    refine LW.v (r_bin) ?_
    refine LW.v (r_pick) ?_
    refine LW.v (r_as) ?_
    refine LW.nil ?_
    refine TW.c rfl (fun hb => ?_) (fun hb => ?_)
    · have hr1 := hb; have hc1 := hb; try simp only [beq_iff_eq, bne_iff_ne, beq_eq_false_iff_ne, bne_eq_false_iff_eq, decide_eq_true_eq, decide_eq_false_iff_not, Bool.not_eq_true', Bool.not_eq_false', Bool.true_eq, Bool.false_eq, ge_iff_le, gt_iff_lt, Bool.not_eq_eq_eq_not, Bool.not_true, Bool.not_false, ne_eq] at hc1
      refine TW.seq ?_
      refine TW.region ?_
      refine LW.v (r_as) ?_
      refine LW.v (r_as) ?_
      refine LW.nil ?_
      refine TW.ret (ret2 (by rfl) rT rT ?_)
      first | exact ⟨by simp [WhD.var, hc0, hc1], _, by simpa [WhD.var, hc0, hc1] using hc', H⟩ | exact ⟨by simp [WhD.var, hc0, hc1], _, by simpa [WhD.var, hc0, hc1] using hc, H⟩
    · have hr1 := hb; have hc1 := hb; try simp only [beq_iff_eq, bne_iff_ne, beq_eq_false_iff_ne, bne_eq_false_iff_eq, decide_eq_true_eq, decide_eq_false_iff_not, Bool.not_eq_true', Bool.not_eq_false', Bool.true_eq, Bool.false_eq, ge_iff_le, gt_iff_lt, Bool.not_eq_eq_eq_not, Bool.not_true, Bool.not_false, ne_eq] at hc1
      refine TW.seq ?_
      refine TW.region ?_
      refine LW.v (r_mv) ?_
      refine LW.v (r_bin) ?_
      refine LW.v (r_as) ?_
      refine LW.nil ?_
      refine TW.c rfl (fun hb => ?_) (fun hb => ?_)
      · have hr2 := hb; have hc2 := hb; try simp only [beq_iff_eq, bne_iff_ne, beq_eq_false_iff_ne, bne_eq_false_iff_eq, decide_eq_true_eq, decide_eq_false_iff_not, Bool.not_eq_true', Bool.not_eq_false', Bool.true_eq, Bool.false_eq, ge_iff_le, gt_iff_lt, Bool.not_eq_eq_eq_not, Bool.not_true, Bool.not_false, ne_eq] at hc2
        refine TW.seq ?_
        refine TW.region ?_
        refine LW.v (r_mv) ?_
        refine LW.c r_c2 ((const_at p D 0 hc hlen H).mono ?_)
        rintro _ w ⟨rfl, c', hc', H⟩
        refine ⟨_, rfl, ?_⟩
        refine LW.v (r_as) ?_
        refine LW.v (r_as) ?_
        refine LW.nil ?_
        refine TW.ret (ret2 (by rfl) rT rT ?_)
        first | exact ⟨by simp [WhD.var, hc0, hc1, hc2], _, by simpa [WhD.var, hc0, hc1, hc2] using hc', H⟩ | exact ⟨by simp [WhD.var, hc0, hc1, hc2], _, by simpa [WhD.var, hc0, hc1, hc2] using hc, H⟩
      · have hr2 := hb; have hc2 := hb; try simp only [beq_iff_eq, bne_iff_ne, beq_eq_false_iff_ne, bne_eq_false_iff_eq, decide_eq_true_eq, decide_eq_false_iff_not, Bool.not_eq_true', Bool.not_eq_false', Bool.true_eq, Bool.false_eq, ge_iff_le, gt_iff_lt, Bool.not_eq_eq_eq_not, Bool.not_true, Bool.not_false, ne_eq] at hc2
        refine TW.skip <| TW.inBlock <| TW.seq ?_
        refine TW.region ?_
        refine LW.v (r_mv) ?_
        refine LW.v (r_mv) ?_
        refine LW.v (r_cv) ?_
        refine LW.v (r_bd) ?_
        refine LW.c r_c2 ((number_at p D ⟨1, WhI.u32 n, 0, 0, 0⟩ hc hlen H).mono ?_)
        rintro _ w ⟨rfl, c', hc', H⟩
        refine ⟨_, rfl, ?_⟩
        refine LW.v (r_as) ?_
        refine LW.v (r_as) ?_
        refine LW.nil ?_
        refine TW.ret (ret2 (by rfl) rT rT ?_)
        first | exact ⟨by simp [WhD.var, hc0, hc1, hc2], _, by simpa [WhD.var, hc0, hc1, hc2] using hc', H⟩ | exact ⟨by simp [WhD.var, hc0, hc1, hc2], _, by simpa [WhD.var, hc0, hc1, hc2] using hc, H⟩
  · have hr0 := hb.symm; have hc0 := hb.symm; try simp only [beq_iff_eq, bne_iff_ne, beq_eq_false_iff_ne, bne_eq_false_iff_eq, decide_eq_true_eq, decide_eq_false_iff_not, Bool.not_eq_true', Bool.not_eq_false', Bool.true_eq, Bool.false_eq, ge_iff_le, gt_iff_lt, Bool.not_eq_eq_eq_not, Bool.not_true, Bool.not_false, ne_eq] at hc0
    refine LW.no (by rfl) (by rfl) (by rfl) (by rfl) (by rfl) (by rfl) ?_
    refine LW.no (by rfl) (by rfl) (by rfl) (by rfl) (by rfl) (by rfl) ?_
    refine LW.v (r_pick) ?_
    refine LW.v (r_as) ?_
    refine LW.nil ?_
    refine TW.c rfl (fun _ => ?_) (fun h => by first | (cases h; done) | exact absurd h (by simp [hc0]))
    refine TW.seq ?_
    refine TW.region ?_
    refine LW.v (r_as) ?_
    refine LW.v (r_as) ?_
    refine LW.nil ?_
    refine TW.ret (ret2 (by rfl) rT rT ?_)
    first | exact ⟨by simp [WhD.var, hc0], _, by simpa [WhD.var, hc0] using hc', H⟩ | exact ⟨by simp [WhD.var, hc0], _, by simpa [WhD.var, hc0] using hc, H⟩
theorem var_at {B : Nat} {w0 w : World} {Ls : List Ck} {c : Ck} {mk : Ck → List Ck} (p : Nat) (D : List T) (n : Int) (hc : DagC p D c) (hlen : D.length < 1073741824) (H : Hp B w0 w Ls) (hb : HasC Ls c mk := by infer_instance) :
    Calls Tryz.prog 49 #[.pointer (some ⟨p, 0, none⟩), .int .i64 n] w fun e w' => e = .returned (.tuple #[.int .i64 (WhD.var D n).1, .int .i64 (WhD.var D n).2.1]) ∧ ∃ c', DagC p (WhD.var D n).2.2 c' ∧ Hp B w0 w' (mk c') := by
  obtain ⟨R, H1, back⟩ := H.pick (h := hb)
  exact (var_spec _ _ _ _ p D c hc n hlen H1).mono fun e w' ⟨h1, c', h2, h3⟩ => ⟨h1, c', h2, back _ _ h3⟩
theorem is_spec (B : Nat) (w0 w : World) (L : List Ck) (p : Nat) (D : List T) (c : Ck) (hc : DagC p D c) (n : Int) (H : Hp B w0 w (c :: L)) : Calls Tryz.prog 40 #[.pointer (some ⟨p, 0, none⟩), .int .i64 n] w fun e w' => e = .returned (.bool (WhD.is D n)) ∧ Hp B w0 w' (c :: L) := by
  obtain ⟨v, x1, x2, x3, x4, x5, Y, H, back⟩ := dag_open hc H
  obtain ⟨a, cap, rfl, hrow, hlen⟩ := H.row (v := v)
  refine calls_go Tryz.func40 Tryz.ntmps40 rfl rfl ?_
  refine TW.seq ?_
  refine TW.region ?_
  refine LW.v (r_as) ?_
  refine LW.nil ?_
  refine TW.seq ?_
  refine TW.region ?_
  refine LW.v (r_mv) ?_
  refine LW.v (r_bin) ?_
  refine LW.v (r_mv) ?_
  refine LW.gen fun b hb => ?_; cases b
  · have hr0 := hb.symm; have hc0 := hb.symm; try simp only [beq_iff_eq, bne_iff_ne, beq_eq_false_iff_ne, bne_eq_false_iff_eq, decide_eq_true_eq, decide_eq_false_iff_not, Bool.not_eq_true', Bool.not_eq_false', Bool.true_eq, Bool.false_eq, ge_iff_le, gt_iff_lt, Bool.not_eq_eq_eq_not, Bool.not_true, Bool.not_false, ne_eq] at hc0
    refine LW.no (by rfl) (by rfl) (by rfl) (by rfl) (by rfl) (by rfl) ?_
    refine LW.no (by rfl) (by rfl) (by rfl) (by rfl) (by rfl) (by rfl) ?_
    refine LW.no (by rfl) (by rfl) (by rfl) (by rfl) (by rfl) (by rfl) ?_
    refine LW.no (by rfl) (by rfl) (by rfl) (by rfl) (by rfl) (by rfl) ?_
    refine LW.no (by rfl) (by rfl) (by rfl) (by rfl) (by rfl) (by rfl) ?_
    refine LW.no (by rfl) (by rfl) (by rfl) (by rfl) (by rfl) (by rfl) ?_
    refine LW.no (by rfl) (by rfl) (by rfl) (by rfl) (by rfl) (by rfl) ?_
    refine LW.v (r_pick) ?_
    refine LW.v (r_as) ?_
    refine LW.nil ?_
    refine TW.ret (ret1 (by rfl) rT ?_)
    exact ⟨by first | rfl | (simp [WhD.is, hc0]; done) | (exfalso; omega), back _ _ (by first | exact H | exact H.drop)⟩
  · have hr0 := hb.symm; have hc0 := hb.symm; try simp only [beq_iff_eq, bne_iff_ne, beq_eq_false_iff_ne, bne_eq_false_iff_eq, decide_eq_true_eq, decide_eq_false_iff_not, Bool.not_eq_true', Bool.not_eq_false', Bool.true_eq, Bool.false_eq, ge_iff_le, gt_iff_lt, Bool.not_eq_eq_eq_not, Bool.not_true, Bool.not_false, ne_eq] at hc0
    refine LW.yes (by rfl) (by rfl) (by rfl) (by rfl) (by rfl) ?_
    refine LW.v (r_mv) ?_
    refine LW.yes (by rfl) (by rfl) (by rfl) (by rfl) (by rfl) ?_
    refine LW.v (r_mv) ?_
    refine LW.yes (by rfl) (by rfl) (by rfl) (by rfl) (by rfl) ?_
    refine LW.v (r_nil) ?_
    refine LW.yes (by rfl) (by rfl) (by rfl) (by rfl) (by rfl) ?_
    refine LW.v (r_fa) ?_
    refine LW.yes (by rfl) (by rfl) (by rfl) (by rfl) (by rfl) ?_
    refine LW.v (r_ld H) ?_
    refine LW.yes (by rfl) (by rfl) (by rfl) (by rfl) (by rfl) ?_
    refine LW.v (r_len) ?_
    refine LW.yes (by rfl) (by rfl) (by rfl) (by rfl) (by rfl) ?_
    refine LW.v (r_bin) ?_
    refine LW.v (r_pick) ?_
    refine LW.v (r_as) ?_
    refine LW.nil ?_
    refine TW.ret (ret1 (by rfl) rT ?_)
    exact ⟨by first | rfl | (simp [WhD.is, hc0]; done) | (exfalso; omega), back _ _ (by first | exact H | exact H.drop)⟩
theorem is_at {B : Nat} {w0 w : World} {Ls : List Ck} {c : Ck} {mk : Ck → List Ck} (p : Nat) (D : List T) (n : Int) (hc : DagC p D c) (H : Hp B w0 w Ls) (hb : HasC Ls c mk := by infer_instance) :
    Calls Tryz.prog 40 #[.pointer (some ⟨p, 0, none⟩), .int .i64 n] w fun e w' => e = .returned (.bool (WhD.is D n)) ∧ Hp B w0 w' (mk c) := by
  obtain ⟨R, H1, back⟩ := H.pick (h := hb)
  exact (is_spec _ _ _ _ p D c hc n H1).mono fun e w' ⟨h1, h3⟩ => ⟨h1, back _ _ h3⟩
theorem len_spec (B : Nat) (w0 w : World) (L : List Ck) (p : Nat) (D : List T) (c : Ck) (hc : DagC p D c) (H : Hp B w0 w (c :: L)) : Calls Tryz.prog 33 #[.pointer (some ⟨p, 0, none⟩)] w fun e w' => e = .returned (.int .i64 D.length) ∧ Hp B w0 w' (c :: L) := by
  obtain ⟨v, x1, x2, x3, x4, x5, Y, H, back⟩ := dag_open hc H
  obtain ⟨a, cap, rfl, hrow, hlen⟩ := H.row (v := v)
  refine calls_go Tryz.func33 Tryz.ntmps33 rfl rfl ?_
  refine TW.seq ?_
  refine TW.region ?_
  refine LW.v (r_as) ?_
  refine LW.nil ?_
  refine TW.seq ?_
  refine TW.region ?_
  refine LW.v (r_mv) ?_
  refine LW.v (r_nil) ?_
  refine LW.v (r_fa) ?_
  refine LW.v (r_ld H) ?_
  refine LW.v (r_len) ?_
  refine LW.v (r_as) ?_
  refine LW.nil ?_
  refine TW.ret (ret1 (by rfl) rT ?_)
  exact ⟨by first | rfl | (simp []; done) | (exfalso; omega), back _ _ (by first | exact H | exact H.drop)⟩
theorem len_at {B : Nat} {w0 w : World} {Ls : List Ck} {c : Ck} {mk : Ck → List Ck} (p : Nat) (D : List T) (hc : DagC p D c) (H : Hp B w0 w Ls) (hb : HasC Ls c mk := by infer_instance) :
    Calls Tryz.prog 33 #[.pointer (some ⟨p, 0, none⟩)] w fun e w' => e = .returned (.int .i64 D.length) ∧ Hp B w0 w' (mk c) := by
  obtain ⟨R, H1, back⟩ := H.pick (h := hb)
  exact (len_spec _ _ _ _ p D c hc  H1).mono fun e w' ⟨h1, h3⟩ => ⟨h1, back _ _ h3⟩
theorem node_spec (B : Nat) (w0 w : World) (L : List Ck) (p : Nat) (D : List T) (c : Ck) (hc : DagC p D c) (n : Int) (H : Hp B w0 w (c :: L)) : Calls Tryz.prog 34 #[.pointer (some ⟨p, 0, none⟩), .int .i64 n] w fun e w' => e = .returned (.tuple #[(WhD.node D n).1.val, .int .i64 (WhD.node D n).2]) ∧ Hp B w0 w' (c :: L) := by
  refine calls_go Tryz.func34 Tryz.ntmps34 rfl rfl ?_
  refine TW.seq ?_
  refine TW.region ?_
  refine LW.new (r_al H) ?_; intro g4 w H
  refine LW.v (r_as) ?_
  refine LW.nil ?_
  refine TW.seq <| TW.seq ?_
  refine TW.region ?_
  refine LW.v (r_mv) ?_
  refine LW.v (r_mv) ?_
  refine LW.c r_c2 ((is_at p D n hc H).mono ?_)
  rintro _ w ⟨rfl, H⟩
  refine ⟨_, rfl, ?_⟩
  refine LW.v (r_not) ?_
  refine LW.nil ?_
  refine TW.c rfl (fun hb => ?_) (fun hb => ?_)
  · have hi : WhD.is D n = false := by simpa using hb
    refine TW.seq ?_
    refine TW.region ?_
    refine LW.v (r_bd) ?_
    refine LW.sto (r_stW H) ?_; intro w H
    refine LW.v (r_as) ?_
    refine LW.nil ?_
    refine TW.ret (ret2 (by rfl) (rC H) rT ?_)
    exact ⟨by simp [WhD.node, hi]; rfl, H.drop⟩
  · have hi : WhD.is D n = true := by simpa using hb
    have hn : 0 ≤ n ∧ n < D.length := by simpa [WhD.is] using hi
    obtain ⟨v, x1, x2, x3, x4, x5, Y, H, back⟩ := dag_open hc H.swap
    obtain ⟨a, cap, rfl, hrow, hlen⟩ := H.row (v := v)
    have hlt : n.toNat < D.length := by omega
    have hg : D[n.toNat]? = some D[n.toNat] := List.getElem?_eq_getElem hlt
    obtain ⟨g, rfl, _, hr⟩ : ∃ g, a = some ⟨g, 0, none⟩ ∧ B ≤ g ∧ RowAt _ ⟨g, 0, none⟩ (rowOf T.val D) := hrow.resolve_left (by omega)
    refine TW.skip <| TW.seq ?_
    refine TW.region ?_
    refine LW.v (r_mv) ?_
    refine LW.v (r_nil) ?_
    refine LW.v (r_fa) ?_
    refine LW.v (r_ld H) ?_
    refine LW.v (r_mv) ?_
    refine LW.v (r_iaS (h0 := by omega) (h1 := by omega)) ?_
    refine LW.v (r_ldR hr hg (size := 5) (fun _ => rfl)) ?_
    refine LW.sto (r_stW H) ?_; intro w H
    refine LW.v (r_as) ?_
    refine LW.nil ?_
    refine TW.ret (ret2 (by rfl) (rC H) rT ?_)
    exact ⟨by simp [WhD.node, hi, hg]; rfl, back _ _ (H.dropAt 3)⟩
theorem node_at {B : Nat} {w0 w : World} {Ls : List Ck} {c : Ck} {mk : Ck → List Ck} (p : Nat) (D : List T) (n : Int) (hc : DagC p D c) (H : Hp B w0 w Ls) (hb : HasC Ls c mk := by infer_instance) :
    Calls Tryz.prog 34 #[.pointer (some ⟨p, 0, none⟩), .int .i64 n] w fun e w' => e = .returned (.tuple #[(WhD.node D n).1.val, .int .i64 (WhD.node D n).2]) ∧ Hp B w0 w' (mk c) := by
  obtain ⟨R, H1, back⟩ := H.pick (h := hb)
  exact (node_spec _ _ _ _ p D c hc n H1).mono fun e w' ⟨h1, h3⟩ => ⟨h1, back _ _ h3⟩
theorem op_spec (B : Nat) (w0 w : World) (L : List Ck) (p : Nat) (D : List T) (c : Ck) (hc : DagC p D c) (op : Int) (a : Int) (b : Int) (hlen : D.length < 1073741824) (H : Hp B w0 w (c :: L)) : Calls Tryz.prog 51 #[.pointer (some ⟨p, 0, none⟩), .int .i64 op, .int .i64 a, .int .i64 b] w fun e w' => e = .returned (.tuple #[.int .i64 (WhD.op D op a b).1, .int .i64 (WhD.op D op a b).2.1]) ∧ ∃ c', DagC p (WhD.op D op a b).2.2 c' ∧ Hp B w0 w' (c' :: L) := by
  refine calls_go Tryz.func51 Tryz.ntmps51 rfl rfl ?_
  refine TW.seq ?_
  refine TW.region ?_
  refine LW.v (r_as) ?_
  refine LW.v (r_as) ?_
  refine LW.nil ?_
  refine TW.seq <| TW.seq ?_
  refine TW.region ?_
  refine LW.v (r_mv) ?_
  refine LW.v (r_mv) ?_
  refine LW.c r_c2 ((is_at p D _ hc H).mono ?_)
  rintro _ w ⟨rfl, H⟩
  refine ⟨_, rfl, ?_⟩
  refine LW.v (r_not) ?_
  refine LW.v (r_mv) ?_
  refine LW.gen fun b hb => ?_; cases b
  · have hr0 := hb.symm; have hc0 := hb.symm; try simp only [beq_iff_eq, bne_iff_ne, beq_eq_false_iff_ne, bne_eq_false_iff_eq, decide_eq_true_eq, decide_eq_false_iff_not, Bool.not_eq_true', Bool.not_eq_false', Bool.true_eq, Bool.false_eq, ge_iff_le, gt_iff_lt, Bool.not_eq_eq_eq_not, Bool.not_true, Bool.not_false, ne_eq] at hc0
    refine LW.yes (by rfl) (by rfl) (by rfl) (by rfl) (by rfl) ?_
    refine LW.v (r_mv) ?_
    refine LW.yes (by rfl) (by rfl) (by rfl) (by rfl) (by rfl) ?_
    refine LW.v (r_mv) ?_
    refine LW.yes (by rfl) (by rfl) (by rfl) (by rfl) (by rfl) ?_
    refine LW.c r_c2 ((is_at p D _ hc H).mono ?_)
    rintro _ w ⟨rfl, H⟩
    refine ⟨_, rfl, ?_⟩
    refine LW.yes (by rfl) (by rfl) (by rfl) (by rfl) (by rfl) ?_
    refine LW.v (r_not) ?_
    refine LW.v (r_pick) ?_
    refine LW.nil ?_
    refine TW.c rfl (fun hb => ?_) (fun hb => ?_)
    · have hr1 := hb; have hc1 := hb; try simp only [beq_iff_eq, bne_iff_ne, beq_eq_false_iff_ne, bne_eq_false_iff_eq, decide_eq_true_eq, decide_eq_false_iff_not, Bool.not_eq_true', Bool.not_eq_false', Bool.true_eq, Bool.false_eq, ge_iff_le, gt_iff_lt, Bool.not_eq_eq_eq_not, Bool.not_true, Bool.not_false, ne_eq] at hc1
      refine TW.seq ?_
      refine TW.region ?_
      refine LW.v (r_as) ?_
      refine LW.v (r_as) ?_
      refine LW.nil ?_
      refine TW.ret (ret2 (by rfl) rT rT ?_)
      first | exact ⟨by simp [WhD.op, hc0, hc1], _, by simpa [WhD.op, hc0, hc1] using hc', H⟩ | exact ⟨by simp [WhD.op, hc0, hc1], _, by simpa [WhD.op, hc0, hc1] using hc, H⟩
    · have hr1 := hb; have hc1 := hb; try simp only [beq_iff_eq, bne_iff_ne, beq_eq_false_iff_ne, bne_eq_false_iff_eq, decide_eq_true_eq, decide_eq_false_iff_not, Bool.not_eq_true', Bool.not_eq_false', Bool.true_eq, Bool.false_eq, ge_iff_le, gt_iff_lt, Bool.not_eq_eq_eq_not, Bool.not_true, Bool.not_false, ne_eq] at hc1
      refine TW.skip <| TW.seq <| TW.seq ?_
      refine TW.region ?_
      refine LW.v (r_mv) ?_
      refine LW.c r_c3 ((wdo_spec _ _ _ _ op 0 0 (by decide) (by decide) H).mono ?_)
      rintro _ w ⟨rfl, H⟩
      refine ⟨_, rfl, ?_⟩
      refine LW.v (r_mv) ?_
      refine LW.v (r_ext) ?_
      refine LW.v (r_ext) ?_
      refine LW.v (r_as) ?_
      refine LW.v (r_as) ?_
      refine LW.nil ?_
      refine TW.seq ?_
      refine TW.region ?_
      refine LW.v (r_mv) ?_
      refine LW.v (r_bin) ?_
      refine LW.nil ?_
      refine TW.c rfl (fun hb => ?_) (fun hb => ?_)
      · have hr2 := hb; have hc2 := hb; try simp only [beq_iff_eq, bne_iff_ne, beq_eq_false_iff_ne, bne_eq_false_iff_eq, decide_eq_true_eq, decide_eq_false_iff_not, Bool.not_eq_true', Bool.not_eq_false', Bool.true_eq, Bool.false_eq, ge_iff_le, gt_iff_lt, Bool.not_eq_eq_eq_not, Bool.not_true, Bool.not_false, ne_eq] at hc2
        refine TW.seq ?_
        refine TW.region ?_
        refine LW.v (r_mv) ?_
        refine LW.v (r_as) ?_
        refine LW.v (r_as) ?_
        refine LW.nil ?_
        refine TW.ret (ret2 (by rfl) rT rT ?_)
        first | exact ⟨by simp [WhD.op, hc0, hc1, hc2], _, by simpa [WhD.op, hc0, hc1, hc2] using hc', H⟩ | exact ⟨by simp [WhD.op, hc0, hc1, hc2], _, by simpa [WhD.op, hc0, hc1, hc2] using hc, H⟩
      · have hr2 := hb; have hc2 := hb; try simp only [beq_iff_eq, bne_iff_ne, beq_eq_false_iff_ne, bne_eq_false_iff_eq, decide_eq_true_eq, decide_eq_false_iff_not, Bool.not_eq_true', Bool.not_eq_false', Bool.true_eq, Bool.false_eq, ge_iff_le, gt_iff_lt, Bool.not_eq_eq_eq_not, Bool.not_true, Bool.not_false, ne_eq] at hc2
        refine TW.skip <| TW.seq ?_
        refine TW.region ?_
        refine LW.v (r_mv) ?_
        refine LW.v (r_mv) ?_
        refine LW.v (r_mv) ?_
        refine LW.v (r_mv) ?_
        refine LW.v (r_bd) ?_
        refine LW.c r_c2 ((number_at p D ⟨2, 0, op, a, b⟩ hc hlen H).mono ?_)
        rintro _ w ⟨rfl, c', hc', H⟩
        refine ⟨_, rfl, ?_⟩
        refine LW.v (r_as) ?_
        refine LW.v (r_as) ?_
        refine LW.nil ?_
        refine TW.ret (ret2 (by rfl) rT rT ?_)
        first | exact ⟨by simp [WhD.op, hc0, hc1, hc2], _, by simpa [WhD.op, hc0, hc1, hc2] using hc', H⟩ | exact ⟨by simp [WhD.op, hc0, hc1, hc2], _, by simpa [WhD.op, hc0, hc1, hc2] using hc, H⟩
  · have hr0 := hb.symm; have hc0 := hb.symm; try simp only [beq_iff_eq, bne_iff_ne, beq_eq_false_iff_ne, bne_eq_false_iff_eq, decide_eq_true_eq, decide_eq_false_iff_not, Bool.not_eq_true', Bool.not_eq_false', Bool.true_eq, Bool.false_eq, ge_iff_le, gt_iff_lt, Bool.not_eq_eq_eq_not, Bool.not_true, Bool.not_false, ne_eq] at hc0
    refine LW.no (by rfl) (by rfl) (by rfl) (by rfl) (by rfl) (by rfl) ?_
    refine LW.no (by rfl) (by rfl) (by rfl) (by rfl) (by rfl) (by rfl) ?_
    refine LW.no (by rfl) (by rfl) (by rfl) (by rfl) (by rfl) (by rfl) ?_
    refine LW.no (by rfl) (by rfl) (by rfl) (by rfl) (by rfl) (by rfl) ?_
    refine LW.v (r_pick) ?_
    refine LW.nil ?_
    refine TW.c rfl (fun _ => ?_) (fun h => by first | (cases h; done) | exact absurd h (by simp [hc0]))
    refine TW.seq ?_
    refine TW.region ?_
    refine LW.v (r_as) ?_
    refine LW.v (r_as) ?_
    refine LW.nil ?_
    refine TW.ret (ret2 (by rfl) rT rT ?_)
    first | exact ⟨by simp [WhD.op, hc0], _, by simpa [WhD.op, hc0] using hc', H⟩ | exact ⟨by simp [WhD.op, hc0], _, by simpa [WhD.op, hc0] using hc, H⟩
theorem op_at {B : Nat} {w0 w : World} {Ls : List Ck} {c : Ck} {mk : Ck → List Ck} (p : Nat) (D : List T) (op : Int) (a : Int) (b : Int) (hc : DagC p D c) (hlen : D.length < 1073741824) (H : Hp B w0 w Ls) (hb : HasC Ls c mk := by infer_instance) :
    Calls Tryz.prog 51 #[.pointer (some ⟨p, 0, none⟩), .int .i64 op, .int .i64 a, .int .i64 b] w fun e w' => e = .returned (.tuple #[.int .i64 (WhD.op D op a b).1, .int .i64 (WhD.op D op a b).2.1]) ∧ ∃ c', DagC p (WhD.op D op a b).2.2 c' ∧ Hp B w0 w' (mk c') := by
  obtain ⟨R, H1, back⟩ := H.pick (h := hb)
  exact (op_spec _ _ _ _ p D c hc op a b hlen H1).mono fun e w' ⟨h1, c', h2, h3⟩ => ⟨h1, c', h2, back _ _ h3⟩
theorem new_spec (B : Nat) (w0 w : World) (L : List Ck) (H : Hp B w0 w L) : Calls Tryz.prog 15 #[] w fun e w' => ∃ p c, e = .returned (.pointer (some ⟨p, 0, none⟩)) ∧ DagC p [] c ∧ Hp B w0 w' (c :: L) := by
  refine calls_go Tryz.func15 Tryz.ntmps15 rfl rfl ?_
  refine TW.seq ?_
  refine TW.region ?_
  refine LW.v (r_as) ?_
  refine LW.nil ?_
  refine TW.seq ?_
  refine TW.region ?_
  refine LW.v (r_bd (hT := bs_dag)) ?_
  refine LW.new (r_box H) ?_; intro g2 w H
  refine LW.v (r_as) ?_
  refine LW.nil ?_
  refine TW.ret (ret1 (by rfl) rT ?_)
  exact ⟨_, _, rfl, .inl ⟨rfl, rfl⟩, H⟩
end Wh
namespace Wh
open Go Go.Proofs
set_option maxRecDepth 100000
theorem rowAt_blk {B : Nat} {w0 w : World} {L : List Ck} {g : Nat} {bt : TypeId} {cs : Array Value} {mk : Array Value → List Ck} (H : Hp B w0 w L) (hb : HasB L g bt cs mk := by infer_instance) : RowAt w ⟨g, 0, none⟩ cs.toList := by
  intro j u hj
  rw [add_of, Nat.zero_add, cell_of_blk (H.getB (h := hb))]
  simpa using hj
theorem among_spec (w : World) (a : Addr) (cap : Nat) (op : Int) (l : List Int) (hr : RowAt w a (rowOf i64v l)) (hl : l.length < 1073741824) : Calls Tryz.prog 98 #[.int .i64 op, .slice (some a) l.length cap] w fun e w' => e = .returned (.bool (WhS.among op l)) ∧ w' = w := by
  refine calls_go Tryz.func98 Tryz.ntmps98 rfl rfl ?_
  refine TW.seq ?_
  refine TW.region ?_
  refine LW.v (r_as) ?_
  refine LW.nil ?_
  refine TW.seq <| TW.seq ?_
  refine TW.region ?_
  refine LW.v (r_mv) ?_
  refine LW.v (r_len) ?_
  refine LW.v (r_mv) ?_
  refine LW.nil ?_
  refine TW.block ?_
  refine TW.lp (σ := Nat) (fun i w' => w' = w ∧ i ≤ l.length ∧ ∀ j, j < i → l[j]? ≠ some op) (fun i => [(9, .int .i64 (i : Int)), (7, .slice (some a) l.length cap), (8, .int .i64 l.length), (0, .int .i64 op)]) (fun i => l.length - i) (0) (⟨rfl, by omega, fun j hj => absurd hj (by omega)⟩) (⟨rfl, rfl, rfl, rfl, trivial⟩) ?_
  rintro i f w ⟨rfl, hi, hn⟩ again
  refine TW.seq ?_
  refine TW.region ?_
  refine LW.v (r_bin) ?_
  refine LW.nil ?_
  refine TW.seq ?_
  refine TW.c rfl (fun hb => ?_) (fun hb => ?_)
  · have hi2 : i < l.length := by simpa using hb
    have hg : l[i]? = some l[i] := List.getElem?_eq_getElem hi2
    refine TW.skip <| TW.seq <| TW.block <| TW.seq ?_
    refine TW.region ?_
    refine LW.v (r_iaS (h0 := by omega) (h1 := by omega)) ?_
    refine LW.v (r_ldR1 (i := i) (enc := i64v) hr hg (fun _ => rfl)) ?_
    refine LW.v (r_as) ?_
    refine LW.nil ?_
    refine TW.seq ?_
    refine TW.region ?_
    refine LW.v (r_mv) ?_
    refine LW.v (r_mv) ?_
    refine LW.v (r_bin) ?_
    refine LW.nil ?_
    refine TW.c rfl (fun hb => ?_) (fun hb => ?_)
    · refine TW.seq ?_
      refine TW.region ?_
      refine LW.v (r_as) ?_
      refine LW.nil ?_
      refine TW.ret (ret1 (by rfl) rT ?_)
      have he : l[i] = op := by simpa using hb
      have : WhS.among op l = true := by simp [WhS.among]; exact he ▸ List.getElem_mem hi2
      exact ⟨by rw [this], rfl⟩
    · refine TW.skip <| TW.inBlock ?_
      refine TW.region ?_
      first | refine LW.v (r_add (hk := w64 (by omega) (by omega))) ?_ | refine LW.v (r_bin) ?_
      refine LW.v (r_mv) ?_
      refine LW.nil ?_
      have he : ¬ l[i] = op := by simpa using hb
      exact again (i + 1) _ _ ⟨rfl, by omega, fun j hj => by
        by_cases e : j = i
        · subst e; rw [hg]; simpa using he
        · exact hn j (by omega)⟩ ⟨rfl, rfl, rfl, rfl, trivial⟩ (by omega)
  · refine TW.exit rfl <| TW.seq ?_
    refine TW.region ?_
    refine LW.v (r_as) ?_
    refine LW.nil ?_
    refine TW.ret (ret1 (by rfl) rT ?_)
    have hi2 : i = l.length := by have : ¬ i < l.length := by simpa using hb
                                  omega
    have : WhS.among op l = false := by
      simp only [WhS.among, List.contains_eq_mem, decide_eq_false_iff_not]
      intro hm
      obtain ⟨j, hj, e⟩ := List.getElem_of_mem hm
      exact hn j (by omega) (by rw [List.getElem?_eq_getElem hj, e])
    exact ⟨by rw [this], rfl⟩
theorem known_spec (B : Nat) (w0 w : World) (L : List Ck) (p : Nat) (D : List T) (c : Ck) (hc : DagC p D c) (n : Int) (H : Hp B w0 w (c :: L)) : Calls Tryz.prog 97 #[.pointer (some ⟨p, 0, none⟩), .int .i64 n] w fun e w' => e = .returned (.tuple #[.int .u32 (WhS.known D n).1, .bool (WhS.known D n).2]) ∧ Hp B w0 w' (c :: L) := by
  refine calls_go Tryz.func97 Tryz.ntmps97 rfl rfl ?_
  refine TW.seq ?_
  refine TW.region ?_
  refine LW.v (r_as) ?_
  refine LW.v (r_as) ?_
  refine LW.nil ?_
  refine TW.seq ?_
  refine TW.region ?_
  refine LW.v (r_mv) ?_
  refine LW.v (r_mv) ?_
  refine LW.c r_c2 ((node_at p D n hc H).mono ?_)
  rintro _ w ⟨rfl, H⟩
  refine ⟨_, rfl, ?_⟩
  refine LW.v (r_mv) ?_
  refine LW.v (r_ext) ?_
  refine LW.v (r_ext) ?_
  refine LW.new (r_al H) ?_; intro g6 w H
  refine LW.sto (r_stW H) ?_; intro w H
  refine LW.v (r_as) ?_
  refine LW.nil ?_
  refine TW.seq ?_
  refine TW.draw [(0, some 0), (1, some 0), (2, some 0), (3, some 0), (4, some 0), (5, some 0), (6, some 0)] [] hmix (by kernel_rfl) (fun _ _ _ _ _ h => h) H (fun m w => (m = 0 → Hp _ _ w _)) (fun _ h _ => h) ?_
  intro w H
  refine DW.v (by rfl) (Quiet.y (fun _ _ => r_fa)) ?_
  refine DW.hm (by rfl) (Quiet.y (fun _ h => r_ld (h rfl))) ?_
  refine DW.v (by rfl) (Quiet.y (fun _ _ => r_fa)) ?_
  refine DW.hm (by rfl) (Quiet.y (fun _ h => r_ld (h rfl))) ?_
  refine DW.v (by rfl) (Quiet.y (fun _ _ => r_bin)) ?_
  refine DW.v (by rfl) (Quiet.y (fun _ _ => r_as)) ?_
  refine DW.v (by rfl) (Quiet.y (fun _ _ => r_as)) ?_
  refine DW.nil (fun _ => ?_)
  refine TW.ret (ret2 (by rfl) rT rT ?_)
  exact ⟨by first | rfl | (simp [WhS.known]; done) | (exfalso; omega), by first | exact H | exact H.drop | exact H.drop.drop⟩
theorem known_at {B : Nat} {w0 w : World} {Ls : List Ck} {c : Ck} {mk : Ck → List Ck} (p : Nat) (D : List T) (n : Int) (hc : DagC p D c) (H : Hp B w0 w Ls) (hb : HasC Ls c mk := by infer_instance) :
    Calls Tryz.prog 97 #[.pointer (some ⟨p, 0, none⟩), .int .i64 n] w fun e w' => e = .returned (.tuple #[.int .u32 (WhS.known D n).1, .bool (WhS.known D n).2]) ∧ Hp B w0 w' (mk c) := by
  obtain ⟨R, H1, back⟩ := H.pick (h := hb)
  exact (known_spec _ _ _ _ p D c hc n H1).mono fun e w' ⟨h1, h3⟩ => ⟨h1, back _ _ h3⟩
theorem shift_spec (B : Nat) (w0 w : World) (L : List Ck) (op : Int) (H : Hp B w0 w L) : Calls Tryz.prog 110 #[.int .i64 op] w fun e w' => e = .returned (.bool (WhS.shift op)) ∧ Hp B w0 w' L := by
  refine calls_go Tryz.func110 Tryz.ntmps110 rfl rfl ?_
  refine TW.seq ?_
  refine TW.region ?_
  refine LW.v (r_as) ?_
  refine LW.nil ?_
  refine TW.seq ?_
  refine TW.region ?_
  refine LW.v (r_mv) ?_
  refine LW.new (r_bsl H [.int .i64 29, .int .i64 33, .int .i64 34] [.int .i64 29, .int .i64 33, .int .i64 34] rfl rfl (hv := by simp [Value.cells])) ?_; intro gb w H
  refine LW.c r_c2 ((among_spec _ _ _ _ [29, 33, 34] (rowAt_blk H) (by decide)).mono ?_)
  rintro _ w ⟨rfl, rfl⟩
  refine ⟨_, rfl, ?_⟩
  have H := H.drop
  refine LW.v (r_as) ?_
  refine LW.nil ?_
  refine TW.ret (ret1 (by rfl) rT ?_)
  exact ⟨by first | rfl | (simp [IntKind.bits, WhS.shift]; done) | (exfalso; omega), by first | exact H | exact H.drop | exact H.drop.drop⟩
def tabV : List Value := (List.range 32).map fun i => .int .u8 (WhS.tabN i)
theorem tabV_at {i : Nat} (h : i < 32) : tabV[i]? = some (.int .u8 (WhS.tabN i)) := by simp [tabV, h]
theorem tz_spec (B : Nat) (w0 w : World) (L : List Ck) (v : Int) (hB : 0 < B) (hG : RowAt w0 ⟨0, 0, none⟩ tabV) (H : Hp B w0 w L) : Calls Tryz.prog 109 #[.int .u32 v] w fun e w' => e = .returned (.int .i64 (WhS.tz v)) ∧ Hp B w0 w' L := by
  refine calls_go Tryz.func109 Tryz.ntmps109 rfl rfl ?_
  refine TW.seq ?_
  refine TW.region ?_
  refine LW.v (r_as) ?_
  refine LW.nil ?_
  refine TW.seq <| TW.seq ?_
  refine TW.region ?_
  refine LW.v (r_mv) ?_
  refine LW.v (r_bin) ?_
  refine LW.nil ?_
  refine TW.c rfl (fun hb => ?_) (fun hb => ?_)
  · refine TW.seq ?_
    refine TW.region ?_
    refine LW.v (r_as) ?_
    refine LW.nil ?_
    refine TW.ret (ret1 (by rfl) rT ?_)
    have : v = 0 := by simpa using hb
    exact ⟨by simp [WhS.tz, this], H⟩
  · refine TW.skip <| TW.seq ?_
    refine TW.region ?_
    refine LW.v (r_mv) ?_
    refine LW.v (r_mv) ?_
    refine LW.v (r_neg) ?_
    refine LW.v (r_bin) ?_
    refine LW.v (r_bin) ?_
    refine LW.v (r_shr (hb := by first | omega | exact WhI.bits_nn _ _ _ | exact WhI.u32_nn _)) ?_
    have hz := WhS.tzi_rng v
    have hG' := (RowAt.below hG hB H) (WhS.tzi v).toNat _ (tabV_at (by omega))
    rw [add_of, Nat.zero_add] at hG'
    refine LW.v (r_iaA (k := .u32) (i := WhS.tzi v) (hy := by rfl) (h0 := hz.1) (h1 := hz.2)) ?_
    refine LW.v (r_ldc (a := ⟨0, 0 + (WhS.tzi v).toNat * 1, none⟩) (by rw [Nat.zero_add, Nat.mul_one]; exact hG')) ?_
    refine LW.v (r_cv) ?_
    refine LW.v (r_as) ?_
    refine LW.nil ?_
    refine TW.ret (ret1 (by rfl) rT ?_)
    have hv : ¬ v = 0 := by simpa using hb
    have ht : ∀ i, i < 32 → IntKind.i64.wrap (WhS.tabN i) = WhS.tabN i := by decide
    exact ⟨by rw [ht _ (by omega)]; simp [WhS.tz, hv], H⟩
end Wh
