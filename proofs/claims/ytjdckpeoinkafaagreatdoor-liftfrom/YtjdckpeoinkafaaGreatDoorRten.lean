/- A part of the walk through the code: contracts of functions, printed by a program of the prover. -/
import Derived.Test.YtjdckpeoinkafaaGreatDoorRd
import Derived.Test.YtjdckpeoinkafaaGreatDoorSimp
import Derived.Test.YtjdckpeoinkafaaGreatDoorRone
import Derived.Test.YtjdckpeoinkafaaGreatDoorFwQ
set_option linter.all false
namespace Wh
open Go Go.Proofs
set_option maxRecDepth 100000
def rdL (q : Nat) (v : Value) (D : List T) : List Ck := [Blk q 67 #[v], Row 68 5 v D.length (rowOf T.val D)]
/-- the document's terms in memory -/
def RdC (q : Nat) (D : List T) (c : Ck) : Prop := ∃ v, c = Ck.all (rdL q v D)
theorem rd_open {B : Nat} {w0 w : World} {L : List Ck} {q : Nat} {D : List T} {c : Ck} (hc : RdC q D c) (H : Hp B w0 w (c :: L)) :
    ∃ v, Hp B w0 w (Blk q 67 #[v] :: Row 68 5 v D.length (rowOf T.val D) :: L) ∧ ∀ w' L', Hp B w0 w' (Blk q 67 #[v] :: Row 68 5 v D.length (rowOf T.val D) :: L') → Hp B w0 w' (c :: L') := by
  obtain ⟨v, rfl⟩ := hc
  exact ⟨v, H.of_all, fun w' L' H' => Hp.all_of (l := rdL q v D) H'⟩
theorem bs_rdag : BS Tryz.prog 67 [(0, 1)] := ⟨_, Tryz.underlying67, fun w => by kernel_rfl⟩
theorem rnew_spec (B : Nat) (w0 w : World) (L : List Ck) (H : Hp B w0 w L) : Calls Tryz.prog 18 #[] w fun e w' => ∃ q c, e = .returned (.pointer (some ⟨q, 0, none⟩)) ∧ RdC q [] c ∧ Hp B w0 w' (c :: L) := by
  refine calls_go Tryz.func18 Tryz.ntmps18 rfl rfl ?_
  refine TW.seq ?_
  refine TW.region ?_
  refine LW.v (r_as) ?_
  refine LW.nil ?_
  refine TW.seq ?_
  refine TW.region ?_
  refine LW.v (r_bd (hT := bs_rdag)) ?_
  refine LW.new (r_box H) ?_; intro g2 w H
  refine LW.v (r_as) ?_
  refine LW.nil ?_
  refine TW.ret (ret1 (by rfl) rT ?_)
  refine ⟨_, _, rfl, ⟨.slice none 0 0, rfl⟩, ?_⟩
  have H1 := H.new (c' := Row 68 5 (.slice none 0 0) 0 []) (Chg.refl _ _) (World.ownsRow_nil _ _ _ _) (by intro k hk; simp [Row, Value.ownBlock] at hk)
  exact Hp.all_of (l := rdL _ _ []) H1.swap
theorem radd_spec (B : Nat) (w0 w : World) (L : List Ck) (q : Nat) (D : List T) (t : T) (c : Ck) (hc : RdC q D c) (hlen : D.length < 1073741824) (H : Hp B w0 w (c :: L)) :
    Calls Tryz.prog 63 #[.pointer (some ⟨q, 0, none⟩), t.val] w fun e w' => e = .returned (.int .i64 (addT D t).1) ∧ ∃ c', RdC q (addT D t).2 c' ∧ Hp B w0 w' (c' :: L) := by
  obtain ⟨v, H, back⟩ := rd_open hc H
  refine calls_go Tryz.func63 Tryz.ntmps63 rfl rfl ?_
  refine TW.seq ?_
  refine TW.region ?_
  refine LW.new (r_box H) ?_; intro g3 w H
  refine LW.v (r_as) ?_
  refine LW.nil ?_
  refine TW.seq <| TW.seq ?_
  refine TW.region ?_
  refine LW.v (r_as) ?_
  refine LW.nil ?_
  refine TW.block ?_
  have H : Hp B w0 w (Blk g3 68 t.cells.toArray :: Blk q 67 #[v] :: Row 68 5 v D.length (rowOf T.val D) :: L) := H
  refine TW.lp (σ := Nat) (fun i w' => i ≤ D.length ∧ (∀ j : Nat, j < i → D[j]? ≠ some t) ∧ Hp B w0 w' (Blk g3 68 t.cells.toArray :: Blk q 67 #[v] :: Row 68 5 v D.length (rowOf T.val D) :: L)) (fun i => [(0, .pointer (some ⟨q, 0, none⟩)), (3, .pointer (some ⟨g3, 0, none⟩)), (5, .int .i64 (i : Int))]) (fun i => D.length - i) (0) (⟨Nat.zero_le _, fun j hj => absurd hj (by omega), H⟩) (⟨rfl, rfl, rfl, trivial⟩) ?_
  rintro i f w ⟨hi, hn, H⟩ again
  obtain ⟨a, cap, rfl, hrow, hlr⟩ := H.row (v := v)
  refine TW.seq <| TW.seq ?_
  refine TW.region ?_
  refine LW.v (r_mv) ?_
  refine LW.v (r_mv) ?_
  refine LW.v (r_nil) ?_
  refine LW.v (r_fa) ?_
  refine LW.v (r_ld H) ?_
  refine LW.v (r_len) ?_
  refine LW.v (r_bin) ?_
  refine LW.nil ?_
  refine TW.c rfl (fun hb => ?_) (fun hb => ?_)
  · have hi2 : i < D.length := by simpa using hb
    obtain ⟨d, hg⟩ : ∃ d, D[i]? = some d := ⟨_, List.getElem?_eq_getElem hi2⟩
    obtain ⟨g, rfl, _, hr⟩ : ∃ g, a = some ⟨g, 0, none⟩ ∧ B ≤ g ∧ RowAt _ ⟨g, 0, none⟩ (rowOf T.val D) := hrow.resolve_left (by omega)
    refine TW.skip <| TW.seq <| TW.block <| TW.seq ?_
    refine TW.drawE [(none, none, fun w => Hp B w0 w (Blk g3 68 t.cells.toArray :: Blk q 67 #[.slice (some ⟨g, 0, none⟩) D.length cap] :: Row 68 5 (.slice (some ⟨g, 0, none⟩) D.length cap) D.length (rowOf T.val D) :: L))] hmix (by kernel_rfl) (fun _ _ _ _ _ h => h) H (fun w H => (Sat.cons (fun _ _ => H) Sat.nil)) ?_
    intro w H
    refine EW.v (i := 0) (by kernel_rfl) (by rfl) (by kernel_rfl) (Quiet.y (fun _ _ => r_mv)) ?_
    refine EW.v (i := 1) (by kernel_rfl) (by rfl) (by kernel_rfl) (Quiet.y (fun _ _ => r_nil)) ?_
    refine EW.v (i := 2) (by kernel_rfl) (by rfl) (by kernel_rfl) (Quiet.y (fun _ _ => r_fa)) ?_
    refine EW.m (j := 0) (i := 3) (by kernel_rfl) (by rfl) (by kernel_rfl) rfl rfl rfl (Quiet.y (fun _ h => r_ld h)) ?_
    refine EW.v (i := 4) (by kernel_rfl) (by rfl) (by kernel_rfl) (Quiet.y (fun _ _ => r_mv)) ?_
    refine EW.v (i := 5) (by kernel_rfl) (by rfl) (by kernel_rfl) (Quiet.y (fun _ _ => r_iaS (h0 := by omega) (h1 := by omega))) ?_
    refine EW.m (j := 0) (i := 6) (by kernel_rfl) (by rfl) (by kernel_rfl) rfl rfl rfl (Quiet.y (fun _ h => r_ldR (i := i) (enc := T.val) (rowR (g := g) (cap := cap) (m := D.length) h) hg (fun _ => rfl) (size := 5))) ?_
    refine EW.m (j := 0) (i := 7) (by kernel_rfl) (by rfl) (by kernel_rfl) rfl rfl rfl (Quiet.y (fun _ h => r_ldW (cs := t.cells.toArray) h)) ?_
    refine EW.v (i := 8) (by kernel_rfl) (by rfl) (by kernel_rfl) (Quiet.y (fun _ _ => r_eqs2 (ks := tks) d.nums t.nums)) ?_
    refine EW.nil (by kernel_rfl) (fun _ => ?_)
    refine TW.c rfl (fun hb => ?_) (fun hb => ?_)
    · refine TW.seq ?_
      refine TW.region ?_
      refine LW.v (r_mv) ?_
      refine LW.v (r_as) ?_
      refine LW.nil ?_
      refine TW.ret (ret1 (by rfl) rT ?_)
      have he : d.nums = t.nums := by simpa using hb
      have he2 : d = t := by
        cases d; cases t
        simpa [T.nums] using he
      rw [he2] at hg
      have e := addT_first hn hg
      exact ⟨by rw [e], c, by rw [e]; exact hc, back _ _ H.drop⟩
    · refine TW.skip <| TW.inBlock ?_
      refine TW.region ?_
      refine LW.v (r_mv) ?_
      first | refine LW.v (r_add (hk := w64 (by omega) (by omega))) ?_ | refine LW.v (r_bin) ?_
      refine LW.v (r_as) ?_
      refine LW.nil ?_
      have he : ¬ d.nums = t.nums := by simpa using hb
      refine again (i + 1) _ _ ⟨by omega, fun j hj => ?_, H⟩ ⟨rfl, rfl, rfl, trivial⟩ (by omega)
      by_cases e : j = i
      · subst e
        rw [hg]
        intro h
        have := Option.some.inj h
        rw [this] at he
        exact he rfl
      · exact hn j (by omega)
  · have hi2 : ¬ i < D.length := by simpa using hb
    have hnone : ∀ j : Nat, D[j]? ≠ some t := by
      intro j
      rcases Nat.lt_or_ge j D.length with h | h
      · exact hn j (by omega)
      · rw [List.getElem?_eq_none h]; simp
    have e := addT_none hnone
    refine TW.exit rfl <| TW.seq ?_
    refine TW.drawE [(none, some 7, fun w => Hp B w0 w (Blk g3 68 t.cells.toArray :: Blk q 67 #[.slice a D.length cap] :: Row 68 5 (.slice a D.length cap) D.length (rowOf T.val D) :: L))] hmix (by kernel_rfl) (fun _ _ _ _ _ h => h) H (fun w H => (Sat.cons (fun _ _ => (by first | exact H | exact H.drop)) Sat.nil)) ?_
    intro w H
    refine EW.v (i := 0) (by kernel_rfl) (by rfl) (by kernel_rfl) (Quiet.y (fun _ _ => r_mv)) ?_
    refine EW.v (i := 1) (by kernel_rfl) (by rfl) (by kernel_rfl) (Quiet.y (fun _ _ => r_mv)) ?_
    refine EW.v (i := 2) (by kernel_rfl) (by rfl) (by kernel_rfl) (Quiet.y (fun _ _ => r_nil)) ?_
    refine EW.v (i := 3) (by kernel_rfl) (by rfl) (by kernel_rfl) (Quiet.y (fun _ _ => r_fa)) ?_
    refine EW.m (j := 0) (i := 4) (by kernel_rfl) (by rfl) (by kernel_rfl) rfl rfl (by kernel_rfl) (Quiet.y (fun _ h => r_ld h)) ?_
    refine EW.m (j := 0) (i := 5) (by kernel_rfl) (by rfl) (by kernel_rfl) rfl rfl (by kernel_rfl) (Quiet.y (fun _ h => r_ldW (cs := t.cells.toArray) h)) ?_
    refine EW.loud 6 [] (by kernel_rfl) ?_
    intro i hi
    simp only [List.mem_cons, List.not_mem_nil, or_false] at hi
    subst hi
    refine ⟨_, rfl, ?_⟩
    refine LW.new (r_bsl H [t.val] t.cells rfl rfl (hv := by simp [T.val, T.nums, iv, Value.cells])) ?_; intro gs w H
    refine LW.nil ⟨(Sat.cons (fun _ _ => (by first | exact H | exact H.drop)) Sat.nil), ?_⟩
    refine EW.loud 7 [] (by kernel_rfl) ?_
    intro i hi
    simp only [List.mem_cons, List.not_mem_nil, or_false] at hi
    subst hi
    refine ⟨_, rfl, ?_⟩
    refine LW.newv (r_app (v := .slice a D.length cap) H (hl := rfl) (news := t.cells) (hnews := news_of_blk (g := gs) H) (h1 := by simp [T.cells, T.nums, iv, Value.oneCell']) (hb := by omega) (hmax := by omega)) ?_; intro v2 w H
    refine LW.nil ⟨(Sat.cons (fun _ h => Bool.noConfusion ((show lit _ 7 = true by kernel_rfl).symm.trans (h 7 rfl))) Sat.nil), ?_⟩
    refine EW.v (i := 8) (by kernel_rfl) (by rfl) (by kernel_rfl) (Quiet.y (fun _ _ => r_nil)) ?_
    refine EW.v (i := 9) (by kernel_rfl) (by rfl) (by kernel_rfl) (Quiet.y (fun _ _ => r_fa)) ?_
    refine EW.loud 10 [] (by kernel_rfl) ?_
    intro i hi
    simp only [List.mem_cons, List.not_mem_nil, or_false] at hi
    subst hi
    refine ⟨_, rfl, ?_⟩
    refine LW.sto (r_st H (v := v2) (h1 := oneR (v := v2) H)) ?_; intro w H
    refine LW.nil ⟨(Sat.cons (fun _ h => Bool.noConfusion ((show lit _ 7 = true by kernel_rfl).symm.trans (h 7 rfl))) Sat.nil), ?_⟩
    refine EW.nil (by kernel_rfl) (fun _ => ?_)
    obtain ⟨a2, cap2, rfl, _, _⟩ := H.row (v := v2)
    refine TW.seq ?_
    refine TW.region ?_
    refine LW.v (r_mv) ?_
    refine LW.v (r_nil) ?_
    refine LW.v (r_fa) ?_
    refine LW.v (r_ld H) ?_
    refine LW.v (r_len) ?_
    first | refine LW.v (r_sub (hk := w64 (by omega) (by omega))) ?_ | refine LW.v (r_bin) ?_
    refine LW.v (r_as) ?_
    refine LW.nil ?_
    refine TW.ret (ret1 (by rfl) rT ?_)
    refine ⟨?_, _, ⟨.slice a2 (D.length + 1) cap2, rfl⟩, Hp.all_of (l := rdL q (.slice a2 (D.length + 1) cap2) (addT D t).2) ?_⟩
    · rw [e]
      refine congrArg (fun z => Ending.returned (.int .i64 z)) ?_
      omega
    · rw [e]
      have H2 := (H.drop).drop
      simpa [rdL, rowOf, List.flatMap_append, T.val_cells] using H2
theorem radd_at {B : Nat} {w0 w : World} {Ls : List Ck} {c : Ck} {mk : Ck → List Ck} (q : Nat) (D : List T) (t : T) (hc : RdC q D c) (hlen : D.length < 1073741824) (H : Hp B w0 w Ls) (hb : HasC Ls c mk := by infer_instance) :
    Calls Tryz.prog 63 #[.pointer (some ⟨q, 0, none⟩), t.val] w fun e w' => e = .returned (.int .i64 (addT D t).1) ∧ ∃ c', RdC q (addT D t).2 c' ∧ Hp B w0 w' (mk c') := by
  obtain ⟨R, H1, back⟩ := H.pick (h := hb)
  exact (radd_spec _ _ _ _ q D t c hc hlen H1).mono fun e w' ⟨h1, c', h2, h3⟩ => ⟨h1, c', h2, back _ _ h3⟩
theorem rconst_spec (B : Nat) (w0 w : World) (L : List Ck) (q : Nat) (D : List T) (c : Ck) (hc : RdC q D c) (v : Int) (hlen : D.length < 1073741824) (H : Hp B w0 w (c :: L)) : Calls Tryz.prog 36 #[.pointer (some ⟨q, 0, none⟩), .int .u32 v] w fun e w' => e = .returned (.int .i64 (addT D ⟨0, v, 0, 0, 0⟩).1) ∧ ∃ c', RdC q (addT D ⟨0, v, 0, 0, 0⟩).2 c' ∧ Hp B w0 w' (c' :: L) := by
  refine calls_go Tryz.func36 Tryz.ntmps36 rfl rfl ?_
  refine TW.seq ?_
  refine TW.region ?_
  refine LW.v (r_as) ?_
  refine LW.nil ?_
  refine TW.seq ?_
  refine TW.region ?_
  refine LW.v (r_mv) ?_
  refine LW.v (r_mv) ?_
  refine LW.v (r_bd) ?_
  refine LW.c r_c2 ((radd_at q D ⟨0, v, 0, 0, 0⟩ hc hlen H).mono ?_)
  rintro _ w ⟨rfl, c', hc', H⟩
  refine ⟨_, rfl, ?_⟩
  refine LW.v (r_as) ?_
  refine LW.nil ?_
  refine TW.ret (ret1 (by rfl) rT ?_)
  exact ⟨by first | rfl | (simp [addT]; done) | (exfalso; omega), _, by simpa [addT] using hc', by first | exact H | exact H.drop⟩
theorem rconst_at {B : Nat} {w0 w : World} {Ls : List Ck} {c : Ck} {mk : Ck → List Ck} (q : Nat) (D : List T) (v : Int) (hc : RdC q D c) (hlen : D.length < 1073741824) (H : Hp B w0 w Ls) (hb : HasC Ls c mk := by infer_instance) :
    Calls Tryz.prog 36 #[.pointer (some ⟨q, 0, none⟩), .int .u32 v] w fun e w' => e = .returned (.int .i64 (addT D ⟨0, v, 0, 0, 0⟩).1) ∧ ∃ c', RdC q (addT D ⟨0, v, 0, 0, 0⟩).2 c' ∧ Hp B w0 w' (mk c') := by
  obtain ⟨R, H1, back⟩ := H.pick (h := hb)
  exact (rconst_spec _ _ _ _ q D c hc v hlen H1).mono fun e w' ⟨h1, c', h2, h3⟩ => ⟨h1, c', h2, back _ _ h3⟩
theorem rvar_spec (B : Nat) (w0 w : World) (L : List Ck) (q : Nat) (D : List T) (c : Ck) (hc : RdC q D c) (n : Int) (hlen : D.length < 1073741824) (H : Hp B w0 w (c :: L)) : Calls Tryz.prog 50 #[.pointer (some ⟨q, 0, none⟩), .int .i64 n] w fun e w' => e = .returned (.tuple #[.int .i64 (WhD.var D n).1, .int .i64 (WhD.var D n).2.1]) ∧ ∃ c', RdC q (WhD.var D n).2.2 c' ∧ Hp B w0 w' (c' :: L) := by
  refine calls_go Tryz.func50 Tryz.ntmps50 rfl rfl ?_
  refine TW.seq ?_
  refine TW.region ?_
  refine LW.v (r_as) ?_
  refine LW.v (r_as) ?_
  refine LW.nil ?_
  refine TW.seq <| TW.seq ?_
  refine TW.region ?_
  refine LW.v (r_mv) ?_
  refine LW.v (r_bin) ?_
  refine LW.v (r_mv) ?_
  refine LW.gen fun b hb => ?_; cases b
  · have hr0 := hb.symm; have hc0 := hb.symm; try simp only [beq_iff_eq, bne_iff_ne, beq_eq_false_iff_ne, bne_eq_false_iff_eq, decide_eq_true_eq, decide_eq_false_iff_not, Bool.not_eq_true', Bool.not_eq_false', Bool.true_eq, Bool.false_eq, ge_iff_le, gt_iff_lt, Bool.not_eq_eq_eq_not, Bool.not_true, Bool.not_false, ne_eq] at hc0
    refine LW.yes (by rfl) (by rfl) (by rfl) (by rfl) (by rfl) ?_
    refine LW.v (r_mv) ?_
    refine LW.yes (by rfl) (by rfl) (by rfl) (by rfl) (by rfl) ?_
    refine LW.v (r_bin) ?_
    refine LW.v (r_pick) ?_
    refine LW.nil ?_
    refine TW.c rfl (fun hb => ?_) (fun hb => ?_)
    · have hr1 := hb; have hc1 := hb; try simp only [beq_iff_eq, bne_iff_ne, beq_eq_false_iff_ne, bne_eq_false_iff_eq, decide_eq_true_eq, decide_eq_false_iff_not, Bool.not_eq_true', Bool.not_eq_false', Bool.true_eq, Bool.false_eq, ge_iff_le, gt_iff_lt, Bool.not_eq_eq_eq_not, Bool.not_true, Bool.not_false, ne_eq] at hc1
      refine TW.seq ?_
      refine TW.region ?_
      refine LW.v (r_as) ?_
      refine LW.v (r_as) ?_
      refine LW.nil ?_
      refine TW.ret (ret2 (by rfl) rT rT ?_)
      first
      | exact ⟨by rw [WhD.var, if_pos (by omega)], c, by rw [WhD.var, if_pos (by omega)]; exact hc, H⟩
      | exact ⟨by rw [WhD.var, if_neg (by omega), if_pos (by omega)], c', by rw [WhD.var, if_neg (by omega), if_pos (by omega)]; exact hc', H⟩
      | exact ⟨by rw [WhD.var, if_neg (by omega), if_neg (by omega)], c', by rw [WhD.var, if_neg (by omega), if_neg (by omega)]; exact hc', H⟩
    · have hr1 := hb; have hc1 := hb; try simp only [beq_iff_eq, bne_iff_ne, beq_eq_false_iff_ne, bne_eq_false_iff_eq, decide_eq_true_eq, decide_eq_false_iff_not, Bool.not_eq_true', Bool.not_eq_false', Bool.true_eq, Bool.false_eq, ge_iff_le, gt_iff_lt, Bool.not_eq_eq_eq_not, Bool.not_true, Bool.not_false, ne_eq] at hc1
      refine TW.skip <| TW.seq <| TW.seq ?_
      refine TW.region ?_
      refine LW.v (r_mv) ?_
      refine LW.v (r_bin) ?_
      refine LW.nil ?_
      refine TW.c rfl (fun hb => ?_) (fun hb => ?_)
      · have hr2 := hb; have hc2 := hb; try simp only [beq_iff_eq, bne_iff_ne, beq_eq_false_iff_ne, bne_eq_false_iff_eq, decide_eq_true_eq, decide_eq_false_iff_not, Bool.not_eq_true', Bool.not_eq_false', Bool.true_eq, Bool.false_eq, ge_iff_le, gt_iff_lt, Bool.not_eq_eq_eq_not, Bool.not_true, Bool.not_false, ne_eq] at hc2
        refine TW.seq ?_
        refine TW.region ?_
        refine LW.v (r_mv) ?_
        refine LW.c r_c2 ((rconst_at q D 0 hc hlen H).mono ?_)
        rintro _ w ⟨rfl, c', hc', H⟩
        refine ⟨_, rfl, ?_⟩
        refine LW.v (r_as) ?_
        refine LW.v (r_as) ?_
        refine LW.nil ?_
        refine TW.ret (ret2 (by rfl) rT rT ?_)
        first
        | exact ⟨by rw [WhD.var, if_pos (by omega)], c, by rw [WhD.var, if_pos (by omega)]; exact hc, H⟩
        | exact ⟨by rw [WhD.var, if_neg (by omega), if_pos (by omega)], c', by rw [WhD.var, if_neg (by omega), if_pos (by omega)]; exact hc', H⟩
        | exact ⟨by rw [WhD.var, if_neg (by omega), if_neg (by omega)], c', by rw [WhD.var, if_neg (by omega), if_neg (by omega)]; exact hc', H⟩
      · have hr2 := hb; have hc2 := hb; try simp only [beq_iff_eq, bne_iff_ne, beq_eq_false_iff_ne, bne_eq_false_iff_eq, decide_eq_true_eq, decide_eq_false_iff_not, Bool.not_eq_true', Bool.not_eq_false', Bool.true_eq, Bool.false_eq, ge_iff_le, gt_iff_lt, Bool.not_eq_eq_eq_not, Bool.not_true, Bool.not_false, ne_eq] at hc2
        refine TW.skip <| TW.seq ?_
        refine TW.region ?_
        refine LW.v (r_mv) ?_
        refine LW.v (r_mv) ?_
        refine LW.v (r_cv) ?_
        refine LW.v (r_bd) ?_
        refine LW.c r_c2 ((radd_at q D ⟨1, WhI.u32 n, 0, 0, 0⟩ hc hlen H).mono ?_)
        rintro _ w ⟨rfl, c', hc', H⟩
        refine ⟨_, rfl, ?_⟩
        refine LW.v (r_as) ?_
        refine LW.v (r_as) ?_
        refine LW.nil ?_
        refine TW.ret (ret2 (by rfl) rT rT ?_)
        first
        | exact ⟨by rw [WhD.var, if_pos (by omega)], c, by rw [WhD.var, if_pos (by omega)]; exact hc, H⟩
        | exact ⟨by rw [WhD.var, if_neg (by omega), if_pos (by omega)], c', by rw [WhD.var, if_neg (by omega), if_pos (by omega)]; exact hc', H⟩
        | exact ⟨by rw [WhD.var, if_neg (by omega), if_neg (by omega)], c', by rw [WhD.var, if_neg (by omega), if_neg (by omega)]; exact hc', H⟩
  · have hr0 := hb.symm; have hc0 := hb.symm; try simp only [beq_iff_eq, bne_iff_ne, beq_eq_false_iff_ne, bne_eq_false_iff_eq, decide_eq_true_eq, decide_eq_false_iff_not, Bool.not_eq_true', Bool.not_eq_false', Bool.true_eq, Bool.false_eq, ge_iff_le, gt_iff_lt, Bool.not_eq_eq_eq_not, Bool.not_true, Bool.not_false, ne_eq] at hc0
    refine LW.no (by rfl) (by rfl) (by rfl) (by rfl) (by rfl) (by rfl) ?_
    refine LW.no (by rfl) (by rfl) (by rfl) (by rfl) (by rfl) (by rfl) ?_
    refine LW.v (r_pick) ?_
    refine LW.nil ?_
    refine TW.c rfl (fun _ => ?_) (fun h => by first | (cases h; done) | exact absurd h (by simp [hc0]))
    refine TW.seq ?_
    refine TW.region ?_
    refine LW.v (r_as) ?_
    refine LW.v (r_as) ?_
    refine LW.nil ?_
    refine TW.ret (ret2 (by rfl) rT rT ?_)
    first
    | exact ⟨by rw [WhD.var, if_pos (by omega)], c, by rw [WhD.var, if_pos (by omega)]; exact hc, H⟩
    | exact ⟨by rw [WhD.var, if_neg (by omega), if_pos (by omega)], c', by rw [WhD.var, if_neg (by omega), if_pos (by omega)]; exact hc', H⟩
    | exact ⟨by rw [WhD.var, if_neg (by omega), if_neg (by omega)], c', by rw [WhD.var, if_neg (by omega), if_neg (by omega)]; exact hc', H⟩
theorem rvar_at {B : Nat} {w0 w : World} {Ls : List Ck} {c : Ck} {mk : Ck → List Ck} (q : Nat) (D : List T) (n : Int) (hc : RdC q D c) (hlen : D.length < 1073741824) (H : Hp B w0 w Ls) (hb : HasC Ls c mk := by infer_instance) :
    Calls Tryz.prog 50 #[.pointer (some ⟨q, 0, none⟩), .int .i64 n] w fun e w' => e = .returned (.tuple #[.int .i64 (WhD.var D n).1, .int .i64 (WhD.var D n).2.1]) ∧ ∃ c', RdC q (WhD.var D n).2.2 c' ∧ Hp B w0 w' (mk c') := by
  obtain ⟨R, H1, back⟩ := H.pick (h := hb)
  exact (rvar_spec _ _ _ _ q D c hc n hlen H1).mono fun e w' ⟨h1, c', h2, h3⟩ => ⟨h1, c', h2, back _ _ h3⟩
end Wh
