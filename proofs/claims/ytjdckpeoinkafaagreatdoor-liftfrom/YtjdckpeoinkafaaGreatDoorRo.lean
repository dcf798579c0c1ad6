/- A part of the walk through the code: contracts of functions, printed by a program of the prover. -/
import Derived.Test.YtjdckpeoinkafaaGreatDoorFx
import Derived.Test.YtjdckpeoinkafaaGreatDoorMade
import Derived.Test.YtjdckpeoinkafaaGreatDoorFwC
import Derived.Test.YtjdckpeoinkafaaGreatDoorSp
import Derived.Laws.MakeOwn
set_option linter.all false
namespace Wh
open Go Go.Proofs WhS WhL
set_option maxRecDepth 100000
theorem wdo_mk {op : Int} (h : WhP.isOp op = true) : (WhI.wdo op 0 0).2 = 0 := isOp_wdo h
theorem simpop_spec {B : Nat} {w0 w : World} {Ls : List Ck} {p : Nat} {D : List T} {c : Ck} {mk' : Ck → List Ck} {M : Nat} {op a b : Int} (hB : 0 < B) (hG : RowAt w0 ⟨0, 0, none⟩ tabV) (hM : M ≤ 200) (hc : DagC p D c) (hD : Wf D) (hg : Rng D) (hch : ChAll D M) (ha : In D a) (hb : In D b) (ho : WhP.isOp op = true) (hlen : D.length + 500 < 1073741824) (H : Hp B w0 w Ls) (hbc : HasC Ls c mk' := by infer_instance) :
    Calls Tryz.prog 62 #[.pointer (some ⟨p, 0, none⟩), .int .i64 op, .int .i64 a, .int .i64 b] w fun e w' => e = .returned (.tuple #[.int .i64 (mk D op a b).1, .int .i64 0]) ∧ ∃ c', DagC p (mk D op a b).2 c' ∧ Hp B w0 w' (mk' c') := by
  obtain ⟨R, H, back⟩ := H.pick (h := hbc)
  have ea : (WhD.node D a).2 = 0 := by simp [WhD.node, ha.is]
  have eb : (WhD.node D b).2 = 0 := by simp [WhD.node, hb.is]
  have hk := (mk_good hM hD hg hch ha hb ho).1
  refine calls_go Tryz.func62 Tryz.ntmps62 rfl rfl ?_
  refine TW.seq ?_
  refine TW.region ?_
  refine LW.v (r_as) ?_
  refine LW.v (r_as) ?_
  refine LW.nil ?_
  refine TW.seq <| TW.seq ?_
  refine TW.region ?_
  refine LW.v (r_mv) ?_
  refine LW.v (r_mv) ?_
  refine LW.c r_c2 ((node_at p D a hc H).mono ?_)
  rintro _ w ⟨rfl, H⟩
  refine ⟨_, rfl, ?_⟩
  refine LW.v (r_mv) ?_
  refine LW.v (r_ext) ?_
  refine LW.v (r_ext) ?_
  refine LW.new (r_al H) ?_; intro g10 w H
  refine LW.sto (r_stW H) ?_; intro w H
  refine LW.v (r_as) ?_
  refine LW.nil ?_
  refine TW.seq ?_
  refine TW.region ?_
  refine LW.v (r_mv) ?_
  refine LW.v (r_bin) ?_
  refine LW.nil ?_
  refine TW.c rfl (fun hb => ?_) (fun hb => ?_)
  · simp [ea] at hb
  · refine TW.skip <| TW.seq <| TW.seq ?_
    refine TW.region ?_
    refine LW.v (r_mv) ?_
    refine LW.v (r_mv) ?_
    refine LW.c r_c2 ((node_at p D b hc H).mono ?_)
    rintro _ w ⟨rfl, H⟩
    refine ⟨_, rfl, ?_⟩
    refine LW.v (r_mv) ?_
    refine LW.v (r_ext) ?_
    refine LW.v (r_ext) ?_
    refine LW.new (r_al H) ?_; intro g12 w H
    refine LW.sto (r_stW H) ?_; intro w H
    refine LW.v (r_as) ?_
    refine LW.nil ?_
    refine TW.seq ?_
    refine TW.region ?_
    refine LW.v (r_mv) ?_
    refine LW.v (r_bin) ?_
    refine LW.nil ?_
    refine TW.c rfl (fun hb => ?_) (fun hb => ?_)
    · simp [eb] at hb
    · refine TW.skip <| TW.seq <| TW.seq ?_
      refine TW.region ?_
      refine LW.v (r_mv) ?_
      refine LW.c r_c3 ((wdo_spec _ _ _ _ op 0 0 (by decide) (by decide) H).mono ?_)
      rintro _ w ⟨rfl, H⟩
      refine ⟨_, rfl, ?_⟩
      refine LW.v (r_mv) ?_
      refine LW.v (r_ext) ?_
      refine LW.v (r_ext) ?_
      refine LW.v (r_as) ?_
      refine LW.v (r_as) ?_
      refine LW.nil ?_
      refine TW.seq ?_
      refine TW.region ?_
      refine LW.v (r_mv) ?_
      refine LW.v (r_bin) ?_
      refine LW.nil ?_
      refine TW.c rfl (fun hb => ?_) (fun hb => ?_)
      · simp [isOp_wdo ho] at hb
      · refine TW.skip <| TW.seq ?_
        refine TW.region ?_
        refine LW.v (r_mv) ?_
        refine LW.v (r_mv) ?_
        refine LW.v (r_mv) ?_
        refine LW.v (r_mv) ?_
        refine LW.c r_c4 (((made_ok hB hG 405).at hc hg (by omega) hk H).mono ?_)
        rintro _ w ⟨rfl, c', hc', hg', H⟩
        refine ⟨_, rfl, ?_⟩
        refine LW.v (r_as) ?_
        refine LW.v (r_as) ?_
        refine LW.nil ?_
        refine TW.ret (ret2 (by rfl) rT rT ?_)
        exact ⟨rfl, c', hc', back _ _ (H.drop.drop)⟩
theorem one_spec {B : Nat} {w0 w : World} {L : List Ck} {p : Nat} {D : List T} {c : Ck} {M : Nat} {xs : List Int} {i : X} {pc : Int} (hB : 0 < B) (hG : RowAt w0 ⟨0, 0, none⟩ tabV) (hM : M ≤ 200) (hc : DagC p D c) (hk : Ok D M xs) (hi : WhI.lplain i = true) (hlen : D.length + 501 < 1073741824) (H : Hp B w0 w (c :: L)) :
    Calls Tryz.prog 35 #[.pointer (some ⟨p, 0, none⟩), .agg (vI xs), i.val, .int .u32 pc] w fun e w' => e = .returned (.int .i64 (oneF D xs i pc).1) ∧ ∃ c', DagC p (oneF D xs i pc).2 c' ∧ Hp B w0 w' (c' :: L) := by
  obtain ⟨hrd, hr1, hr2⟩ := lplain_regs hi
  have hx1 := hk.reg hr1.1 hr1.2
  have hx2 := hk.reg hr2.1 hr2.2
  have hl2 := addT_len D (K (IntKind.u32.wrap i.imm))
  refine calls_go Tryz.func35 Tryz.ntmps35 rfl rfl ?_
  refine TW.seq ?_
  refine TW.region ?_
  refine LW.new (r_box H) ?_; intro g5 w H
  refine LW.new (r_box H) ?_; intro g6 w H
  refine LW.v (r_as) ?_
  refine LW.nil ?_
  refine TW.seq ?_
  refine TW.region ?_
  have H : Hp B w0 w (Blk g6 31 (iv xks i.nums).toArray :: Blk g5 32 (vI xs) :: c :: L) := H
  refine LW.v (r_fa) ?_
  refine LW.v (r_ld H) ?_
  refine LW.v (r_cv) ?_
  refine LW.v (r_shl (hb := by first | omega | exact WhI.bits_nn _ _ _ | exact WhI.u32_nn _)) ?_
  refine LW.v (r_as) ?_
  refine LW.nil ?_
  refine TW.seq <| TW.seq ?_
  refine TW.region ?_
  refine LW.v (r_fa) ?_
  refine LW.v (r_ld H) ?_
  refine LW.nil ?_
  refine TW.block <| TW.seq ?_
  refine TW.region ?_
  refine LW.v (r_bin) ?_
  refine LW.v (r_as) ?_
  refine LW.nil ?_
  refine TW.c rfl (fun hb => ?_) (fun hb => ?_)
  · have h0 : i.op = 0 := by simpa using hb
    refine TW.seq ?_
    refine TW.region ?_
    refine LW.v (r_mv) ?_
    refine LW.v (r_mv) ?_
    refine LW.c r_c2 ((const_at p D (up i) hc (by omega) H).mono ?_)
    rintro _ w ⟨rfl, c', hc', H⟩
    refine ⟨_, rfl, ?_⟩
    refine LW.v (r_as) ?_
    refine LW.nil ?_
    refine TW.ret (ret1 (by rfl) rT ?_)
    exact ⟨by simp only [oneF, if_pos h0]; rfl, c', by simp only [oneF, if_pos h0]; exact hc', H.drop.drop⟩
  · have h0 : ¬ i.op = 0 := by simpa using hb
    refine TW.seq ?_
    refine TW.region ?_
    refine LW.v (r_bin) ?_
    refine LW.v (r_as) ?_
    refine LW.nil ?_
    refine TW.c rfl (fun hb => ?_) (fun hb => ?_)
    · have h1 : i.op = 1 := by simpa using hb
      refine TW.seq ?_
      refine TW.region ?_
      refine LW.v (r_mv) ?_
      refine LW.v (r_mv) ?_
      refine LW.v (r_mv) ?_
      refine LW.v (r_bin) ?_
      refine LW.c r_c2 ((const_at p D (IntKind.u32.wrap (up i + pc)) hc (by omega) H).mono ?_)
      rintro _ w ⟨rfl, c', hc', H⟩
      refine ⟨_, rfl, ?_⟩
      refine LW.v (r_as) ?_
      refine LW.nil ?_
      refine TW.ret (ret1 (by rfl) rT ?_)
      exact ⟨by simp only [oneF, if_neg h0, if_pos h1]; rfl, c', by simp only [oneF, if_neg h0, if_pos h1]; exact hc', H.drop.drop⟩
    · have h1 : ¬ i.op = 1 := by simpa using hb
      refine TW.skip <| TW.inBlock <| TW.seq ?_
      refine TW.draw [(0, some 0), (1, some 0), (2, some 0), (3, some 0), (4, some 0), (5, some 0), (6, some 0), (7, some 0)] [] hmix (by kernel_rfl) (fun _ _ _ _ _ h => h) H (fun m w => (m = 0 → Hp _ _ w _)) (fun _ h _ => h) ?_
      intro w H
      refine DW.v (by rfl) (Quiet.y (fun _ _ => r_fa)) ?_
      refine DW.hm (by rfl) (Quiet.y (fun _ h => r_ld (h rfl))) ?_
      refine DW.v (by rfl) (Quiet.y (fun _ _ => r_fa)) ?_
      refine DW.hm (by rfl) (Quiet.y (fun _ h => r_ld (h rfl))) ?_
      refine DW.v (by rfl) (Quiet.y (fun _ _ => r_iaA (h0 := hr2.1) (h1 := by have := hr2.2; omega))) ?_
      refine DW.hm (by rfl) (Quiet.y (fun _ h => r_ldc (cellI (g := g5) (h rfl) hx2.1))) ?_
      refine DW.v (by rfl) (Quiet.y (fun _ _ => r_as)) ?_
      refine DW.v (by rfl) (Quiet.y (fun _ _ => r_as)) ?_
      refine DW.nil (fun _ => ?_)
      refine TW.seq <| TW.seq ?_
      refine TW.region ?_
      refine LW.v (r_fa) ?_
      refine LW.v (r_ld H) ?_
      refine LW.c r_c1 ((iplain_spec _ _ _ _ i.op H).mono ?_)
      rintro _ w ⟨rfl, H⟩
      refine ⟨_, rfl, ?_⟩
      refine LW.v (r_mv) ?_
      refine LW.v (r_ext) ?_
      refine LW.v (r_ext) ?_
      refine LW.v (r_as) ?_
      refine LW.v (r_as) ?_
      refine LW.nil ?_
      refine TW.seq ?_
      refine TW.region ?_
      refine LW.v (r_mv) ?_
      refine LW.nil ?_
      refine TW.c rfl (fun hb => ?_) (fun hb => ?_)
      · refine TW.region ?_
        refine LW.v (r_mv) ?_
        refine LW.v (r_mv) ?_
        refine LW.v (r_fa) ?_
        refine LW.v (r_ld H) ?_
        refine LW.v (r_cv) ?_
        refine LW.c r_c2 ((const_at p D (IntKind.u32.wrap i.imm) hc (by omega) H).mono ?_)
        rintro _ w ⟨rfl, c1, hc1, H⟩
        refine ⟨_, rfl, ?_⟩
        have hk1 := hk.addK (w := IntKind.u32.wrap i.imm) (u32_rng _)
        have hp : (WhI.plain i.op).2 = true := hb
        refine LW.v (r_as) ?_
        refine LW.v (r_as) ?_
        refine LW.nil ?_
        refine TW.seq ?_
        refine TW.region ?_
        refine LW.v (r_mv) ?_
        refine LW.v (r_mv) ?_
        refine LW.v (r_fa) ?_
        refine LW.v (r_ld H) ?_
        refine LW.v (r_iaA (h0 := hr1.1) (h1 := by have := hr1.2; omega)) ?_
        refine LW.v (r_ldc (cellI (g := g5) H hx1.1)) ?_
        refine LW.v (r_mv) ?_
        refine LW.c r_c4 ((simpop_spec hB hG hM hc1 hk1.wf hk1.rng hk1.ch (hk1.reg hr1.1 hr1.2).2 (addT_in D _).1 (plain_isOp hp) (by unfold K at hl2; omega) H).mono ?_)
        rintro _ w ⟨rfl, c', hc', H⟩
        refine ⟨_, rfl, ?_⟩
        refine LW.v (r_mv) ?_
        refine LW.v (r_ext) ?_
        refine LW.v (r_ext) ?_
        refine LW.v (r_as) ?_
        refine LW.v (r_as) ?_
        refine LW.nil ?_
        refine TW.seq ?_
        refine TW.region ?_
        refine LW.v (r_mv) ?_
        refine LW.v (r_as) ?_
        refine LW.nil ?_
        refine TW.ret (ret1 (by rfl) rT ?_)
        exact ⟨by simp only [oneF, if_neg h0, if_neg h1, if_pos hp]; rfl, c', by simp only [oneF, if_neg h0, if_neg h1, if_pos hp]; exact hc', H.drop.drop⟩
      · have hp : (WhI.plain i.op).2 = false := hb
        have hp' : ¬ (WhI.plain i.op).2 = true := by rw [hp]; exact Bool.noConfusion
        refine TW.skip <| TW.seq ?_
        refine TW.region ?_
        refine LW.v (r_mv) ?_
        refine LW.v (r_mv) ?_
        refine LW.v (r_fa) ?_
        refine LW.v (r_ld H) ?_
        refine LW.v (r_iaA (h0 := hr1.1) (h1 := by have := hr1.2; omega)) ?_
        refine LW.v (r_ldc (cellI (g := g5) H hx1.1)) ?_
        refine LW.v (r_mv) ?_
        refine LW.c r_c4 ((simpop_spec hB hG hM hc hk.wf hk.rng hk.ch hx1.2 hx2.2 (lplain_op hi h0 h1 hp) (by omega) H).mono ?_)
        rintro _ w ⟨rfl, c', hc', H⟩
        refine ⟨_, rfl, ?_⟩
        refine LW.v (r_mv) ?_
        refine LW.v (r_ext) ?_
        refine LW.v (r_ext) ?_
        refine LW.v (r_as) ?_
        refine LW.v (r_as) ?_
        refine LW.nil ?_
        refine TW.seq ?_
        refine TW.region ?_
        refine LW.v (r_mv) ?_
        refine LW.v (r_as) ?_
        refine LW.nil ?_
        refine TW.ret (ret1 (by rfl) rT ?_)
        exact ⟨by first | (simp only [oneF, if_neg h0, if_neg h1, if_neg hp']; done) | (simp only [oneF, if_neg h0, if_neg h1, if_neg hp']; rfl), c', by simp only [oneF, if_neg h0, if_neg h1, if_neg hp']; exact hc', H.drop.drop⟩
theorem start_spec {B : Nat} {w0 w : World} {L : List Ck} {p : Nat} {D : List T} {c : Ck} (hc : DagC p D c) (hlen : D.length + 40 < 1073741824) (H : Hp B w0 w (c :: L)) :
    Calls Tryz.prog 30 #[.pointer (some ⟨p, 0, none⟩)] w fun e w' => e = .returned (.agg (vI (startN D 32).1)) ∧ ∃ c', DagC p (startN D 32).2 c' ∧ Hp B w0 w' (c' :: L) := by
  refine calls_go Tryz.func30 Tryz.ntmps30 rfl rfl ?_
  refine TW.seq ?_
  refine TW.region ?_
  refine LW.new (r_al H) ?_; intro g2 w H
  refine LW.nil ?_
  refine TW.seq ?_
  refine TW.region ?_
  refine LW.new (r_al H) ?_; intro g3 w H
  refine LW.nil ?_
  refine TW.seq <| TW.seq ?_
  refine TW.region ?_
  refine LW.v (r_mv) ?_
  refine LW.nil ?_
  refine TW.block ?_
  have H : Hp B w0 w (Blk g3 32 (vI (startX D 0)) :: Blk g2 32 (vI (List.replicate 32 0)) :: c :: L) := H
  refine TW.lp (σ := Nat) (fun i w' => i ≤ 32 ∧ ∃ c', DagC p (startN D i).2 c' ∧ Hp B w0 w' (Blk g3 32 (vI (startX D i)) :: Blk g2 32 (vI (List.replicate 32 0)) :: c' :: L)) (fun i => [(0, .pointer (some ⟨p, 0, none⟩)), (2, .pointer (some ⟨g2, 0, none⟩)), (3, .pointer (some ⟨g3, 0, none⟩)), (5, .int .i64 (i : Int))]) (fun i => 32 - i) (0) (⟨by omega, c, hc, H⟩) (⟨rfl, rfl, rfl, rfl, trivial⟩) ?_
  rintro i f w ⟨hi, c, hc, H⟩ again
  refine TW.seq ?_
  refine TW.region ?_
  refine LW.v (r_bin) ?_
  refine LW.nil ?_
  refine TW.seq ?_
  refine TW.c rfl (fun hb => ?_) (fun hb => ?_)
  · have hi3 : (i : Int) < 32 := by simpa using hb
    have hi2 : i < 32 := by omega
    have hdl := startN_dlen D i
    refine TW.skip <| TW.seq <| TW.block <| TW.seq ?_
    refine TW.region ?_
    refine LW.v (r_mv) ?_
    refine LW.v (r_as) ?_
    refine LW.nil ?_
    refine TW.region ?_
    refine LW.v (r_mv) ?_
    refine LW.v (r_mv) ?_
    refine LW.v (r_mv) ?_
    refine LW.c r_c2 ((var_at p (startN D i).2 i hc (by omega) H).mono ?_)
    rintro _ w ⟨rfl, c', hc', H⟩
    refine ⟨_, rfl, ?_⟩
    refine LW.v (r_mv) ?_
    refine LW.v (r_ext) ?_
    refine LW.v (r_ext) ?_
    refine LW.v (r_iaA (h0 := by omega) (h1 := by omega)) ?_
    refine LW.sto (r_stI (k := i) H (by rw [startX_len D hi]; omega)) ?_; intro w H
    refine LW.nil ?_
    rw [startX_set D hi2] at H
    refine TW.inBlock ?_
    refine TW.region ?_
    first | refine LW.v (r_add (hk := w64 (by omega) (by omega))) ?_ | refine LW.v (r_bin) ?_
    refine LW.v (r_mv) ?_
    refine LW.nil ?_
    exact again (i + 1) _ _ ⟨by omega, c', hc', H⟩ ⟨rfl, rfl, rfl, rfl, trivial⟩ (by omega)
  · have hi3 : ¬ (i : Int) < 32 := by simpa using hb
    obtain rfl : i = 32 := by omega
    rw [startX_end] at H
    refine TW.exit rfl <| TW.seq ?_
    refine TW.region ?_
    refine LW.v (r_ldW H (hp := by rw [vI_size, startN_len])) ?_
    refine LW.sto (r_stW H (vs := vI (startN D 32).1) (h1 := vI_one _) (hs := by rw [vI_size, startN_len])) ?_; intro w H
    refine LW.nil ?_
    refine TW.ret (ret1 (by rfl) (rC H (hp := by rw [vI_size, startN_len])) ?_)
    exact ⟨rfl, c, hc, H.drop.drop⟩
theorem oddv_spec (B : Nat) (w0 w : World) (L : List Ck) (x : X) (H : Hp B w0 w L) : Calls Tryz.prog 29 #[x.val] w fun e w' => e = .returned (.bool (!WhI.lplain x)) ∧ Hp B w0 w' L := odd_spec B w0 w L x H
def RowL (B : Nat) (w0 : World) (L : List Ck) (a : Option Addr) (l : List X) : Prop := l = [] ∨ ∃ a', a = some a' ∧ ∀ w', Hp B w0 w' L → RowAt w' a' (rowOf X.val l)
theorem index_spec {B : Nat} {w0 w : World} {L : List Ck} {a : Option Addr} {cap : Nat} {l : List X} (hr : RowL B w0 L a l) (hl : l.length < 1073741824) (H : Hp B w0 w L) :
    Calls Tryz.prog 61 #[.slice a l.length cap, .func (.func 29) #[] #[]] w fun e w' => ∃ r : Int, e = .returned (.int .i64 r) ∧ decide (r ≥ 0) = !l.all WhI.lplain ∧ Hp B w0 w' L := by
  refine calls_go Tryz.func61 Tryz.ntmps61 rfl rfl ?_
  refine TW.seq ?_
  refine TW.region ?_
  refine LW.v (r_as) ?_
  refine LW.nil ?_
  refine TW.seq <| TW.seq ?_
  refine TW.region ?_
  refine LW.v (r_mv) ?_
  refine LW.v (r_len) ?_
  refine LW.v (r_mv) ?_
  refine LW.nil ?_
  refine TW.block ?_
  refine TW.lp (σ := Nat) (fun i w' => i ≤ l.length ∧ (∀ x ∈ l.take i, WhI.lplain x = true) ∧ Hp B w0 w' L) (fun i => [(0, .slice a l.length cap), (1, .func (.func 29) #[] #[]), (7, .int .i64 l.length), (8, .int .i64 (i : Int))]) (fun i => l.length - i) (0) (⟨by omega, by simp, H⟩) (⟨rfl, rfl, rfl, rfl, trivial⟩) ?_
  rintro i f w ⟨hi, hall, H⟩ again
  refine TW.seq ?_
  refine TW.region ?_
  refine LW.v (r_bin) ?_
  refine LW.nil ?_
  refine TW.seq ?_
  refine TW.c rfl (fun hb => ?_) (fun hb => ?_)
  · have hi2 : i < l.length := by simpa using hb
    have hg : l[i]? = some l[i] := List.getElem?_eq_getElem hi2
    obtain ⟨a', rfl, hrow⟩ := hr.resolve_left (fun e => by subst e; simp at hi2)
    refine TW.skip <| TW.seq <| TW.block <| TW.seq ?_
    refine TW.region ?_
    refine LW.v (r_mv) ?_
    refine LW.v (r_as) ?_
    refine LW.nil ?_
    refine TW.seq ?_
    refine TW.region ?_
    refine LW.v (r_mv) ?_
    refine LW.v (r_mv) ?_
    refine LW.v (r_mv) ?_
    refine LW.v (r_iaS (h0 := by omega) (h1 := by omega)) ?_
    refine LW.v (r_ldR (i := i) (hrow _ H) hg (fun _ => rfl) (size := 5)) ?_
    refine LW.c r_k1 ((oddv_spec _ _ _ _ l[i] H).mono ?_)
    rintro _ w ⟨rfl, H⟩
    refine ⟨_, rfl, ?_⟩
    refine LW.nil ?_
    refine TW.c rfl (fun hb => ?_) (fun hb => ?_)
    · refine TW.seq ?_
      refine TW.region ?_
      refine LW.v (r_mv) ?_
      refine LW.v (r_as) ?_
      refine LW.nil ?_
      refine TW.ret (ret1 (by rfl) rT ?_)
      have he : WhI.lplain l[i] = false := by simpa using hb
      refine ⟨(i : Int), rfl, ?_, H⟩
      have h1 : l.all WhI.lplain = false := by
        rw [List.all_eq_false]
        exact ⟨l[i], List.getElem_mem hi2, by rw [he]; simp⟩
      rw [h1]
      simp
    · refine TW.skip <| TW.inBlock ?_
      refine TW.region ?_
      first | refine LW.v (r_add (hk := w64 (by omega) (by omega))) ?_ | refine LW.v (r_bin) ?_
      refine LW.v (r_mv) ?_
      refine LW.nil ?_
      have he : WhI.lplain l[i] = true := by simpa using hb
      refine again (i + 1) _ _ ⟨by omega, ?_, H⟩ ⟨rfl, rfl, rfl, rfl, trivial⟩ (by omega)
      intro x hx
      rw [List.take_add_one, hg] at hx
      simp only [Option.toList_some, List.mem_append, List.mem_singleton] at hx
      rcases hx with hx | rfl
      · exact hall x hx
      · exact he
  · refine TW.exit rfl <| TW.seq ?_
    refine TW.region ?_
    refine LW.v (r_as) ?_
    refine LW.nil ?_
    refine TW.ret (ret1 (by rfl) rT ?_)
    have hi2 : ¬ i < l.length := by simpa using hb
    have e : l.take i = l := List.take_of_length_le (by omega)
    rw [e] at hall
    refine ⟨-1, rfl, ?_, H⟩
    have h1 : l.all WhI.lplain = true := by rw [List.all_eq_true]; exact hall
    rw [h1]
    rfl
theorem contains_spec {B : Nat} {w0 w : World} {L : List Ck} {a : Option Addr} {cap : Nat} {l : List X} (hr : RowL B w0 L a l) (hl : l.length < 1073741824) (H : Hp B w0 w L) :
    Calls Tryz.prog 28 #[.slice a l.length cap, .func (.func 29) #[] #[]] w fun e w' => e = .returned (.bool (!l.all WhI.lplain)) ∧ Hp B w0 w' L := by
  refine calls_go Tryz.func28 Tryz.ntmps28 rfl rfl ?_
  refine TW.seq ?_
  refine TW.region ?_
  refine LW.v (r_as) ?_
  refine LW.nil ?_
  refine TW.seq ?_
  refine TW.region ?_
  refine LW.v (r_mv) ?_
  refine LW.v (r_mv) ?_
  refine LW.c r_c2 ((index_spec hr hl H).mono ?_)
  rintro _ w ⟨r, rfl, hd, H⟩
  refine ⟨_, rfl, ?_⟩
  refine LW.v (r_bin) ?_
  refine LW.v (r_as) ?_
  refine LW.nil ?_
  refine TW.ret (ret1 (by rfl) rT ?_)
  exact ⟨by rw [← hd], H⟩
theorem RowL.cons {B : Nat} {w0 : World} {L : List Ck} {a : Option Addr} {l : List X} (h : RowL B w0 L a l) (c : Ck) : RowL B w0 (c :: L) a l := by
  rcases h with h | ⟨a', h1, h2⟩
  · exact .inl h
  · exact .inr ⟨a', h1, fun w' H' => h2 w' H'.drop⟩
theorem one_at {B : Nat} {w0 w : World} {Ls : List Ck} {p : Nat} {D : List T} {c : Ck} {mk' : Ck → List Ck} {M : Nat} {xs : List Int} {i : X} {pc : Int} (hB : 0 < B) (hG : RowAt w0 ⟨0, 0, none⟩ tabV) (hM : M ≤ 200) (hc : DagC p D c) (hk : Ok D M xs) (hi : WhI.lplain i = true) (hlen : D.length + 501 < 1073741824) (H : Hp B w0 w Ls) (hb : HasC Ls c mk' := by infer_instance) :
    Calls Tryz.prog 35 #[.pointer (some ⟨p, 0, none⟩), .agg (vI xs), i.val, .int .u32 pc] w fun e w' => e = .returned (.int .i64 (oneF D xs i pc).1) ∧ ∃ c', DagC p (oneF D xs i pc).2 c' ∧ Hp B w0 w' (mk' c') := by
  obtain ⟨R, H1, back⟩ := H.pick (h := hb)
  exact (one_spec hB hG hM hc hk hi hlen H1).mono fun e w' ⟨h1, c', h2, h3⟩ => ⟨h1, c', h2, back _ _ h3⟩
theorem from_spec {B : Nat} {w0 w : World} {L : List Ck} {p : Nat} {D : List T} {c : Ck} {M : Nat} {xs : List Int} {l : List X} {pc : Int} {a : Option Addr} {cap : Nat} (hB : 0 < B) (hG : RowAt w0 ⟨0, 0, none⟩ tabV) (hM : M + l.length ≤ 200) (hc : DagC p D c) (hD : Wf D) (hg : Rng D) (hch : ChAll D M) (hx : xs.length = 32) (hlen : D.length < 1000000) (hr : RowL B w0 L a l) (H : Hp B w0 w (c :: L)) :
    Calls Tryz.prog 13 #[.pointer (some ⟨p, 0, none⟩), .agg (vI xs), .slice a l.length cap, .int .u32 pc] w fun e w' => e = .returned (.tuple #[.agg (vI (fromF D xs l pc).1), .int .i64 (fromF D xs l pc).2.1]) ∧ ∃ c', DagC p (fromF D xs l pc).2.2 c' ∧ Hp B w0 w' (c' :: L) := by
  refine calls_go Tryz.func13 Tryz.ntmps13 rfl rfl ?_
  refine TW.seq ?_
  refine TW.region ?_
  refine LW.new (r_box H) ?_; intro g5 w H
  refine LW.new (r_al H) ?_; intro g8 w H
  refine LW.v (r_as) ?_
  refine LW.nil ?_
  refine TW.seq <| TW.seq ?_
  refine TW.region ?_
  have H : Hp B w0 w (Blk g8 32 (vI (List.replicate 32 0)) :: Blk g5 32 (vI xs) :: c :: L) := H
  refine LW.v (r_ldW H (hp := by rw [vI_size, hx])) ?_
  refine LW.v (r_mv) ?_
  refine LW.nil ?_
  refine TW.block ?_
  refine TW.lp (σ := Nat) (fun i w' => i ≤ 32 ∧ (∀ n ∈ xs.take i, In D n) ∧ Hp B w0 w' (Blk g8 32 (vI (List.replicate 32 0)) :: Blk g5 32 (vI xs) :: c :: L)) (fun i => [(0, .pointer (some ⟨p, 0, none⟩)), (2, .slice a l.length cap), (3, .int .u32 pc), (5, .pointer (some ⟨g5, 0, none⟩)), (8, .pointer (some ⟨g8, 0, none⟩)), (17, .agg (vI xs)), (18, .int .i64 (i : Int))]) (fun i => 32 - i) (0) (⟨by omega, by simp, H⟩) (⟨rfl, rfl, rfl, rfl, rfl, rfl, rfl, trivial⟩) ?_
  rintro i f w ⟨hi, hin, H⟩ again
  refine TW.seq ?_
  refine TW.region ?_
  refine LW.v (r_bin) ?_
  refine LW.nil ?_
  refine TW.seq ?_
  refine TW.c rfl (fun hb => ?_) (fun hb => ?_)
  · have hi3 : (i : Int) < 32 := by simpa using hb
    have hi2 : i < 32 := by omega
    have hgx : xs[i]? = some xs[i] := List.getElem?_eq_getElem (by omega)
    refine TW.skip <| TW.seq <| TW.block <| TW.seq ?_
    refine TW.region ?_
    refine LW.v (r_ix (h0 := by omega) (h1 := by omega) (hv := by rw [Nat.mul_one]; exact vI_at hgx)) ?_
    refine LW.v (r_as) ?_
    refine LW.nil ?_
    refine TW.seq ?_
    refine TW.region ?_
    refine LW.v (r_mv) ?_
    refine LW.v (r_mv) ?_
    refine LW.c r_c2 ((node_at p D xs[i] hc H).mono ?_)
    rintro _ w ⟨rfl, H⟩
    refine ⟨_, rfl, ?_⟩
    refine LW.v (r_mv) ?_
    refine LW.v (r_ext) ?_
    refine LW.v (r_ext) ?_
    refine LW.new (r_al H) ?_; intro g12 w H
    refine LW.sto (r_stW H) ?_; intro w H
    refine LW.v (r_as) ?_
    refine LW.nil ?_
    refine TW.seq ?_
    refine TW.region ?_
    refine LW.v (r_mv) ?_
    refine LW.v (r_bin) ?_
    refine LW.nil ?_
    refine TW.c rfl (fun hb => ?_) (fun hb => ?_)
    · have hne : ¬ (WhD.node D xs[i]).2 = 0 := by simpa using hb
      have hni : WhD.is D xs[i] = false := by
        cases h : WhD.is D xs[i] with
        | false => rfl
        | true => exact absurd (by simp [WhD.node, h]) hne
      have hall : xs.all (WhD.is D) = false := by
        rw [List.all_eq_false]
        exact ⟨xs[i], List.getElem_mem (by omega), by rw [hni]; simp⟩
      have e100 : (WhD.node D xs[i]).2 = 100 := by simp [WhD.node, hni]
      refine TW.seq ?_
      refine TW.region ?_
      refine LW.v (r_b0) ?_
      refine LW.v (r_mv) ?_
      refine LW.sto (r_stW H (vs := vI (List.replicate 32 0)) (hy := rfl) (h1 := vI_one _)) ?_; intro w H
      refine LW.v (r_as) ?_
      refine LW.nil ?_
      refine TW.ret (ret2 (by rfl) (rC H) rT ?_)
      exact ⟨by simp only [fromF, hall, Bool.not_false, if_true]; rw [e100], c, by simp only [fromF, hall, Bool.not_false, if_true]; exact hc, H.drop.drop.drop⟩
    · have hne : (WhD.node D xs[i]).2 = 0 := by simpa using hb
      have hni : WhD.is D xs[i] = true := by
        cases h : WhD.is D xs[i] with
        | true => rfl
        | false => simp [WhD.node, h] at hne
      have hi5 : In D xs[i] := by unfold In; simpa [WhD.is] using hni
      refine TW.skip <| TW.inBlock ?_
      refine TW.region ?_
      first | refine LW.v (r_add (hk := w64 (by omega) (by omega))) ?_ | refine LW.v (r_bin) ?_
      refine LW.v (r_mv) ?_
      refine LW.nil ?_
      refine again (i + 1) _ _ ⟨by omega, ?_, H.drop⟩ ⟨rfl, rfl, rfl, rfl, rfl, rfl, rfl, trivial⟩ (by omega)
      intro n hn
      rw [List.take_add_one, hgx] at hn
      simp only [Option.toList_some, List.mem_append, List.mem_singleton] at hn
      rcases hn with hn | rfl
      · exact hin n hn
      · exact hi5
  · have hi3 : ¬ (i : Int) < 32 := by simpa using hb
    have e : xs.take i = xs := List.take_of_length_le (by omega)
    rw [e] at hin
    have hall : xs.all (WhD.is D) = true := by rw [List.all_eq_true]; exact fun n hn => (hin n hn).is
    have hok : Ok D M xs := ⟨hD, hg, hch, hx, hin⟩
    refine TW.exit rfl <| TW.seq <| TW.seq ?_
    refine TW.region ?_
    refine LW.v (r_mv) ?_
    refine LW.c r_c2 ((contains_spec ((hr.cons c).cons _ |>.cons _) (by omega) H).mono ?_)
    rintro _ w ⟨rfl, H⟩
    refine ⟨_, rfl, ?_⟩
    refine LW.nil ?_
    refine TW.c rfl (fun hb => ?_) (fun hb => ?_)
    · have hp : l.all WhI.lplain = false := by simpa using hb
      refine TW.seq ?_
      refine TW.region ?_
      refine LW.v (r_b0) ?_
      refine LW.sto (r_stW H (vs := vI (List.replicate 32 0)) (hy := rfl) (h1 := vI_one _)) ?_; intro w H
      refine LW.v (r_as) ?_
      refine LW.nil ?_
      refine TW.ret (ret2 (by rfl) (rC H) rT ?_)
      exact ⟨by simp only [fromF, hall, hp, Bool.not_true, Bool.not_false, Bool.false_eq_true, if_true, if_false], c, by simp only [fromF, hall, hp, Bool.not_true, Bool.not_false, Bool.false_eq_true, if_true, if_false]; exact hc, H.drop.drop⟩
    · have hp : l.all WhI.lplain = true := by simpa using hb
      have ef : fromF D xs l pc = ((runF l D xs pc).2.1, 0, (runF l D xs pc).1) := by simp only [fromF, hall, hp, Bool.not_true, Bool.false_eq_true, if_false]
      rw [ef]
      have hpre : ∀ j, j ≤ l.length → Ok (runF (l.take j) D xs pc).1 (M + j) (runF (l.take j) D xs pc).2.1 ∧ (runF (l.take j) D xs pc).1.length ≤ D.length + 500 * j := by
        intro j hj
        have hl : (l.take j).length = j := by simp; omega
        have := runF_ok (M := M) (l.take j) D xs pc (by omega) hok (by rw [List.all_eq_true] at hp ⊢; exact fun x hx => hp x (List.mem_of_mem_take hx))
        rw [hl] at this
        exact ⟨this.1, this.2.1⟩
      refine TW.skip <| TW.seq <| TW.seq ?_
      refine TW.region ?_
      refine LW.v (r_mv) ?_
      refine LW.v (r_len) ?_
      refine LW.v (r_mv) ?_
      refine LW.nil ?_
      refine TW.block ?_
      refine TW.lp (σ := Nat) (fun j w' => j ≤ l.length ∧ ∃ c', DagC p (runF (l.take j) D xs pc).1 c' ∧ Hp B w0 w' (Blk g8 32 (vI (List.replicate 32 0)) :: Blk g5 32 (vI (runF (l.take j) D xs pc).2.1) :: c' :: L)) (fun j => [(0, .pointer (some ⟨p, 0, none⟩)), (2, .slice a l.length cap), (3, .int .u32 (runF (l.take j) D xs pc).2.2), (5, .pointer (some ⟨g5, 0, none⟩)), (8, .pointer (some ⟨g8, 0, none⟩)), (35, .slice a l.length cap), (36, .int .i64 l.length), (37, .int .i64 (j : Int))]) (fun j => l.length - j) (0) (⟨by omega, c, hc, H⟩) (⟨rfl, rfl, rfl, rfl, rfl, rfl, rfl, rfl, trivial⟩) ?_
      rintro j f w ⟨hj, c, hc, H⟩ again
      refine TW.seq ?_
      refine TW.region ?_
      refine LW.v (r_bin) ?_
      refine LW.nil ?_
      refine TW.seq ?_
      refine TW.c rfl (fun hb => ?_) (fun hb => ?_)
      · have hj2 : j < l.length := by simpa using hb
        have hgl : l[j]? = some l[j] := List.getElem?_eq_getElem hj2
        obtain ⟨hkj, hlj⟩ := hpre j hj
        have hpj : WhI.lplain l[j] = true := (List.all_eq_true.1 hp) _ (List.getElem_mem _)
        obtain ⟨hrd, _, _⟩ := lplain_regs hpj
        obtain ⟨a', rfl, hrow⟩ := hr.resolve_left (fun e => by subst e; simp at hj2)
        have es := runF_take l D xs pc hgl
        refine TW.skip <| TW.seq <| TW.block <| TW.seq ?_
        refine TW.region ?_
        refine LW.v (r_iaS (h0 := by omega) (h1 := by omega)) ?_
        refine LW.v (r_ldR (i := j) (hrow _ H.drop.drop.drop) hgl (fun _ => rfl) (size := 5)) ?_
        refine LW.new (r_al H) ?_; intro g15 w H
        refine LW.sto (r_stW H) ?_; intro w H
        refine LW.nil ?_
        refine TW.seq ?_
        refine TW.region ?_
        refine LW.v (r_mv) ?_
        refine LW.v (r_ldW H (hp := by rw [vI_size, hkj.len])) ?_
        refine LW.v (r_ldW H) ?_
        refine LW.v (r_mv) ?_
        refine LW.c r_c4 ((one_at hB hG (by omega) hc hkj hpj (by omega) H).mono ?_)
        rintro _ w ⟨rfl, c', hc', H⟩
        refine ⟨_, rfl, ?_⟩
        refine LW.v (r_as) ?_
        refine LW.nil ?_
        refine TW.seq <| TW.seq ?_
        refine TW.region ?_
        refine LW.v (r_fa) ?_
        refine LW.v (r_ld H) ?_
        refine LW.v (r_bin) ?_
        refine LW.nil ?_
        refine TW.c rfl (fun hb => ?_) (fun hb => ?_)
        · have hd : ¬ l[j].rd = 0 := by simpa using hb
          refine TW.region ?_
          refine LW.v (r_fa) ?_
          refine LW.v (r_ld H) ?_
          refine LW.v (r_mv) ?_
          refine LW.v (r_iaA (h0 := hrd.1) (h1 := by have := hrd.2; omega)) ?_
          refine LW.sto (r_stI (k := l[j].rd.toNat) H (by rw [hkj.len]; omega)) ?_; intro w H
          refine LW.nil ?_
          refine TW.region ?_
          refine LW.v (r_mv) ?_
          refine LW.v (r_bin) ?_
          refine LW.v (r_as) ?_
          refine LW.nil ?_
          refine TW.inBlock ?_
          refine TW.region ?_
          first | refine LW.v (r_add (hk := w64 (by omega) (by omega))) ?_ | refine LW.v (r_bin) ?_
          refine LW.v (r_mv) ?_
          refine LW.nil ?_
          refine again (j + 1) _ _ ⟨by omega, c', by rw [es]; exact hc', ?_⟩ ⟨rfl, rfl, by rw [es]; rfl, rfl, rfl, rfl, rfl, rfl, trivial⟩ (by omega)
          rw [es]
          simp only [stepF, setF, if_neg hd]
          exact H.drop
        · have hd : l[j].rd = 0 := by simpa using hb
          refine TW.skip ?_
          refine TW.region ?_
          refine LW.v (r_mv) ?_
          refine LW.v (r_bin) ?_
          refine LW.v (r_as) ?_
          refine LW.nil ?_
          refine TW.inBlock ?_
          refine TW.region ?_
          first | refine LW.v (r_add (hk := w64 (by omega) (by omega))) ?_ | refine LW.v (r_bin) ?_
          refine LW.v (r_mv) ?_
          refine LW.nil ?_
          refine again (j + 1) _ _ ⟨by omega, c', by rw [es]; exact hc', ?_⟩ ⟨rfl, rfl, by rw [es]; rfl, rfl, rfl, rfl, rfl, rfl, trivial⟩ (by omega)
          rw [es]
          simp only [stepF, setF, if_pos hd]
          exact H.drop
      · have hj2 : ¬ j < l.length := by simpa using hb
        have e2 : l.take j = l := List.take_of_length_le (by omega)
        have hkj := (hpre j hj).1
        rw [e2] at H hc hkj
        refine TW.exit rfl <| TW.seq ?_
        refine TW.region ?_
        refine LW.v (r_ldW H (hp := by rw [vI_size, hkj.len])) ?_
        refine LW.sto (r_stW H (vs := vI (runF l D xs pc).2.1) (h1 := vI_one _) (hs := by rw [vI_size, hkj.len])) ?_; intro w H
        refine LW.v (r_as) ?_
        refine LW.nil ?_
        refine TW.ret (ret2 (by rfl) (rC H (hp := by rw [vI_size, hkj.len])) rT ?_)
        exact ⟨rfl, c, hc, H.drop.drop⟩
theorem block_spec {B : Nat} {w0 w : World} {L : List Ck} {p : Nat} {D : List T} {c : Ck} {M : Nat} {l : List X} {pc : Int} {a : Option Addr} {cap : Nat} (hB : 0 < B) (hG : RowAt w0 ⟨0, 0, none⟩ tabV) (hM : M + l.length ≤ 200) (hc : DagC p D c) (hD : Wf D) (hg : Rng D) (hch : ChAll D M) (hlen : D.length < 900000) (hr : RowL B w0 L a l) (H : Hp B w0 w (c :: L)) :
    Calls Tryz.prog 9 #[.pointer (some ⟨p, 0, none⟩), .slice a l.length cap, .int .u32 pc] w fun e w' => e = .returned (.tuple #[.agg (vI (blockF D l pc).1), .int .i64 (blockF D l pc).2.1]) ∧ ∃ c', DagC p (blockF D l pc).2.2 c' ∧ Hp B w0 w' (c' :: L) := by
  refine calls_go Tryz.func9 Tryz.ntmps9 rfl rfl ?_
  refine TW.seq ?_
  refine TW.region ?_
  refine LW.new (r_al H) ?_; intro g6 w H
  refine LW.v (r_as) ?_
  refine LW.nil ?_
  refine TW.seq <| TW.seq ?_
  refine TW.region ?_
  refine LW.v (r_mv) ?_
  have H : Hp B w0 w (Blk g6 32 (vI (List.replicate 32 0)) :: c :: L) := H
  refine LW.c r_c2 ((contains_spec ((hr.cons c).cons _) (by omega) H).mono ?_)
  rintro _ w ⟨rfl, H⟩
  refine ⟨_, rfl, ?_⟩
  refine LW.nil ?_
  refine TW.c rfl (fun hb => ?_) (fun hb => ?_)
  · have hp : l.all WhI.lplain = false := by simpa using hb
    refine TW.seq ?_
    refine TW.region ?_
    refine LW.v (r_b0) ?_
    refine LW.sto (r_stW H (vs := vI (List.replicate 32 0)) (hy := rfl) (h1 := vI_one _)) ?_; intro w H
    refine LW.v (r_as) ?_
    refine LW.nil ?_
    refine TW.ret (ret2 (by rfl) (rC H) rT ?_)
    exact ⟨by simp only [blockF, hp, Bool.not_false, if_true], c, by simp only [blockF, hp, Bool.not_false, if_true]; exact hc, H.drop⟩
  · have hp : l.all WhI.lplain = true := by simpa using hb
    have eb : blockF D l pc = fromF (startN D 32).2 (startN D 32).1 l pc := by simp only [blockF, hp, Bool.not_true, Bool.false_eq_true, if_false]
    rw [eb]
    have hk := start_ok hD hg hch
    have hdl := startN_dlen D 32
    have hln : (fromF (startN D 32).2 (startN D 32).1 l pc).1.length = 32 := by
      unfold fromF
      have hall : (startN D 32).1.all (WhD.is (startN D 32).2) = true := by rw [List.all_eq_true]; exact fun n hn => (hk.inn n hn).is
      simp only [hall, hp, Bool.not_true, Bool.false_eq_true, if_false]
      exact (runF_ok l _ _ pc hM hk hp).1.len
    refine TW.skip <| TW.seq ?_
    refine TW.region ?_
    refine LW.v (r_mv) ?_
    refine LW.v (r_mv) ?_
    refine LW.c r_c1 ((start_spec hc (by omega) H.swap).mono ?_)
    rintro _ w ⟨rfl, c1, hc1, H⟩
    refine ⟨_, rfl, ?_⟩
    refine LW.v (r_mv) ?_
    refine LW.v (r_mv) ?_
    refine LW.c r_c4 ((from_spec hB hG hM hc1 hk.wf hk.rng hk.ch hk.len (by omega) (hr.cons _) H).mono ?_)
    rintro _ w ⟨rfl, c2, hc2, H⟩
    refine ⟨_, rfl, ?_⟩
    refine LW.v (r_ext) ?_
    refine LW.v (r_ext) ?_
    refine LW.sto (r_stW H (vs := vI (fromF (startN D 32).2 (startN D 32).1 l pc).1) (hy := rfl) (h1 := vI_one _) (hs := by rw [vI_size, hln])) ?_; intro w H
    refine LW.v (r_as) ?_
    refine LW.nil ?_
    refine TW.ret (ret2 (by rfl) (rC H (hp := by rw [vI_size, hln])) rT ?_)
    exact ⟨rfl, c2, hc2, H.dropAt 1⟩
end Wh
namespace Wh
open Go Go.Proofs WhS WhL WhX
set_option maxRecDepth 100000
theorem fixed_spec {B : Nat} {w0 w : World} {L : List Ck} (hB : 0 < B) (hG : RowAt w0 ⟨0, 0, none⟩ tabV) (H : Hp B w0 w L) :
    Calls Tryz.prog 12 #[] w fun e w' => e = .returned (.bool true) ∧ Hp B w0 w' L := by
  refine calls_go Tryz.func12 Tryz.ntmps12 rfl rfl ?_
  refine TW.seq ?_
  refine TW.region ?_
  refine LW.v (r_as) ?_
  refine LW.nil ?_
  refine TW.seq ?_
  refine TW.region ?_
  refine LW.c r_c0 ((new_spec _ _ _ _ H).mono ?_)
  rintro _ w ⟨p, c, rfl, hc, H⟩
  refine ⟨_, rfl, ?_⟩
  refine LW.v (r_as) ?_
  refine LW.nil ?_
  refine TW.seq <| TW.seq ?_
  refine TW.region ?_
  refine LW.v (r_mv) ?_
  refine LW.v (r_eqn) ?_
  refine LW.nil ?_
  refine TW.c rfl (fun h => by cases h) (fun _ => ?_)
  refine TW.skip <| TW.seq ?_
  refine TW.region ?_
  refine LW.v (r_mv) ?_
  refine LW.v (r_bd) ?_
  refine LW.v (r_bd) ?_
  refine LW.v (r_bd) ?_
  refine LW.new (r_bsl H (l3.map X.val) (rowOf X.val l3) rfl rfl (hv := by intro v hv; simp [l3] at hv; rcases hv with rfl | rfl | rfl <;> rfl)) ?_; intro gs w H
  have H := H.swap
  have hb1 := block_spec (M := 0) (l := l3) (pc := 256) (cap := 3) hB hG (by decide) hc wf0 rng0 (ch0 0) (by decide) (.inr ⟨⟨gs, 0, none⟩, rfl, fun w' H' => rowAt_blk (g := gs) H'⟩) H
  rw [block3] at hb1
  refine LW.c r_c3 ((hb1).mono ?_)
  rintro _ w ⟨rfl, c, hc, H⟩
  refine ⟨_, rfl, ?_⟩
  have H := H.dropAt 1
  simp only [List.eraseIdx] at H
  refine LW.v (r_mv) ?_
  refine LW.v (r_ext) ?_
  refine LW.v (r_ext) ?_
  refine LW.new (r_al H) ?_; intro g2 w H
  refine LW.sto (r_stW H (vs := vI xsC) (hy := rfl) (h1 := vI_one _) (hs := rfl)) ?_; intro w H
  have H := H.swap
  refine LW.v (r_as) ?_
  refine LW.nil ?_
  refine TW.seq ?_
  refine TW.region ?_
  refine LW.v (r_mv) ?_
  refine LW.c r_c1 ((len_at p dC hc H).mono ?_)
  rintro _ w ⟨rfl, H⟩
  refine ⟨_, rfl, ?_⟩
  refine LW.v (r_as) ?_
  refine LW.nil ?_
  refine TW.seq ?_
  refine TW.region ?_
  refine LW.v (r_mv) ?_
  refine LW.v (r_bd) ?_
  refine LW.new (r_bsl H [X.val ⟨45, 0, 0, 0, 0⟩] (rowOf X.val [⟨45, 0, 0, 0, 0⟩]) rfl rfl (hv := by intro v hv; simp at hv; subst hv; rfl)) ?_; intro gs w H
  have H := H.swap
  have hb2 := block_spec (M := 0) (l := [⟨45, 0, 0, 0, 0⟩]) (pc := 0) (cap := 1) hB hG (by decide) hc wfC rngC (chC 0) (by decide) (.inr ⟨⟨gs, 0, none⟩, rfl, fun w' H' => rowAt_blk (g := gs) H'⟩) H
  rw [block1] at hb2
  refine LW.c r_c3 ((hb2).mono ?_)
  rintro _ w ⟨rfl, c, hc, H⟩
  refine ⟨_, rfl, ?_⟩
  have H := H.dropAt 1
  simp only [List.eraseIdx] at H
  refine LW.v (r_mv) ?_
  refine LW.v (r_ext) ?_
  refine LW.v (r_ext) ?_
  refine LW.new (r_al H) ?_; intro g5 w H
  refine LW.sto (r_stW H (vs := vI (List.replicate 32 0)) (hy := rfl) (h1 := vI_one _) (hs := rfl)) ?_; intro w H
  have H := H.drop
  refine LW.v (r_as) ?_
  refine LW.nil ?_
  refine TW.seq ?_
  refine TW.region ?_
  refine LW.v (r_mv) ?_
  refine LW.v (r_bd1 (vI (-1 :: List.replicate 31 0)) rfl rfl) ?_
  have hb3 := from_spec (M := 0) (l := []) (xs := -1 :: List.replicate 31 0) (pc := 0) (cap := 0) (a := none) hB hG (by decide) hc wfC rngC (chC 0) rfl (by decide) (.inl rfl) H
  rw [from0] at hb3
  refine LW.c r_c4 ((hb3).mono ?_)
  rintro _ w ⟨rfl, c, hc, H⟩
  refine ⟨_, rfl, ?_⟩
  refine LW.v (r_mv) ?_
  refine LW.v (r_ext) ?_
  refine LW.v (r_ext) ?_
  refine LW.new (r_al H) ?_; intro g7 w H
  refine LW.sto (r_stW H (vs := vI (List.replicate 32 0)) (hy := rfl) (h1 := vI_one _) (hs := rfl)) ?_; intro w H
  have H := H.drop
  refine LW.v (r_as) ?_
  refine LW.nil ?_
  refine TW.seq ?_
  refine TW.region ?_
  refine LW.v (r_mv) ?_
  refine LW.v (r_iaA (h0 := by omega) (h1 := by omega)) ?_
  refine LW.v (r_ld H) ?_
  refine LW.c r_c2 ((node_at p dC 32 hc H).mono ?_)
  rintro _ w ⟨rfl, H⟩
  refine ⟨_, rfl, ?_⟩

  refine LW.v (r_mv) ?_
  refine LW.v (r_ext) ?_
  refine LW.v (r_ext) ?_
  refine LW.new (r_al H) ?_; intro g9 w H
  refine LW.sto (r_stW H (vs := (T.cells ⟨0, 5, 0, 0, 0⟩).toArray) (hy := rfl)) ?_; intro w H
  refine LW.v (r_as) ?_
  refine LW.nil ?_
  refine TW.seq ?_
  refine TW.region ?_
  refine LW.v (r_mv) ?_
  refine LW.v (r_iaA (h0 := by omega) (h1 := by omega)) ?_
  refine LW.v (r_ld H) ?_
  refine LW.c r_c2 ((node_at p dC 33 hc H).mono ?_)
  rintro _ w ⟨rfl, H⟩
  refine ⟨_, rfl, ?_⟩

  refine LW.v (r_mv) ?_
  refine LW.v (r_ext) ?_
  refine LW.v (r_ext) ?_
  refine LW.new (r_al H) ?_; intro g11 w H
  refine LW.sto (r_stW H (vs := (T.cells ⟨0, 10, 0, 0, 0⟩).toArray) (hy := rfl)) ?_; intro w H
  refine LW.v (r_as) ?_
  refine LW.nil ?_
  refine TW.seq ?_
  refine TW.region ?_
  refine LW.v (r_mv) ?_
  refine LW.v (r_iaA (h0 := by omega) (h1 := by omega)) ?_
  refine LW.v (r_ld H) ?_
  refine LW.c r_c2 ((node_at p dC 34 hc H).mono ?_)
  rintro _ w ⟨rfl, H⟩
  refine ⟨_, rfl, ?_⟩

  refine LW.v (r_mv) ?_
  refine LW.v (r_ext) ?_
  refine LW.v (r_ext) ?_
  refine LW.new (r_al H) ?_; intro g13 w H
  refine LW.sto (r_stW H (vs := (T.cells ⟨0, 4360, 0, 0, 0⟩).toArray) (hy := rfl)) ?_; intro w H
  refine LW.v (r_as) ?_
  refine LW.nil ?_
  refine TW.seq ?_
  refine TW.region ?_
  refine LW.v (r_mv) ?_
  refine LW.v (r_bin) ?_
  refine LW.v (r_mv) ?_
  refine LW.yes (by rfl) (by rfl) (by rfl) (by rfl) (by rfl) ?_
  refine LW.v (r_mv) ?_
  refine LW.yes (by rfl) (by rfl) (by rfl) (by rfl) (by rfl) ?_
  refine LW.v (r_bin) ?_
  refine LW.v (r_pick) ?_
  refine LW.v (r_mv) ?_
  refine LW.yes (by rfl) (by rfl) (by rfl) (by rfl) (by rfl) ?_
  refine LW.v (r_mv) ?_
  refine LW.yes (by rfl) (by rfl) (by rfl) (by rfl) (by rfl) ?_
  refine LW.c r_c1 ((len_at p dC hc H).mono ?_)
  rintro _ w ⟨rfl, H⟩
  refine ⟨_, rfl, ?_⟩
  refine LW.yes (by rfl) (by rfl) (by rfl) (by rfl) (by rfl) ?_
  refine LW.v (r_mv) ?_
  refine LW.yes (by rfl) (by rfl) (by rfl) (by rfl) (by rfl) ?_
  refine LW.v (r_bin) ?_
  refine LW.v (r_pick) ?_
  refine LW.v (r_mv) ?_
  refine LW.yes (by rfl) (by rfl) (by rfl) (by rfl) (by rfl) ?_
  refine LW.v (r_mv) ?_
  refine LW.yes (by rfl) (by rfl) (by rfl) (by rfl) (by rfl) ?_
  refine LW.v (r_bin) ?_
  refine LW.v (r_pick) ?_
  refine LW.v (r_mv) ?_
  refine LW.yes (by rfl) (by rfl) (by rfl) (by rfl) (by rfl) ?_
  refine LW.v (r_mv) ?_
  refine LW.yes (by rfl) (by rfl) (by rfl) (by rfl) (by rfl) ?_
  refine LW.v (r_bin) ?_
  refine LW.v (r_pick) ?_
  refine LW.v (r_mv) ?_
  refine LW.yes (by rfl) (by rfl) (by rfl) (by rfl) (by rfl) ?_
  refine LW.v (r_mv) ?_
  refine LW.yes (by rfl) (by rfl) (by rfl) (by rfl) (by rfl) ?_
  refine LW.v (r_bin) ?_
  refine LW.v (r_pick) ?_
  refine LW.v (r_mv) ?_
  refine LW.yes (by rfl) (by rfl) (by rfl) (by rfl) (by rfl) ?_
  refine LW.v (r_mv) ?_
  refine LW.yes (by rfl) (by rfl) (by rfl) (by rfl) (by rfl) ?_
  refine LW.v (r_bin) ?_
  refine LW.v (r_pick) ?_
  refine LW.v (r_mv) ?_
  refine LW.yes (by rfl) (by rfl) (by rfl) (by rfl) (by rfl) ?_
  refine LW.v (r_ldW H) ?_
  refine LW.yes (by rfl) (by rfl) (by rfl) (by rfl) (by rfl) ?_
  refine LW.v (r_bd) ?_
  refine LW.yes (by rfl) (by rfl) (by rfl) (by rfl) (by rfl) ?_
  refine LW.v (r_eqs (ks := tks) (ns := [0, 5, 0, 0, 0]) (ms := [0, 5, 0, 0, 0]) rfl rfl) ?_
  refine LW.v (r_pick) ?_
  refine LW.v (r_mv) ?_
  refine LW.yes (by rfl) (by rfl) (by rfl) (by rfl) (by rfl) ?_
  refine LW.v (r_ldW H) ?_
  refine LW.yes (by rfl) (by rfl) (by rfl) (by rfl) (by rfl) ?_
  refine LW.v (r_bd) ?_
  refine LW.yes (by rfl) (by rfl) (by rfl) (by rfl) (by rfl) ?_
  refine LW.v (r_eqs (ks := tks) (ns := [0, 10, 0, 0, 0]) (ms := [0, 10, 0, 0, 0]) rfl rfl) ?_
  refine LW.v (r_pick) ?_
  refine LW.v (r_mv) ?_
  refine LW.yes (by rfl) (by rfl) (by rfl) (by rfl) (by rfl) ?_
  refine LW.v (r_ldW H) ?_
  refine LW.yes (by rfl) (by rfl) (by rfl) (by rfl) (by rfl) ?_
  refine LW.v (r_bd) ?_
  refine LW.yes (by rfl) (by rfl) (by rfl) (by rfl) (by rfl) ?_
  refine LW.v (r_eqs (ks := tks) (ns := [0, 4360, 0, 0, 0]) (ms := [0, 4360, 0, 0, 0]) rfl rfl) ?_
  refine LW.v (r_pick) ?_
  refine LW.v (r_mv) ?_
  refine LW.yes (by rfl) (by rfl) (by rfl) (by rfl) (by rfl) ?_
  refine LW.v (r_bd) ?_
  refine LW.yes (by rfl) (by rfl) (by rfl) (by rfl) (by rfl) ?_
  refine LW.c r_c1 ((lplain_spec _ _ _ _ ⟨27, 0, 0, 0, 0⟩ H).mono ?_)
  rintro _ w ⟨rfl, H⟩
  refine ⟨_, rfl, ?_⟩
  refine LW.v (r_pick) ?_
  refine LW.v (r_mv) ?_
  refine LW.yes (by rfl) (by rfl) (by rfl) (by rfl) (by rfl) ?_
  refine LW.v (r_bd) ?_
  refine LW.yes (by rfl) (by rfl) (by rfl) (by rfl) (by rfl) ?_
  refine LW.c r_c1 ((lplain_spec _ _ _ _ ⟨12, 0, 0, 0, 0⟩ H).mono ?_)
  rintro _ w ⟨rfl, H⟩
  refine ⟨_, rfl, ?_⟩
  refine LW.yes (by rfl) (by rfl) (by rfl) (by rfl) (by rfl) ?_
  refine LW.v (r_not) ?_
  refine LW.v (r_pick) ?_
  refine LW.v (r_as) ?_
  refine LW.nil ?_
  refine TW.ret (ret1 (by rfl) rT ?_)
  exact ⟨rfl, H.drop.drop.drop.drop.drop⟩
end Wh
namespace Wh.WhB
open Go
theorem wrap_nat {n : Nat} (h : n < 4294967296) : IntKind.u32.wrap (n : Int) = n := by
  have e : (2 : Int) ^ 32 = 4294967296 := by decide
  simp only [IntKind.wrap, IntKind.bits, IntKind.signed, e, Bool.false_and]
  simp
  omega
theorem ofInt_nat (n : Nat) : BitVec.ofInt 32 (n : Int) = BitVec.ofNat 32 n := by simp
theorem toNat_ofNat {n : Nat} (h : n < 4294967296) : (BitVec.ofNat 32 n).toNat = n := by
  simp only [BitVec.toNat_ofNat]
  exact Nat.mod_eq_of_lt h
theorem or_nat {a b : Nat} (ha : a < 4294967296) (hb : b < 4294967296) : bits .or .u32 a b = ((a ||| b : Nat) : Int) := by
  have h1 : a ||| b < 2 ^ 32 := Nat.or_lt_two_pow ha hb
  show IntKind.u32.wrap (((BitVec.ofInt 32 (a : Int) ||| BitVec.ofInt 32 (b : Int)).toNat : Nat) : Int) = _
  rw [ofInt_nat, ofInt_nat, BitVec.toNat_or, toNat_ofNat ha, toNat_ofNat hb, wrap_nat h1]
theorem and_nat {a b : Nat} (ha : a < 4294967296) (hb : b < 4294967296) : bits .and .u32 a b = ((a &&& b : Nat) : Int) := by
  have h1 : a &&& b < 2 ^ 32 := Nat.and_lt_two_pow a hb
  show IntKind.u32.wrap (((BitVec.ofInt 32 (a : Int) &&& BitVec.ofInt 32 (b : Int)).toNat : Nat) : Int) = _
  rw [ofInt_nat, ofInt_nat, BitVec.toNat_and, toNat_ofNat ha, toNat_ofNat hb, wrap_nat h1]
theorem and31 : ∀ n : Nat, n < 32 → bits .and .i64 (n : Int) 31 = n := by decide
/-- one more bit -/
def setStep (s : Int) (rd : Int) : Int := bits .or .u32 s (IntKind.u32.wrap (1 * 2 ^ min (bits .and .i64 rd 31).toNat 32))
theorem setStep_nat {s k : Nat} (hs : s < 4294967296) (hk : k < 32) : setStep (s : Int) (k : Int) = ((s ||| 2 ^ k : Nat) : Int) := by
  have h2 : 2 ^ k < 4294967296 := Nat.pow_lt_pow_right (by decide) (m := k) (n := 32) hk
  unfold setStep
  rw [and31 k hk]
  have e : IntKind.u32.wrap (1 * 2 ^ min ((k : Int)).toNat 32) = ((2 ^ k : Nat) : Int) := by
    have h3 : min ((k : Int)).toNat 32 = k := by simp; omega
    rw [h3, Int.one_mul, ← wrap_nat h2]
    simp
  rw [e, or_nat hs h2]
/-- a bit that is read -/
theorem bit_nat {s r : Nat} (hs : s < 4294967296) (hr : r < 32) : bits .and .u32 ((s : Int).fdiv (2 ^ min ((r : Int)).toNat 32)) 1 = if s.testBit r then 1 else 0 := by
  have h3 : min ((r : Int)).toNat 32 = r := by simp; omega
  have e : ((s : Int).fdiv (2 ^ min ((r : Int)).toNat 32)) = ((s / 2 ^ r : Nat) : Int) := by
    rw [h3, Int.fdiv_eq_ediv_of_nonneg _ (Int.le_of_lt (Int.pow_pos (by decide)))]
    simp
  have hlt : s / 2 ^ r < 4294967296 := Nat.lt_of_le_of_lt (Nat.div_le_self _ _) hs
  rw [e, show (1 : Int) = ((1 : Nat) : Int) from rfl, and_nat hlt (by decide), Nat.and_one_is_mod, Nat.testBit_eq_decide_div_mod_eq]
  have : s / 2 ^ r % 2 = 0 ∨ s / 2 ^ r % 2 = 1 := by omega
  rcases this with h | h <;> simp [h]
theorem and31_nn {a : Int} (h0 : 0 ≤ a) (h1 : a ≤ 31) : 0 ≤ bits .and .i64 a 31 := by
  have := and31 a.toNat (by omega)
  rw [show ((a.toNat : Nat) : Int) = a by omega] at this
  rw [this]
  exact h0
end Wh.WhB
namespace Wh
open Go
section
variable {P : Program} {n : Nat} {f : Fr} {w : World} {o : Oper} {B : Nat} {w0 : World} {L : List Ck}
theorem madeCells_one (z : Value) (k : Nat) (h : z.cells = #[z]) : madeCells z.cells k = (List.replicate k z).toArray := by
  rw [h]
  apply Array.toList_inj.1
  simp only [madeCells]
  apply List.ext_getElem
  · simp
  · intro i h1 h2
    simp
    have : i % 1 = 0 := Nat.mod_one i
    simp [this]
/-- make of a slice of single cells -/
theorem r_mks {t e : TypeId} {x y : Operand} {k k2 : IntKind} {len : Nat} {bytes : Nat} {zero : Value} (H : Hp B w0 w L) (ho : o.op = .makeSlice t x y := by rfl) (hx : ev n f x = .int k len := by rfl) (hy : ev n f y = .int k2 len := by rfl)
    (hT : UT P t (.slice e) := by infer_instance) (hS : TI P e 1 zero bytes := by infer_instance) (hz : zero.cells = #[zero] := by rfl) (hb : bytes * len ≤ 281474976710656 := by decide) (hl : len ≤ 9223372036854775807 := by decide) :
    ∃ g w', (execOp (ev n f) o).run P w = .ok (.value (.slice (some ⟨g, 0, none⟩) len len)) w' ∧ Hp B w0 w' (Blk g e (List.replicate len zero).toArray :: L) := by
  obtain ⟨i, hi, h2, h3, h4⟩ := info_of hS
  have hb' : (i.bytes : Int) * (len : Int) ≤ 281474976710656 := by rw [h4, ← Int.natCast_mul]; omega
  have hr := run_make (P := P) w t e i zero hT.eq hi h3 k k2 (len : Int) (len : Int) (by omega) (Int.le_refl _) hb' (by omega)
  simp only [Int.toNat_natCast, h2, Nat.mul_one] at hr
  rw [madeCells_one zero len hz] at hr
  exact ⟨w.heap.size, _, by simp [execOp, ho, hx, hy, hr], H.alloc e _⟩
/-- the address of an element of a slice that begins a block -/
theorem r_iaB {t e : TypeId} {x y : Operand} {g len cap : Nat} {k : IntKind} {i : Int} {size bytes : Nat} {zero : Value} (ho : o.op = .indexAddr t x y := by rfl) (hx : ev n f x = .slice (some ⟨g, 0, none⟩) len cap := by rfl)
    (hy : ev n f y = .int k i := by rfl) (hT : UT P t (.slice e) := by infer_instance) (hS : TI P e size zero bytes := by infer_instance) (h0 : 0 ≤ i) (h1 : i < len) :
    (execOp (ev n f) o).run P w = .ok (.value (.pointer (some ⟨g, 0 + i.toNat * size, none⟩))) w := by
  rw [r_iaS ho hx hy hT hS h0 h1, add_of]
variable {α : Type} {enc : α → Value}
/-- a cell of a block of single cells, by its number -/
theorem cellK {g : Nat} {bt : TypeId} {cs : Array Value} {xs : List α} {mk : Array Value → List Ck} (H : Hp B w0 w L) {k : Nat} {m : α} (hk : xs[k]? = some m) (hb : HasB L g bt cs mk := by infer_instance) (hcs : cs = (xs.map enc).toArray := by rfl) : w.cell? ⟨g, 0 + k * 1, none⟩ = some (enc m) := by
  rw [cell_of_blk (H.getB (h := hb)), Nat.zero_add, Nat.mul_one, hcs]
  simp [hk]
theorem r_stK {t : TypeId} {x y : Operand} {g k : Nat} {bt : TypeId} {cs : Array Value} {xs : List α} {mk : Array Value → List Ck} {size bytes : Nat} {zero : Value} {m : α} (H : Hp B w0 w L) (hk : k < xs.length) (hcs : cs = (xs.map enc).toArray) (ho : o.op = .store t x y := by rfl) (hx : ev n f x = .pointer (some ⟨g, 0 + k * 1, none⟩) := by rfl)
    (hy : ev n f y = enc m := by rfl) (he : (enc m).oneCell' = true := by rfl) (hS : TI P t size zero bytes := by infer_instance) (hs : Nat.beq size 1 = true := by rfl) (hb : HasB L g bt cs mk := by infer_instance) :
    ∃ w', (execOp (ev n f) o).run P w = .ok .skip w' ∧ Hp B w0 w' (mk ((xs.set k m).map enc).toArray) := by
  subst hcs
  have := r_st (P := P) (n := n) (f := f) (o := o) H ho hx hy he hS hs hb (blt_iff.2 (by simp; omega))
  rw [Nat.zero_add, Nat.mul_one] at this
  have e : ((xs.map enc).toArray).setIfInBounds k (enc m) = ((xs.set k m).map enc).toArray := by
    apply Array.toList_inj.1
    simp [List.map_set]
  rwa [e] at this
end
/-- a list that is filled from the front -/
def fillN {α : Type} (z : α) (L : List α) (n : Nat) : List α := L.take n ++ List.replicate (L.length - n) z
theorem fillN_len {α : Type} (z : α) (L : List α) {n : Nat} (h : n ≤ L.length) : (fillN z L n).length = L.length := by simp [fillN]; omega
theorem fillN_zero {α : Type} (z : α) (L : List α) : fillN z L 0 = List.replicate L.length z := by simp [fillN]
theorem fillN_all {α : Type} (z : α) (L : List α) : fillN z L L.length = L := by simp [fillN]
theorem fillN_set {α : Type} (z : α) (L : List α) {n : Nat} {x : α} (h : L[n]? = some x) : (fillN z L n).set n x = fillN z L (n + 1) := by
  have hl : n < L.length := (List.getElem?_eq_some_iff.1 h).1
  unfold fillN
  rw [List.set_append_right _ _ (by simp; omega)]
  have e : L.length - n = (L.length - (n + 1)) + 1 := by omega
  have e2 : (L.take n).length = n := by simp; omega
  rw [e2, Nat.sub_self, e, List.replicate_succ, List.set_cons_zero, List.take_add_one, h]
  simp
theorem fillN_keep {α : Type} (z : α) (L : List α) {n : Nat} (h : L[n]? = some z) : fillN z L n = fillN z L (n + 1) := by
  rw [← fillN_set z L h]
  have hl : n < L.length := (List.getElem?_eq_some_iff.1 h).1
  unfold fillN
  rw [List.set_append_right _ _ (by simp; omega)]
  have e : L.length - n = (L.length - (n + 1)) + 1 := by omega
  have e2 : (L.take n).length = n := by simp; omega
  rw [e2, Nat.sub_self, e, List.replicate_succ, List.set_cons_zero]
end Wh
namespace Wh.WhR
open Go
abbrev u32 (a : Int) : Int := IntKind.u32.wrap a
abbrev u64 (a : Int) : Int := IntKind.u64.wrap a
abbrev i64 (a : Int) : Int := IntKind.i64.wrap a
def bit (w k : Int) : Int := if k < 0 ∨ 31 < k then 0 else bits .and .u32 (w.fdiv (2 ^ min k.toNat 32)) 1
def ofL (l : List Int) : Int := l.foldr (fun b w => u32 (u32 (w * 2) + b)) 0
def num (w : Int) : Int := if 2147483648 ≤ w then i64 (i64 w - 4294967296) else i64 w
def shiftL (a s above : Int) : List Int := (List.range 32).map fun (i : Nat) => if 31 < (i : Int) - s then above else bit a ((i : Int) - s)
def shift (a s above : Int) : Int := ofL (shiftL a s above)
def bitOp (op x y : Int) : Int := if op = 36 then u32 (x * y) else if op = 35 then u32 (u32 (x + y) - u32 (x * y)) else if op = 32 then (u32 (x + y)).tmod 2 else 0
def bitsL (op a b : Int) : List Int := (List.range 32).map fun (i : Nat) => bitOp op (bit a i) (bit b i)
def bitsF (op a b : Int) : Int := ofL (bitsL op a b)
def one (b : Bool) : Int := if b then 1 else 0
def halves (a b : Int) : Int :=
  let al := u64 (a.tmod 65536); let ah := u64 (u32 (a.tdiv 65536)); let bl := u64 (b.tmod 65536); let bh := u64 (u32 (b.tdiv 65536))
  let mid := u64 (u64 (u64 ((u64 (al * bl)).tdiv 65536) + (u64 (ah * bl)).tmod 65536) + (u64 (al * bh)).tmod 65536)
  u32 (u64 (u64 (u64 (u64 (ah * bh) + u64 ((u64 (ah * bl)).tdiv 65536)) + u64 ((u64 (al * bh)).tdiv 65536)) + u64 (mid.tdiv 65536)))
def high (op a b : Int) : Int :=
  let h := halves a b
  let h := if op ≠ 40 ∧ 2147483648 ≤ a then u32 (h - b) else h
  if op = 38 ∧ 2147483648 ≤ b then u32 (h - a) else h
def div (op a b : Int) : Int :=
  let rest := op = 43 ∨ op = 44
  if b = 0 then if rest then a else 4294967295
  else
    let x := if op = 41 ∨ op = 43 then num a else i64 a
    let y := if op = 41 ∨ op = 43 then num b else i64 b
    if rest then u32 (i64 (x - i64 (i64 (x.tdiv y) * y))) else u32 (i64 (x.tdiv y))
def rdo (op a b : Int) : Int × Int :=
  let s := i64 (b.tmod 32)
  if op = 27 then (u32 (a + b), 0) else if op = 28 then (u32 (a - b), 0) else if op = 36 ∨ op = 35 ∨ op = 32 then (bitsF op a b, 0)
  else if op = 29 then (shift a s 0, 0) else if op = 33 then (shift a (i64 (0 - s)) 0, 0) else if op = 34 then (shift a (i64 (0 - s)) (bit a 31), 0)
  else if op = 30 then (one (decide (num a < num b)), 0) else if op = 31 then (one (decide (a < b)), 0) else if op = 37 then (u32 (a * b), 0)
  else if op = 38 ∨ op = 39 ∨ op = 40 then (high op a b, 0) else if op = 41 ∨ op = 42 ∨ op = 43 ∨ op = 44 then (div op a b, 0) else (0, 1)
theorem u32_id {n : Int} (h0 : 0 ≤ n) (h1 : n < 4294967296) : IntKind.u32.wrap n = n := by
  have e : (2 : Int) ^ 32 = 4294967296 := by decide
  simp only [IntKind.wrap, IntKind.bits, IntKind.signed, e, Bool.false_and]
  simp
  omega
theorem u64_id {n : Int} (h0 : 0 ≤ n) (h1 : n < 18446744073709551616) : IntKind.u64.wrap n = n := by
  have e : (2 : Int) ^ 64 = 18446744073709551616 := by decide
  simp only [IntKind.wrap, IntKind.bits, IntKind.signed, e, Bool.false_and]
  simp
  omega
theorem i64_id {n : Int} (h0 : -9223372036854775808 ≤ n) (h1 : n < 9223372036854775808) : IntKind.i64.wrap n = n := IntWalk.i64_in n ⟨h0, by omega⟩
theorem num_ne {b : Int} (h0 : 0 ≤ b) (h1 : b < 4294967296) (h2 : ¬ b = 0) : num b ≠ 0 := by
  unfold num i64
  split
  · rw [i64_id (n := b) (by omega) (by omega), i64_id (by omega) (by omega)]; omega
  · rw [i64_id (by omega) (by omega)]; exact h2
end Wh.WhR
