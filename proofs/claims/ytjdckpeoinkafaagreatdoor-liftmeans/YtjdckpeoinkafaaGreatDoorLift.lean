/- A part of the walk through the code: contracts of functions, printed by a program of the prover. -/
import Derived.Test.YtjdckpeoinkafaaGreatDoorLf
import Derived.Test.YtjdckpeoinkafaaGreatDoorMade
set_option linter.all false
namespace Wh
open Go Go.Proofs WhS WhL
set_option maxRecDepth 100000
theorem wdo_mk {op : Int} (h : WhP.isOp op = true) : (WhI.wdo op 0 0).2 = 0 := isOp_wdo h
theorem simpop_spec {B : Nat} {w0 w : World} {Ls : List Ck} {p : Nat} {D : List T} {c : Ck} {mk' : Ck → List Ck} {M : Nat} {op a b : Int} (hB : 0 < B) (hG : RowAt w0 ⟨0, 0, none⟩ tabV) (hM : M ≤ 200) (hc : DagC p D c) (hD : Wf D) (hg : Rng D) (hch : ChAll D M) (ha : In D a) (hb : In D b) (ho : WhP.isOp op = true) (hlen : D.length + 500 < 1073741824) (H : Hp B w0 w Ls) (hbc : HasC Ls c mk' := by infer_instance) :
    Calls Tryz.prog 62 #[.pointer (some ⟨p, 0, none⟩), .int .i64 op, .int .i64 a, .int .i64 b] w fun e w' => e = .returned (.tuple #[.int .i64 (mk D op a b).1, .int .i64 0]) ∧ ∃ c', DagC p (mk D op a b).2 c' ∧ Hp B w0 w' (mk' c') := by
  obtain ⟨R, H, back⟩ := H.pick (h := hbc)
  have ea : (WhD.node D a).2 = 0 := by simp [WhD.node, ha.is]
  have eb : (WhD.node D b).2 = 0 := by simp [WhD.node, hb.is]
  have hk := (mk_good hM hD hg hch ha hb ho).1
  refine calls_go Tryz.func62 Tryz.ntmps62 rfl rfl ?_
  refine TW.seq ?_
  refine TW.region ?_
  refine LW.v (r_as) ?_
  refine LW.v (r_as) ?_
  refine LW.nil ?_
  refine TW.seq <| TW.seq ?_
  refine TW.region ?_
  refine LW.v (r_mv) ?_
  refine LW.v (r_mv) ?_
  refine LW.c r_c2 ((node_at p D a hc H).mono ?_)
  rintro _ w ⟨rfl, H⟩
  refine ⟨_, rfl, ?_⟩
  refine LW.v (r_mv) ?_
  refine LW.v (r_ext) ?_
  refine LW.v (r_ext) ?_
  refine LW.new (r_al H) ?_; intro g10 w H
  refine LW.sto (r_stW H) ?_; intro w H
  refine LW.v (r_as) ?_
  refine LW.nil ?_
  refine TW.seq ?_
  refine TW.region ?_
  refine LW.v (r_mv) ?_
  refine LW.v (r_bin) ?_
  refine LW.nil ?_
  refine TW.c rfl (fun hb => ?_) (fun hb => ?_)
  · simp [ea] at hb
  · refine TW.skip <| TW.seq <| TW.seq ?_
    refine TW.region ?_
    refine LW.v (r_mv) ?_
    refine LW.v (r_mv) ?_
    refine LW.c r_c2 ((node_at p D b hc H).mono ?_)
    rintro _ w ⟨rfl, H⟩
    refine ⟨_, rfl, ?_⟩
    refine LW.v (r_mv) ?_
    refine LW.v (r_ext) ?_
    refine LW.v (r_ext) ?_
    refine LW.new (r_al H) ?_; intro g12 w H
    refine LW.sto (r_stW H) ?_; intro w H
    refine LW.v (r_as) ?_
    refine LW.nil ?_
    refine TW.seq ?_
    refine TW.region ?_
    refine LW.v (r_mv) ?_
    refine LW.v (r_bin) ?_
    refine LW.nil ?_
    refine TW.c rfl (fun hb => ?_) (fun hb => ?_)
    · simp [eb] at hb
    · refine TW.skip <| TW.seq <| TW.seq ?_
      refine TW.region ?_
      refine LW.v (r_mv) ?_
      refine LW.c r_c3 ((wdo_spec _ _ _ _ op 0 0 (by decide) (by decide) H).mono ?_)
      rintro _ w ⟨rfl, H⟩
      refine ⟨_, rfl, ?_⟩
      refine LW.v (r_mv) ?_
      refine LW.v (r_ext) ?_
      refine LW.v (r_ext) ?_
      refine LW.v (r_as) ?_
      refine LW.v (r_as) ?_
      refine LW.nil ?_
      refine TW.seq ?_
      refine TW.region ?_
      refine LW.v (r_mv) ?_
      refine LW.v (r_bin) ?_
      refine LW.nil ?_
      refine TW.c rfl (fun hb => ?_) (fun hb => ?_)
      · simp [isOp_wdo ho] at hb
      · refine TW.skip <| TW.seq ?_
        refine TW.region ?_
        refine LW.v (r_mv) ?_
        refine LW.v (r_mv) ?_
        refine LW.v (r_mv) ?_
        refine LW.v (r_mv) ?_
        refine LW.c r_c4 (((made_ok hB hG 405).at hc hg (by omega) hk H).mono ?_)
        rintro _ w ⟨rfl, c', hc', hg', H⟩
        refine ⟨_, rfl, ?_⟩
        refine LW.v (r_as) ?_
        refine LW.v (r_as) ?_
        refine LW.nil ?_
        refine TW.ret (ret2 (by rfl) rT rT ?_)
        exact ⟨rfl, c', hc', back _ _ (H.drop.drop)⟩
theorem one_spec {B : Nat} {w0 w : World} {L : List Ck} {p : Nat} {D : List T} {c : Ck} {M : Nat} {xs : List Int} {i : X} {pc : Int} (hB : 0 < B) (hG : RowAt w0 ⟨0, 0, none⟩ tabV) (hM : M ≤ 200) (hc : DagC p D c) (hk : Ok D M xs) (hi : WhI.lplain i = true) (hlen : D.length + 501 < 1073741824) (H : Hp B w0 w (c :: L)) :
    Calls Tryz.prog 35 #[.pointer (some ⟨p, 0, none⟩), .agg (vI xs), i.val, .int .u32 pc] w fun e w' => e = .returned (.int .i64 (oneF D xs i pc).1) ∧ ∃ c', DagC p (oneF D xs i pc).2 c' ∧ Hp B w0 w' (c' :: L) := by
  obtain ⟨hrd, hr1, hr2⟩ := lplain_regs hi
  have hx1 := hk.reg hr1.1 hr1.2
  have hx2 := hk.reg hr2.1 hr2.2
  have hl2 := addT_len D (K (IntKind.u32.wrap i.imm))
  refine calls_go Tryz.func35 Tryz.ntmps35 rfl rfl ?_
  refine TW.seq ?_
  refine TW.region ?_
  refine LW.new (r_box H) ?_; intro g5 w H
  refine LW.new (r_box H) ?_; intro g6 w H
  refine LW.v (r_as) ?_
  refine LW.nil ?_
  refine TW.seq ?_
  refine TW.region ?_
  have H : Hp B w0 w (Blk g6 31 (iv xks i.nums).toArray :: Blk g5 32 (vI xs) :: c :: L) := H
  refine LW.v (r_fa) ?_
  refine LW.v (r_ld H) ?_
  refine LW.v (r_cv) ?_
  refine LW.v (r_shl (hb := by first | omega | exact WhI.bits_nn _ _ _ | exact WhI.u32_nn _)) ?_
  refine LW.v (r_as) ?_
  refine LW.nil ?_
  refine TW.seq <| TW.seq ?_
  refine TW.region ?_
  refine LW.v (r_fa) ?_
  refine LW.v (r_ld H) ?_
  refine LW.nil ?_
  refine TW.block <| TW.seq ?_
  refine TW.region ?_
  refine LW.v (r_bin) ?_
  refine LW.v (r_as) ?_
  refine LW.nil ?_
  refine TW.c rfl (fun hb => ?_) (fun hb => ?_)
  · have h0 : i.op = 0 := by simpa using hb
    refine TW.seq ?_
    refine TW.region ?_
    refine LW.v (r_mv) ?_
    refine LW.v (r_mv) ?_
    refine LW.c r_c2 ((const_at p D (up i) hc (by omega) H).mono ?_)
    rintro _ w ⟨rfl, c', hc', H⟩
    refine ⟨_, rfl, ?_⟩
    refine LW.v (r_as) ?_
    refine LW.nil ?_
    refine TW.ret (ret1 (by rfl) rT ?_)
    exact ⟨by simp only [oneF, if_pos h0]; rfl, c', by simp only [oneF, if_pos h0]; exact hc', H.drop.drop⟩
  · have h0 : ¬ i.op = 0 := by simpa using hb
    refine TW.seq ?_
    refine TW.region ?_
    refine LW.v (r_bin) ?_
    refine LW.v (r_as) ?_
    refine LW.nil ?_
    refine TW.c rfl (fun hb => ?_) (fun hb => ?_)
    · have h1 : i.op = 1 := by simpa using hb
      refine TW.seq ?_
      refine TW.region ?_
      refine LW.v (r_mv) ?_
      refine LW.v (r_mv) ?_
      refine LW.v (r_mv) ?_
      refine LW.v (r_bin) ?_
      refine LW.c r_c2 ((const_at p D (IntKind.u32.wrap (up i + pc)) hc (by omega) H).mono ?_)
      rintro _ w ⟨rfl, c', hc', H⟩
      refine ⟨_, rfl, ?_⟩
      refine LW.v (r_as) ?_
      refine LW.nil ?_
      refine TW.ret (ret1 (by rfl) rT ?_)
      exact ⟨by simp only [oneF, if_neg h0, if_pos h1]; rfl, c', by simp only [oneF, if_neg h0, if_pos h1]; exact hc', H.drop.drop⟩
    · have h1 : ¬ i.op = 1 := by simpa using hb
      refine TW.skip <| TW.inBlock <| TW.seq ?_
      refine TW.draw [(0, some 0), (1, some 0), (2, some 0), (3, some 0), (4, some 0), (5, some 0), (6, some 0), (7, some 0)] [] hmix (by kernel_rfl) (fun _ _ _ _ _ h => h) H (fun m w => (m = 0 → Hp _ _ w _)) (fun _ h _ => h) ?_
      intro w H
      refine DW.v (by rfl) (Quiet.y (fun _ _ => r_fa)) ?_
      refine DW.hm (by rfl) (Quiet.y (fun _ h => r_ld (h rfl))) ?_
      refine DW.v (by rfl) (Quiet.y (fun _ _ => r_fa)) ?_
      refine DW.hm (by rfl) (Quiet.y (fun _ h => r_ld (h rfl))) ?_
      refine DW.v (by rfl) (Quiet.y (fun _ _ => r_iaA (h0 := hr2.1) (h1 := by have := hr2.2; omega))) ?_
      refine DW.hm (by rfl) (Quiet.y (fun _ h => r_ldc (cellI (g := g5) (h rfl) hx2.1))) ?_
      refine DW.v (by rfl) (Quiet.y (fun _ _ => r_as)) ?_
      refine DW.v (by rfl) (Quiet.y (fun _ _ => r_as)) ?_
      refine DW.nil (fun _ => ?_)
      refine TW.seq <| TW.seq ?_
      refine TW.region ?_
      refine LW.v (r_fa) ?_
      refine LW.v (r_ld H) ?_
      refine LW.c r_c1 ((iplain_spec _ _ _ _ i.op H).mono ?_)
      rintro _ w ⟨rfl, H⟩
      refine ⟨_, rfl, ?_⟩
      refine LW.v (r_mv) ?_
      refine LW.v (r_ext) ?_
      refine LW.v (r_ext) ?_
      refine LW.v (r_as) ?_
      refine LW.v (r_as) ?_
      refine LW.nil ?_
      refine TW.seq ?_
      refine TW.region ?_
      refine LW.v (r_mv) ?_
      refine LW.nil ?_
      refine TW.c rfl (fun hb => ?_) (fun hb => ?_)
      · refine TW.region ?_
        refine LW.v (r_mv) ?_
        refine LW.v (r_mv) ?_
        refine LW.v (r_fa) ?_
        refine LW.v (r_ld H) ?_
        refine LW.v (r_cv) ?_
        refine LW.c r_c2 ((const_at p D (IntKind.u32.wrap i.imm) hc (by omega) H).mono ?_)
        rintro _ w ⟨rfl, c1, hc1, H⟩
        refine ⟨_, rfl, ?_⟩
        have hk1 := hk.addK (w := IntKind.u32.wrap i.imm) (u32_rng _)
        have hp : (WhI.plain i.op).2 = true := hb
        refine LW.v (r_as) ?_
        refine LW.v (r_as) ?_
        refine LW.nil ?_
        refine TW.seq ?_
        refine TW.region ?_
        refine LW.v (r_mv) ?_
        refine LW.v (r_mv) ?_
        refine LW.v (r_fa) ?_
        refine LW.v (r_ld H) ?_
        refine LW.v (r_iaA (h0 := hr1.1) (h1 := by have := hr1.2; omega)) ?_
        refine LW.v (r_ldc (cellI (g := g5) H hx1.1)) ?_
        refine LW.v (r_mv) ?_
        refine LW.c r_c4 ((simpop_spec hB hG hM hc1 hk1.wf hk1.rng hk1.ch (hk1.reg hr1.1 hr1.2).2 (addT_in D _).1 (plain_isOp hp) (by unfold K at hl2; omega) H).mono ?_)
        rintro _ w ⟨rfl, c', hc', H⟩
        refine ⟨_, rfl, ?_⟩
        refine LW.v (r_mv) ?_
        refine LW.v (r_ext) ?_
        refine LW.v (r_ext) ?_
        refine LW.v (r_as) ?_
        refine LW.v (r_as) ?_
        refine LW.nil ?_
        refine TW.seq ?_
        refine TW.region ?_
        refine LW.v (r_mv) ?_
        refine LW.v (r_as) ?_
        refine LW.nil ?_
        refine TW.ret (ret1 (by rfl) rT ?_)
        exact ⟨by simp only [oneF, if_neg h0, if_neg h1, if_pos hp]; rfl, c', by simp only [oneF, if_neg h0, if_neg h1, if_pos hp]; exact hc', H.drop.drop⟩
      · have hp : (WhI.plain i.op).2 = false := hb
        have hp' : ¬ (WhI.plain i.op).2 = true := by rw [hp]; exact Bool.noConfusion
        refine TW.skip <| TW.seq ?_
        refine TW.region ?_
        refine LW.v (r_mv) ?_
        refine LW.v (r_mv) ?_
        refine LW.v (r_fa) ?_
        refine LW.v (r_ld H) ?_
        refine LW.v (r_iaA (h0 := hr1.1) (h1 := by have := hr1.2; omega)) ?_
        refine LW.v (r_ldc (cellI (g := g5) H hx1.1)) ?_
        refine LW.v (r_mv) ?_
        refine LW.c r_c4 ((simpop_spec hB hG hM hc hk.wf hk.rng hk.ch hx1.2 hx2.2 (lplain_op hi h0 h1 hp) (by omega) H).mono ?_)
        rintro _ w ⟨rfl, c', hc', H⟩
        refine ⟨_, rfl, ?_⟩
        refine LW.v (r_mv) ?_
        refine LW.v (r_ext) ?_
        refine LW.v (r_ext) ?_
        refine LW.v (r_as) ?_
        refine LW.v (r_as) ?_
        refine LW.nil ?_
        refine TW.seq ?_
        refine TW.region ?_
        refine LW.v (r_mv) ?_
        refine LW.v (r_as) ?_
        refine LW.nil ?_
        refine TW.ret (ret1 (by rfl) rT ?_)
        exact ⟨by first | (simp only [oneF, if_neg h0, if_neg h1, if_neg hp']; done) | (simp only [oneF, if_neg h0, if_neg h1, if_neg hp']; rfl), c', by simp only [oneF, if_neg h0, if_neg h1, if_neg hp']; exact hc', H.drop.drop⟩
theorem start_spec {B : Nat} {w0 w : World} {L : List Ck} {p : Nat} {D : List T} {c : Ck} (hc : DagC p D c) (hlen : D.length + 40 < 1073741824) (H : Hp B w0 w (c :: L)) :
    Calls Tryz.prog 30 #[.pointer (some ⟨p, 0, none⟩)] w fun e w' => e = .returned (.agg (vI (startN D 32).1)) ∧ ∃ c', DagC p (startN D 32).2 c' ∧ Hp B w0 w' (c' :: L) := by
  refine calls_go Tryz.func30 Tryz.ntmps30 rfl rfl ?_
  refine TW.seq ?_
  refine TW.region ?_
  refine LW.new (r_al H) ?_; intro g2 w H
  refine LW.nil ?_
  refine TW.seq ?_
  refine TW.region ?_
  refine LW.new (r_al H) ?_; intro g3 w H
  refine LW.nil ?_
  refine TW.seq <| TW.seq ?_
  refine TW.region ?_
  refine LW.v (r_mv) ?_
  refine LW.nil ?_
  refine TW.block ?_
  have H : Hp B w0 w (Blk g3 32 (vI (startX D 0)) :: Blk g2 32 (vI (List.replicate 32 0)) :: c :: L) := H
  refine TW.lp (σ := Nat) (fun i w' => i ≤ 32 ∧ ∃ c', DagC p (startN D i).2 c' ∧ Hp B w0 w' (Blk g3 32 (vI (startX D i)) :: Blk g2 32 (vI (List.replicate 32 0)) :: c' :: L)) (fun i => [(0, .pointer (some ⟨p, 0, none⟩)), (2, .pointer (some ⟨g2, 0, none⟩)), (3, .pointer (some ⟨g3, 0, none⟩)), (5, .int .i64 (i : Int))]) (fun i => 32 - i) (0) (⟨by omega, c, hc, H⟩) (⟨rfl, rfl, rfl, rfl, trivial⟩) ?_
  rintro i f w ⟨hi, c, hc, H⟩ again
  refine TW.seq ?_
  refine TW.region ?_
  refine LW.v (r_bin) ?_
  refine LW.nil ?_
  refine TW.seq ?_
  refine TW.c rfl (fun hb => ?_) (fun hb => ?_)
  · have hi3 : (i : Int) < 32 := by simpa using hb
    have hi2 : i < 32 := by omega
    have hdl := startN_dlen D i
    refine TW.skip <| TW.seq <| TW.block <| TW.seq ?_
    refine TW.region ?_
    refine LW.v (r_mv) ?_
    refine LW.v (r_as) ?_
    refine LW.nil ?_
    refine TW.region ?_
    refine LW.v (r_mv) ?_
    refine LW.v (r_mv) ?_
    refine LW.v (r_mv) ?_
    refine LW.c r_c2 ((var_at p (startN D i).2 i hc (by omega) H).mono ?_)
    rintro _ w ⟨rfl, c', hc', H⟩
    refine ⟨_, rfl, ?_⟩
    refine LW.v (r_mv) ?_
    refine LW.v (r_ext) ?_
    refine LW.v (r_ext) ?_
    refine LW.v (r_iaA (h0 := by omega) (h1 := by omega)) ?_
    refine LW.sto (r_stI (k := i) H (by rw [startX_len D hi]; omega)) ?_; intro w H
    refine LW.nil ?_
    rw [startX_set D hi2] at H
    refine TW.inBlock ?_
    refine TW.region ?_
    first | refine LW.v (r_add (hk := w64 (by omega) (by omega))) ?_ | refine LW.v (r_bin) ?_
    refine LW.v (r_mv) ?_
    refine LW.nil ?_
    exact again (i + 1) _ _ ⟨by omega, c', hc', H⟩ ⟨rfl, rfl, rfl, rfl, trivial⟩ (by omega)
  · have hi3 : ¬ (i : Int) < 32 := by simpa using hb
    obtain rfl : i = 32 := by omega
    rw [startX_end] at H
    refine TW.exit rfl <| TW.seq ?_
    refine TW.region ?_
    refine LW.v (r_ldW H (hp := by rw [vI_size, startN_len])) ?_
    refine LW.sto (r_stW H (vs := vI (startN D 32).1) (h1 := vI_one _) (hs := by rw [vI_size, startN_len])) ?_; intro w H
    refine LW.nil ?_
    refine TW.ret (ret1 (by rfl) (rC H (hp := by rw [vI_size, startN_len])) ?_)
    exact ⟨rfl, c, hc, H.drop.drop⟩
theorem oddv_spec (B : Nat) (w0 w : World) (L : List Ck) (x : X) (H : Hp B w0 w L) : Calls Tryz.prog 29 #[x.val] w fun e w' => e = .returned (.bool (!WhI.lplain x)) ∧ Hp B w0 w' L := odd_spec B w0 w L x H
def RowL (B : Nat) (w0 : World) (L : List Ck) (a : Option Addr) (l : List X) : Prop := l = [] ∨ ∃ a', a = some a' ∧ ∀ w', Hp B w0 w' L → RowAt w' a' (rowOf X.val l)
theorem index_spec {B : Nat} {w0 w : World} {L : List Ck} {a : Option Addr} {cap : Nat} {l : List X} (hr : RowL B w0 L a l) (hl : l.length < 1073741824) (H : Hp B w0 w L) :
    Calls Tryz.prog 61 #[.slice a l.length cap, .func (.func 29) #[] #[]] w fun e w' => ∃ r : Int, e = .returned (.int .i64 r) ∧ decide (r ≥ 0) = !l.all WhI.lplain ∧ Hp B w0 w' L := by
  refine calls_go Tryz.func61 Tryz.ntmps61 rfl rfl ?_
  refine TW.seq ?_
  refine TW.region ?_
  refine LW.v (r_as) ?_
  refine LW.nil ?_
  refine TW.seq <| TW.seq ?_
  refine TW.region ?_
  refine LW.v (r_mv) ?_
  refine LW.v (r_len) ?_
  refine LW.v (r_mv) ?_
  refine LW.nil ?_
  refine TW.block ?_
  refine TW.lp (σ := Nat) (fun i w' => i ≤ l.length ∧ (∀ x ∈ l.take i, WhI.lplain x = true) ∧ Hp B w0 w' L) (fun i => [(0, .slice a l.length cap), (1, .func (.func 29) #[] #[]), (7, .int .i64 l.length), (8, .int .i64 (i : Int))]) (fun i => l.length - i) (0) (⟨by omega, by simp, H⟩) (⟨rfl, rfl, rfl, rfl, trivial⟩) ?_
  rintro i f w ⟨hi, hall, H⟩ again
  refine TW.seq ?_
  refine TW.region ?_
  refine LW.v (r_bin) ?_
  refine LW.nil ?_
  refine TW.seq ?_
  refine TW.c rfl (fun hb => ?_) (fun hb => ?_)
  · have hi2 : i < l.length := by simpa using hb
    have hg : l[i]? = some l[i] := List.getElem?_eq_getElem hi2
    obtain ⟨a', rfl, hrow⟩ := hr.resolve_left (fun e => by subst e; simp at hi2)
    refine TW.skip <| TW.seq <| TW.block <| TW.seq ?_
    refine TW.region ?_
    refine LW.v (r_mv) ?_
    refine LW.v (r_as) ?_
    refine LW.nil ?_
    refine TW.seq ?_
    refine TW.region ?_
    refine LW.v (r_mv) ?_
    refine LW.v (r_mv) ?_
    refine LW.v (r_mv) ?_
    refine LW.v (r_iaS (h0 := by omega) (h1 := by omega)) ?_
    refine LW.v (r_ldR (i := i) (hrow _ H) hg (fun _ => rfl) (size := 5)) ?_
    refine LW.c r_k1 ((oddv_spec _ _ _ _ l[i] H).mono ?_)
    rintro _ w ⟨rfl, H⟩
    refine ⟨_, rfl, ?_⟩
    refine LW.nil ?_
    refine TW.c rfl (fun hb => ?_) (fun hb => ?_)
    · refine TW.seq ?_
      refine TW.region ?_
      refine LW.v (r_mv) ?_
      refine LW.v (r_as) ?_
      refine LW.nil ?_
      refine TW.ret (ret1 (by rfl) rT ?_)
      have he : WhI.lplain l[i] = false := by simpa using hb
      refine ⟨(i : Int), rfl, ?_, H⟩
      have h1 : l.all WhI.lplain = false := by
        rw [List.all_eq_false]
        exact ⟨l[i], List.getElem_mem hi2, by rw [he]; simp⟩
      rw [h1]
      simp
    · refine TW.skip <| TW.inBlock ?_
      refine TW.region ?_
      first | refine LW.v (r_add (hk := w64 (by omega) (by omega))) ?_ | refine LW.v (r_bin) ?_
      refine LW.v (r_mv) ?_
      refine LW.nil ?_
      have he : WhI.lplain l[i] = true := by simpa using hb
      refine again (i + 1) _ _ ⟨by omega, ?_, H⟩ ⟨rfl, rfl, rfl, rfl, trivial⟩ (by omega)
      intro x hx
      rw [List.take_add_one, hg] at hx
      simp only [Option.toList_some, List.mem_append, List.mem_singleton] at hx
      rcases hx with hx | rfl
      · exact hall x hx
      · exact he
  · refine TW.exit rfl <| TW.seq ?_
    refine TW.region ?_
    refine LW.v (r_as) ?_
    refine LW.nil ?_
    refine TW.ret (ret1 (by rfl) rT ?_)
    have hi2 : ¬ i < l.length := by simpa using hb
    have e : l.take i = l := List.take_of_length_le (by omega)
    rw [e] at hall
    refine ⟨-1, rfl, ?_, H⟩
    have h1 : l.all WhI.lplain = true := by rw [List.all_eq_true]; exact hall
    rw [h1]
    rfl
theorem contains_spec {B : Nat} {w0 w : World} {L : List Ck} {a : Option Addr} {cap : Nat} {l : List X} (hr : RowL B w0 L a l) (hl : l.length < 1073741824) (H : Hp B w0 w L) :
    Calls Tryz.prog 28 #[.slice a l.length cap, .func (.func 29) #[] #[]] w fun e w' => e = .returned (.bool (!l.all WhI.lplain)) ∧ Hp B w0 w' L := by
  refine calls_go Tryz.func28 Tryz.ntmps28 rfl rfl ?_
  refine TW.seq ?_
  refine TW.region ?_
  refine LW.v (r_as) ?_
  refine LW.nil ?_
  refine TW.seq ?_
  refine TW.region ?_
  refine LW.v (r_mv) ?_
  refine LW.v (r_mv) ?_
  refine LW.c r_c2 ((index_spec hr hl H).mono ?_)
  rintro _ w ⟨r, rfl, hd, H⟩
  refine ⟨_, rfl, ?_⟩
  refine LW.v (r_bin) ?_
  refine LW.v (r_as) ?_
  refine LW.nil ?_
  refine TW.ret (ret1 (by rfl) rT ?_)
  exact ⟨by rw [← hd], H⟩
theorem RowL.cons {B : Nat} {w0 : World} {L : List Ck} {a : Option Addr} {l : List X} (h : RowL B w0 L a l) (c : Ck) : RowL B w0 (c :: L) a l := by
  rcases h with h | ⟨a', h1, h2⟩
  · exact .inl h
  · exact .inr ⟨a', h1, fun w' H' => h2 w' H'.drop⟩
theorem one_at {B : Nat} {w0 w : World} {Ls : List Ck} {p : Nat} {D : List T} {c : Ck} {mk' : Ck → List Ck} {M : Nat} {xs : List Int} {i : X} {pc : Int} (hB : 0 < B) (hG : RowAt w0 ⟨0, 0, none⟩ tabV) (hM : M ≤ 200) (hc : DagC p D c) (hk : Ok D M xs) (hi : WhI.lplain i = true) (hlen : D.length + 501 < 1073741824) (H : Hp B w0 w Ls) (hb : HasC Ls c mk' := by infer_instance) :
    Calls Tryz.prog 35 #[.pointer (some ⟨p, 0, none⟩), .agg (vI xs), i.val, .int .u32 pc] w fun e w' => e = .returned (.int .i64 (oneF D xs i pc).1) ∧ ∃ c', DagC p (oneF D xs i pc).2 c' ∧ Hp B w0 w' (mk' c') := by
  obtain ⟨R, H1, back⟩ := H.pick (h := hb)
  exact (one_spec hB hG hM hc hk hi hlen H1).mono fun e w' ⟨h1, c', h2, h3⟩ => ⟨h1, c', h2, back _ _ h3⟩
theorem from_spec {B : Nat} {w0 w : World} {L : List Ck} {p : Nat} {D : List T} {c : Ck} {M : Nat} {xs : List Int} {l : List X} {pc : Int} {a : Option Addr} {cap : Nat} (hB : 0 < B) (hG : RowAt w0 ⟨0, 0, none⟩ tabV) (hM : M + l.length ≤ 200) (hc : DagC p D c) (hD : Wf D) (hg : Rng D) (hch : ChAll D M) (hx : xs.length = 32) (hlen : D.length < 1000000) (hr : RowL B w0 L a l) (H : Hp B w0 w (c :: L)) :
    Calls Tryz.prog 13 #[.pointer (some ⟨p, 0, none⟩), .agg (vI xs), .slice a l.length cap, .int .u32 pc] w fun e w' => e = .returned (.tuple #[.agg (vI (fromF D xs l pc).1), .int .i64 (fromF D xs l pc).2.1]) ∧ ∃ c', DagC p (fromF D xs l pc).2.2 c' ∧ Hp B w0 w' (c' :: L) := by
  refine calls_go Tryz.func13 Tryz.ntmps13 rfl rfl ?_
  refine TW.seq ?_
  refine TW.region ?_
  refine LW.new (r_box H) ?_; intro g5 w H
  refine LW.new (r_al H) ?_; intro g8 w H
  refine LW.v (r_as) ?_
  refine LW.nil ?_
  refine TW.seq <| TW.seq ?_
  refine TW.region ?_
  have H : Hp B w0 w (Blk g8 32 (vI (List.replicate 32 0)) :: Blk g5 32 (vI xs) :: c :: L) := H
  refine LW.v (r_ldW H (hp := by rw [vI_size, hx])) ?_
  refine LW.v (r_mv) ?_
  refine LW.nil ?_
  refine TW.block ?_
  refine TW.lp (σ := Nat) (fun i w' => i ≤ 32 ∧ (∀ n ∈ xs.take i, In D n) ∧ Hp B w0 w' (Blk g8 32 (vI (List.replicate 32 0)) :: Blk g5 32 (vI xs) :: c :: L)) (fun i => [(0, .pointer (some ⟨p, 0, none⟩)), (2, .slice a l.length cap), (3, .int .u32 pc), (5, .pointer (some ⟨g5, 0, none⟩)), (8, .pointer (some ⟨g8, 0, none⟩)), (17, .agg (vI xs)), (18, .int .i64 (i : Int))]) (fun i => 32 - i) (0) (⟨by omega, by simp, H⟩) (⟨rfl, rfl, rfl, rfl, rfl, rfl, rfl, trivial⟩) ?_
  rintro i f w ⟨hi, hin, H⟩ again
  refine TW.seq ?_
  refine TW.region ?_
  refine LW.v (r_bin) ?_
  refine LW.nil ?_
  refine TW.seq ?_
  refine TW.c rfl (fun hb => ?_) (fun hb => ?_)
  · have hi3 : (i : Int) < 32 := by simpa using hb
    have hi2 : i < 32 := by omega
    have hgx : xs[i]? = some xs[i] := List.getElem?_eq_getElem (by omega)
    refine TW.skip <| TW.seq <| TW.block <| TW.seq ?_
    refine TW.region ?_
    refine LW.v (r_ix (h0 := by omega) (h1 := by omega) (hv := by rw [Nat.mul_one]; exact vI_at hgx)) ?_
    refine LW.v (r_as) ?_
    refine LW.nil ?_
    refine TW.seq ?_
    refine TW.region ?_
    refine LW.v (r_mv) ?_
    refine LW.v (r_mv) ?_
    refine LW.c r_c2 ((node_at p D xs[i] hc H).mono ?_)
    rintro _ w ⟨rfl, H⟩
    refine ⟨_, rfl, ?_⟩
    refine LW.v (r_mv) ?_
    refine LW.v (r_ext) ?_
    refine LW.v (r_ext) ?_
    refine LW.new (r_al H) ?_; intro g12 w H
    refine LW.sto (r_stW H) ?_; intro w H
    refine LW.v (r_as) ?_
    refine LW.nil ?_
    refine TW.seq ?_
    refine TW.region ?_
    refine LW.v (r_mv) ?_
    refine LW.v (r_bin) ?_
    refine LW.nil ?_
    refine TW.c rfl (fun hb => ?_) (fun hb => ?_)
    · have hne : ¬ (WhD.node D xs[i]).2 = 0 := by simpa using hb
      have hni : WhD.is D xs[i] = false := by
        cases h : WhD.is D xs[i] with
        | false => rfl
        | true => exact absurd (by simp [WhD.node, h]) hne
      have hall : xs.all (WhD.is D) = false := by
        rw [List.all_eq_false]
        exact ⟨xs[i], List.getElem_mem (by omega), by rw [hni]; simp⟩
      have e100 : (WhD.node D xs[i]).2 = 100 := by simp [WhD.node, hni]
      refine TW.seq ?_
      refine TW.region ?_
      refine LW.v (r_b0) ?_
      refine LW.v (r_mv) ?_
      refine LW.sto (r_stW H (vs := vI (List.replicate 32 0)) (hy := rfl) (h1 := vI_one _)) ?_; intro w H
      refine LW.v (r_as) ?_
      refine LW.nil ?_
      refine TW.ret (ret2 (by rfl) (rC H) rT ?_)
      exact ⟨by simp only [fromF, hall, Bool.not_false, if_true]; rw [e100], c, by simp only [fromF, hall, Bool.not_false, if_true]; exact hc, H.drop.drop.drop⟩
    · have hne : (WhD.node D xs[i]).2 = 0 := by simpa using hb
      have hni : WhD.is D xs[i] = true := by
        cases h : WhD.is D xs[i] with
        | true => rfl
        | false => simp [WhD.node, h] at hne
      have hi5 : In D xs[i] := by unfold In; simpa [WhD.is] using hni
      refine TW.skip <| TW.inBlock ?_
      refine TW.region ?_
      first | refine LW.v (r_add (hk := w64 (by omega) (by omega))) ?_ | refine LW.v (r_bin) ?_
      refine LW.v (r_mv) ?_
      refine LW.nil ?_
      refine again (i + 1) _ _ ⟨by omega, ?_, H.drop⟩ ⟨rfl, rfl, rfl, rfl, rfl, rfl, rfl, trivial⟩ (by omega)
      intro n hn
      rw [List.take_add_one, hgx] at hn
      simp only [Option.toList_some, List.mem_append, List.mem_singleton] at hn
      rcases hn with hn | rfl
      · exact hin n hn
      · exact hi5
  · have hi3 : ¬ (i : Int) < 32 := by simpa using hb
    have e : xs.take i = xs := List.take_of_length_le (by omega)
    rw [e] at hin
    have hall : xs.all (WhD.is D) = true := by rw [List.all_eq_true]; exact fun n hn => (hin n hn).is
    have hok : Ok D M xs := ⟨hD, hg, hch, hx, hin⟩
    refine TW.exit rfl <| TW.seq <| TW.seq ?_
    refine TW.region ?_
    refine LW.v (r_mv) ?_
    refine LW.c r_c2 ((contains_spec ((hr.cons c).cons _ |>.cons _) (by omega) H).mono ?_)
    rintro _ w ⟨rfl, H⟩
    refine ⟨_, rfl, ?_⟩
    refine LW.nil ?_
    refine TW.c rfl (fun hb => ?_) (fun hb => ?_)
    · have hp : l.all WhI.lplain = false := by simpa using hb
      refine TW.seq ?_
      refine TW.region ?_
      refine LW.v (r_b0) ?_
      refine LW.sto (r_stW H (vs := vI (List.replicate 32 0)) (hy := rfl) (h1 := vI_one _)) ?_; intro w H
      refine LW.v (r_as) ?_
      refine LW.nil ?_
      refine TW.ret (ret2 (by rfl) (rC H) rT ?_)
      exact ⟨by simp only [fromF, hall, hp, Bool.not_true, Bool.not_false, Bool.false_eq_true, if_true, if_false], c, by simp only [fromF, hall, hp, Bool.not_true, Bool.not_false, Bool.false_eq_true, if_true, if_false]; exact hc, H.drop.drop⟩
    · have hp : l.all WhI.lplain = true := by simpa using hb
      have ef : fromF D xs l pc = ((runF l D xs pc).2.1, 0, (runF l D xs pc).1) := by simp only [fromF, hall, hp, Bool.not_true, Bool.false_eq_true, if_false]
      rw [ef]
      have hpre : ∀ j, j ≤ l.length → Ok (runF (l.take j) D xs pc).1 (M + j) (runF (l.take j) D xs pc).2.1 ∧ (runF (l.take j) D xs pc).1.length ≤ D.length + 500 * j := by
        intro j hj
        have hl : (l.take j).length = j := by simp; omega
        have := runF_ok (M := M) (l.take j) D xs pc (by omega) hok (by rw [List.all_eq_true] at hp ⊢; exact fun x hx => hp x (List.mem_of_mem_take hx))
        rw [hl] at this
        exact ⟨this.1, this.2.1⟩
      refine TW.skip <| TW.seq <| TW.seq ?_
      refine TW.region ?_
      refine LW.v (r_mv) ?_
      refine LW.v (r_len) ?_
      refine LW.v (r_mv) ?_
      refine LW.nil ?_
      refine TW.block ?_
      refine TW.lp (σ := Nat) (fun j w' => j ≤ l.length ∧ ∃ c', DagC p (runF (l.take j) D xs pc).1 c' ∧ Hp B w0 w' (Blk g8 32 (vI (List.replicate 32 0)) :: Blk g5 32 (vI (runF (l.take j) D xs pc).2.1) :: c' :: L)) (fun j => [(0, .pointer (some ⟨p, 0, none⟩)), (2, .slice a l.length cap), (3, .int .u32 (runF (l.take j) D xs pc).2.2), (5, .pointer (some ⟨g5, 0, none⟩)), (8, .pointer (some ⟨g8, 0, none⟩)), (35, .slice a l.length cap), (36, .int .i64 l.length), (37, .int .i64 (j : Int))]) (fun j => l.length - j) (0) (⟨by omega, c, hc, H⟩) (⟨rfl, rfl, rfl, rfl, rfl, rfl, rfl, rfl, trivial⟩) ?_
      rintro j f w ⟨hj, c, hc, H⟩ again
      refine TW.seq ?_
      refine TW.region ?_
      refine LW.v (r_bin) ?_
      refine LW.nil ?_
      refine TW.seq ?_
      refine TW.c rfl (fun hb => ?_) (fun hb => ?_)
      · have hj2 : j < l.length := by simpa using hb
        have hgl : l[j]? = some l[j] := List.getElem?_eq_getElem hj2
        obtain ⟨hkj, hlj⟩ := hpre j hj
        have hpj : WhI.lplain l[j] = true := (List.all_eq_true.1 hp) _ (List.getElem_mem _)
        obtain ⟨hrd, _, _⟩ := lplain_regs hpj
        obtain ⟨a', rfl, hrow⟩ := hr.resolve_left (fun e => by subst e; simp at hj2)
        have es := runF_take l D xs pc hgl
        refine TW.skip <| TW.seq <| TW.block <| TW.seq ?_
        refine TW.region ?_
        refine LW.v (r_iaS (h0 := by omega) (h1 := by omega)) ?_
        refine LW.v (r_ldR (i := j) (hrow _ H.drop.drop.drop) hgl (fun _ => rfl) (size := 5)) ?_
        refine LW.new (r_al H) ?_; intro g15 w H
        refine LW.sto (r_stW H) ?_; intro w H
        refine LW.nil ?_
        refine TW.seq ?_
        refine TW.region ?_
        refine LW.v (r_mv) ?_
        refine LW.v (r_ldW H (hp := by rw [vI_size, hkj.len])) ?_
        refine LW.v (r_ldW H) ?_
        refine LW.v (r_mv) ?_
        refine LW.c r_c4 ((one_at hB hG (by omega) hc hkj hpj (by omega) H).mono ?_)
        rintro _ w ⟨rfl, c', hc', H⟩
        refine ⟨_, rfl, ?_⟩
        refine LW.v (r_as) ?_
        refine LW.nil ?_
        refine TW.seq <| TW.seq ?_
        refine TW.region ?_
        refine LW.v (r_fa) ?_
        refine LW.v (r_ld H) ?_
        refine LW.v (r_bin) ?_
        refine LW.nil ?_
        refine TW.c rfl (fun hb => ?_) (fun hb => ?_)
        · have hd : ¬ l[j].rd = 0 := by simpa using hb
          refine TW.region ?_
          refine LW.v (r_fa) ?_
          refine LW.v (r_ld H) ?_
          refine LW.v (r_mv) ?_
          refine LW.v (r_iaA (h0 := hrd.1) (h1 := by have := hrd.2; omega)) ?_
          refine LW.sto (r_stI (k := l[j].rd.toNat) H (by rw [hkj.len]; omega)) ?_; intro w H
          refine LW.nil ?_
          refine TW.region ?_
          refine LW.v (r_mv) ?_
          refine LW.v (r_bin) ?_
          refine LW.v (r_as) ?_
          refine LW.nil ?_
          refine TW.inBlock ?_
          refine TW.region ?_
          first | refine LW.v (r_add (hk := w64 (by omega) (by omega))) ?_ | refine LW.v (r_bin) ?_
          refine LW.v (r_mv) ?_
          refine LW.nil ?_
          refine again (j + 1) _ _ ⟨by omega, c', by rw [es]; exact hc', ?_⟩ ⟨rfl, rfl, by rw [es]; rfl, rfl, rfl, rfl, rfl, rfl, trivial⟩ (by omega)
          rw [es]
          simp only [stepF, setF, if_neg hd]
          exact H.drop
        · have hd : l[j].rd = 0 := by simpa using hb
          refine TW.skip ?_
          refine TW.region ?_
          refine LW.v (r_mv) ?_
          refine LW.v (r_bin) ?_
          refine LW.v (r_as) ?_
          refine LW.nil ?_
          refine TW.inBlock ?_
          refine TW.region ?_
          first | refine LW.v (r_add (hk := w64 (by omega) (by omega))) ?_ | refine LW.v (r_bin) ?_
          refine LW.v (r_mv) ?_
          refine LW.nil ?_
          refine again (j + 1) _ _ ⟨by omega, c', by rw [es]; exact hc', ?_⟩ ⟨rfl, rfl, by rw [es]; rfl, rfl, rfl, rfl, rfl, rfl, trivial⟩ (by omega)
          rw [es]
          simp only [stepF, setF, if_pos hd]
          exact H.drop
      · have hj2 : ¬ j < l.length := by simpa using hb
        have e2 : l.take j = l := List.take_of_length_le (by omega)
        have hkj := (hpre j hj).1
        rw [e2] at H hc hkj
        refine TW.exit rfl <| TW.seq ?_
        refine TW.region ?_
        refine LW.v (r_ldW H (hp := by rw [vI_size, hkj.len])) ?_
        refine LW.sto (r_stW H (vs := vI (runF l D xs pc).2.1) (h1 := vI_one _) (hs := by rw [vI_size, hkj.len])) ?_; intro w H
        refine LW.v (r_as) ?_
        refine LW.nil ?_
        refine TW.ret (ret2 (by rfl) (rC H (hp := by rw [vI_size, hkj.len])) rT ?_)
        exact ⟨rfl, c, hc, H.drop.drop⟩
theorem block_spec {B : Nat} {w0 w : World} {L : List Ck} {p : Nat} {D : List T} {c : Ck} {M : Nat} {l : List X} {pc : Int} {a : Option Addr} {cap : Nat} (hB : 0 < B) (hG : RowAt w0 ⟨0, 0, none⟩ tabV) (hM : M + l.length ≤ 200) (hc : DagC p D c) (hD : Wf D) (hg : Rng D) (hch : ChAll D M) (hlen : D.length < 900000) (hr : RowL B w0 L a l) (H : Hp B w0 w (c :: L)) :
    Calls Tryz.prog 9 #[.pointer (some ⟨p, 0, none⟩), .slice a l.length cap, .int .u32 pc] w fun e w' => e = .returned (.tuple #[.agg (vI (blockF D l pc).1), .int .i64 (blockF D l pc).2.1]) ∧ ∃ c', DagC p (blockF D l pc).2.2 c' ∧ Hp B w0 w' (c' :: L) := by
  refine calls_go Tryz.func9 Tryz.ntmps9 rfl rfl ?_
  refine TW.seq ?_
  refine TW.region ?_
  refine LW.new (r_al H) ?_; intro g6 w H
  refine LW.v (r_as) ?_
  refine LW.nil ?_
  refine TW.seq <| TW.seq ?_
  refine TW.region ?_
  refine LW.v (r_mv) ?_
  have H : Hp B w0 w (Blk g6 32 (vI (List.replicate 32 0)) :: c :: L) := H
  refine LW.c r_c2 ((contains_spec ((hr.cons c).cons _) (by omega) H).mono ?_)
  rintro _ w ⟨rfl, H⟩
  refine ⟨_, rfl, ?_⟩
  refine LW.nil ?_
  refine TW.c rfl (fun hb => ?_) (fun hb => ?_)
  · have hp : l.all WhI.lplain = false := by simpa using hb
    refine TW.seq ?_
    refine TW.region ?_
    refine LW.v (r_b0) ?_
    refine LW.sto (r_stW H (vs := vI (List.replicate 32 0)) (hy := rfl) (h1 := vI_one _)) ?_; intro w H
    refine LW.v (r_as) ?_
    refine LW.nil ?_
    refine TW.ret (ret2 (by rfl) (rC H) rT ?_)
    exact ⟨by simp only [blockF, hp, Bool.not_false, if_true], c, by simp only [blockF, hp, Bool.not_false, if_true]; exact hc, H.drop⟩
  · have hp : l.all WhI.lplain = true := by simpa using hb
    have eb : blockF D l pc = fromF (startN D 32).2 (startN D 32).1 l pc := by simp only [blockF, hp, Bool.not_true, Bool.false_eq_true, if_false]
    rw [eb]
    have hk := start_ok hD hg hch
    have hdl := startN_dlen D 32
    have hln : (fromF (startN D 32).2 (startN D 32).1 l pc).1.length = 32 := by
      unfold fromF
      have hall : (startN D 32).1.all (WhD.is (startN D 32).2) = true := by rw [List.all_eq_true]; exact fun n hn => (hk.inn n hn).is
      simp only [hall, hp, Bool.not_true, Bool.false_eq_true, if_false]
      exact (runF_ok l _ _ pc hM hk hp).1.len
    refine TW.skip <| TW.seq ?_
    refine TW.region ?_
    refine LW.v (r_mv) ?_
    refine LW.v (r_mv) ?_
    refine LW.c r_c1 ((start_spec hc (by omega) H.swap).mono ?_)
    rintro _ w ⟨rfl, c1, hc1, H⟩
    refine ⟨_, rfl, ?_⟩
    refine LW.v (r_mv) ?_
    refine LW.v (r_mv) ?_
    refine LW.c r_c4 ((from_spec hB hG hM hc1 hk.wf hk.rng hk.ch hk.len (by omega) (hr.cons _) H).mono ?_)
    rintro _ w ⟨rfl, c2, hc2, H⟩
    refine ⟨_, rfl, ?_⟩
    refine LW.v (r_ext) ?_
    refine LW.v (r_ext) ?_
    refine LW.sto (r_stW H (vs := vI (fromF (startN D 32).2 (startN D 32).1 l pc).1) (hy := rfl) (h1 := vI_one _) (hs := by rw [vI_size, hln])) ?_; intro w H
    refine LW.v (r_as) ?_
    refine LW.nil ?_
    refine TW.ret (ret2 (by rfl) (rC H (hp := by rw [vI_size, hln])) rT ?_)
    exact ⟨rfl, c2, hc2, H.dropAt 1⟩
end Wh
