/- lift of the document, plainly. -/
import Derived.Test.YtjdckpeoinkafaaGreatDoorCp
import Derived.Test.YtjdckpeoinkafaaGreatDoorRmade
import Derived.Test.YtjdckpeoinkafaaGreatDoorRo
import Derived.Test.YtjdckpeoinkafaaGreatDoorFx
import Derived.Test.YtjdckpeoinkafaaGreatDoorFwQ
import Derived.Test.YtjdckpeoinkafaaGreatDoorSimp
set_option linter.all false
namespace Wh.WhL
open Go WhS WhC
def rlplain (x : X) : Bool := WhI.right x && ((WhI.plain x.op).2 || decide (x.op ≤ 1) || decide (WhI.form x.op = 82))
theorem rlplain_eq (x : X) : rlplain x = WhI.lplain x := by
  unfold rlplain WhI.lplain
  cases hr : WhI.right x
  · rfl
  · have h0 : 0 ≤ x.op := by
      simp only [WhI.right, Bool.and_eq_true, decide_eq_true_eq] at hr
      have := hr.1.1.1.1
      unfold WhI.form at this
      split at this
      · exact absurd rfl this
      · omega
    have : decide (x.op ≤ 1) = (decide (x.op = 0) || decide (x.op = 1)) := by rw [Bool.eq_iff_iff]; simp; omega
    rw [this]
    simp [Bool.or_assoc]
theorem up_upC (i : X) : up i = upC i := by
  unfold up upC
  have : (2 : Int) ^ 12 = 4096 := by decide
  rw [this]
theorem runF_pc (l : List X) (D : List T) (xs : List Int) (pc : Int) (hp : 0 ≤ pc ∧ pc < 4294967296) : ∀ j : Nat, j ≤ l.length → (runF (l.take j) D xs pc).2.2 = IntKind.u32.wrap (pc + IntKind.u32.wrap (4 * (j : Int)))
  | 0, _ => by
    simp only [List.take_zero, runF, List.foldl_nil]
    rw [WhR.u32_mod, WhR.u32_mod]
    omega
  | j + 1, h => by
    have hg : l[j]? = some l[j] := List.getElem?_eq_getElem (by omega)
    rw [runF_take l D xs pc hg]
    simp only [stepF]
    rw [runF_pc l D xs pc hp j (by omega)]
    simp only [WhR.u32_mod]
    omega
end Wh.WhL
namespace Wh
open Go Go.Proofs WhS WhL WhC
set_option maxRecDepth 100000
theorem r12plain_spec (B : Nat) (w0 w : World) (L : List Ck) (x : X) (H : Hp B w0 w L) : Calls Tryz.prog 8 #[x.val] w fun e w' => e = .returned (.bool (WhL.rlplain x)) ∧ Hp B w0 w' L := by
  refine calls_go Tryz.func8 Tryz.ntmps8 rfl rfl ?_
  refine TW.seq ?_
  refine TW.region ?_
  refine LW.new (r_box H) ?_; intro g1 w H
  refine LW.v (r_as) ?_
  refine LW.nil ?_
  refine TW.seq ?_
  refine TW.region ?_
  refine LW.v (r_fa) ?_
  refine LW.v (r_ld H) ?_
  refine LW.c r_c1 ((rplain_spec _ _ _ _ x.op H).mono ?_)
  rintro _ w ⟨rfl, H⟩
  refine ⟨_, rfl, ?_⟩
  refine LW.v (r_mv) ?_
  refine LW.v (r_ext) ?_
  refine LW.v (r_ext) ?_
  refine LW.v (r_as) ?_
  refine LW.v (r_as) ?_
  refine LW.nil ?_
  refine TW.seq ?_
  refine TW.region ?_
  refine LW.v (r_ldW H) ?_
  refine LW.c r_c1 ((rright_spec _ _ _ _ x H).mono ?_)
  rintro _ w ⟨rfl, H⟩
  refine ⟨_, rfl, ?_⟩
  refine LW.v (r_mv) ?_
  refine LW.gen fun b hb => ?_; cases b
  · have hr0 := hb.symm; have hc0 := hb.symm; try simp only [beq_iff_eq, bne_iff_ne, beq_eq_false_iff_ne, bne_eq_false_iff_eq, decide_eq_true_eq, decide_eq_false_iff_not, Bool.not_eq_true', Bool.not_eq_false', Bool.true_eq, Bool.false_eq, ge_iff_le, gt_iff_lt, Bool.not_eq_eq_eq_not, Bool.not_true, Bool.not_false, ne_eq] at hc0
    refine LW.no (by rfl) (by rfl) (by rfl) (by rfl) (by rfl) (by rfl) ?_
    refine LW.no (by rfl) (by rfl) (by rfl) (by rfl) (by rfl) (by rfl) ?_
    refine LW.nou (by rfl) (by rfl) (by rfl) (by rfl) (by rfl) ?_
    refine LW.nou (by rfl) (by rfl) (by rfl) (by rfl) (by rfl) ?_
    refine LW.nou (by rfl) (by rfl) (by rfl) (by rfl) (by rfl) ?_
    refine LW.no (by rfl) (by rfl) (by rfl) (by rfl) (by rfl) (by rfl) ?_
    refine LW.no (by rfl) (by rfl) (by rfl) (by rfl) (by rfl) (by rfl) ?_
    refine LW.nou (by rfl) (by rfl) (by rfl) (by rfl) (by rfl) ?_
    refine LW.nou (by rfl) (by rfl) (by rfl) (by rfl) (by rfl) ?_
    refine LW.nou (by rfl) (by rfl) (by rfl) (by rfl) (by rfl) ?_
    refine LW.nou (by rfl) (by rfl) (by rfl) (by rfl) (by rfl) ?_
    refine LW.no (by rfl) (by rfl) (by rfl) (by rfl) (by rfl) (by rfl) ?_
    refine LW.v (r_pick) ?_
    refine LW.v (r_as) ?_
    refine LW.nil ?_
    refine TW.ret (ret1 (by rfl) rT ?_)
    exact ⟨by first | rfl | (simp [IntKind.bits, WhL.rlplain, hc0]; done) | (exfalso; omega), by first | exact H | exact H.drop | exact H.drop.drop⟩
  · have hr0 := hb.symm; have hc0 := hb.symm; try simp only [beq_iff_eq, bne_iff_ne, beq_eq_false_iff_ne, bne_eq_false_iff_eq, decide_eq_true_eq, decide_eq_false_iff_not, Bool.not_eq_true', Bool.not_eq_false', Bool.true_eq, Bool.false_eq, ge_iff_le, gt_iff_lt, Bool.not_eq_eq_eq_not, Bool.not_true, Bool.not_false, ne_eq] at hc0
    refine LW.yes (by rfl) (by rfl) (by rfl) (by rfl) (by rfl) ?_
    refine LW.v (r_mv) ?_
    refine LW.yes (by rfl) (by rfl) (by rfl) (by rfl) (by rfl) ?_
    refine LW.v (r_mv) ?_
    refine LW.gen fun b hb => ?_; cases b
    · have hr1 := hb.symm; have hc1 := hb.symm; try simp only [beq_iff_eq, bne_iff_ne, beq_eq_false_iff_ne, bne_eq_false_iff_eq, decide_eq_true_eq, decide_eq_false_iff_not, Bool.not_eq_true', Bool.not_eq_false', Bool.true_eq, Bool.false_eq, ge_iff_le, gt_iff_lt, Bool.not_eq_eq_eq_not, Bool.not_true, Bool.not_false, ne_eq] at hc1
      refine LW.yes (by rfl) (by rfl) (by rfl) (by rfl) (by rfl) ?_
      refine LW.v (r_fa) ?_
      refine LW.yes (by rfl) (by rfl) (by rfl) (by rfl) (by rfl) ?_
      refine LW.v (r_ld H) ?_
      refine LW.yes (by rfl) (by rfl) (by rfl) (by rfl) (by rfl) ?_
      refine LW.v (r_bin) ?_
      refine LW.yes (by rfl) (by rfl) (by rfl) (by rfl) (by rfl) ?_
      refine LW.v (r_pick) ?_
      refine LW.yes (by rfl) (by rfl) (by rfl) (by rfl) (by rfl) ?_
      refine LW.v (r_mv) ?_
      refine LW.gen fun b hb => ?_; cases b
      · have hr2 := hb.symm; have hc2 := hb.symm; try simp only [beq_iff_eq, bne_iff_ne, beq_eq_false_iff_ne, bne_eq_false_iff_eq, decide_eq_true_eq, decide_eq_false_iff_not, Bool.not_eq_true', Bool.not_eq_false', Bool.true_eq, Bool.false_eq, ge_iff_le, gt_iff_lt, Bool.not_eq_eq_eq_not, Bool.not_true, Bool.not_false, ne_eq] at hc2
        refine LW.yes (by rfl) (by rfl) (by rfl) (by rfl) (by rfl) ?_
        refine LW.v (r_fa) ?_
        refine LW.yes (by rfl) (by rfl) (by rfl) (by rfl) (by rfl) ?_
        refine LW.v (r_ld H) ?_
        refine LW.yes (by rfl) (by rfl) (by rfl) (by rfl) (by rfl) ?_
        refine LW.c r_c1 ((rform_spec _ _ _ _ x.op H).mono ?_)
        rintro _ w ⟨rfl, H⟩
        refine ⟨_, rfl, ?_⟩
        refine LW.yes (by rfl) (by rfl) (by rfl) (by rfl) (by rfl) ?_
        refine LW.v (r_bin) ?_
        refine LW.yes (by rfl) (by rfl) (by rfl) (by rfl) (by rfl) ?_
        refine LW.v (r_pick) ?_
        refine LW.v (r_pick) ?_
        refine LW.v (r_as) ?_
        refine LW.nil ?_
        refine TW.ret (ret1 (by rfl) rT ?_)
        exact ⟨by first | rfl | (simp [IntKind.bits, WhL.rlplain, hc0, hc1, hc2]; done) | (exfalso; omega), by first | exact H | exact H.drop | exact H.drop.drop⟩
      · have hr2 := hb.symm; have hc2 := hb.symm; try simp only [beq_iff_eq, bne_iff_ne, beq_eq_false_iff_ne, bne_eq_false_iff_eq, decide_eq_true_eq, decide_eq_false_iff_not, Bool.not_eq_true', Bool.not_eq_false', Bool.true_eq, Bool.false_eq, ge_iff_le, gt_iff_lt, Bool.not_eq_eq_eq_not, Bool.not_true, Bool.not_false, ne_eq] at hc2
        refine LW.no (by rfl) (by rfl) (by rfl) (by rfl) (by rfl) (by rfl) ?_
        refine LW.no (by rfl) (by rfl) (by rfl) (by rfl) (by rfl) (by rfl) ?_
        refine LW.no (by rfl) (by rfl) (by rfl) (by rfl) (by rfl) (by rfl) ?_
        refine LW.no (by rfl) (by rfl) (by rfl) (by rfl) (by rfl) (by rfl) ?_
        refine LW.yes (by rfl) (by rfl) (by rfl) (by rfl) (by rfl) ?_
        refine LW.v (r_pick) ?_
        refine LW.v (r_pick) ?_
        refine LW.v (r_as) ?_
        refine LW.nil ?_
        refine TW.ret (ret1 (by rfl) rT ?_)
        exact ⟨by first | rfl | (simp [IntKind.bits, WhL.rlplain, hc0, hc1, hc2]; done) | (exfalso; omega), by first | exact H | exact H.drop | exact H.drop.drop⟩
    · have hr1 := hb.symm; have hc1 := hb.symm; try simp only [beq_iff_eq, bne_iff_ne, beq_eq_false_iff_ne, bne_eq_false_iff_eq, decide_eq_true_eq, decide_eq_false_iff_not, Bool.not_eq_true', Bool.not_eq_false', Bool.true_eq, Bool.false_eq, ge_iff_le, gt_iff_lt, Bool.not_eq_eq_eq_not, Bool.not_true, Bool.not_false, ne_eq] at hc1
      refine LW.no (by rfl) (by rfl) (by rfl) (by rfl) (by rfl) (by rfl) ?_
      refine LW.no (by rfl) (by rfl) (by rfl) (by rfl) (by rfl) (by rfl) ?_
      refine LW.no (by rfl) (by rfl) (by rfl) (by rfl) (by rfl) (by rfl) ?_
      refine LW.yes (by rfl) (by rfl) (by rfl) (by rfl) (by rfl) ?_
      refine LW.v (r_pick) ?_
      refine LW.yes (by rfl) (by rfl) (by rfl) (by rfl) (by rfl) ?_
      refine LW.v (r_mv) ?_
      refine LW.no (by rfl) (by rfl) (by rfl) (by rfl) (by rfl) (by rfl) ?_
      refine LW.no (by rfl) (by rfl) (by rfl) (by rfl) (by rfl) (by rfl) ?_
      refine LW.no (by rfl) (by rfl) (by rfl) (by rfl) (by rfl) (by rfl) ?_
      refine LW.no (by rfl) (by rfl) (by rfl) (by rfl) (by rfl) (by rfl) ?_
      refine LW.yes (by rfl) (by rfl) (by rfl) (by rfl) (by rfl) ?_
      refine LW.v (r_pick) ?_
      refine LW.v (r_pick) ?_
      refine LW.v (r_as) ?_
      refine LW.nil ?_
      refine TW.ret (ret1 (by rfl) rT ?_)
      exact ⟨by first | rfl | (simp [IntKind.bits, WhL.rlplain, hc0, hc1]; done) | (exfalso; omega), by first | exact H | exact H.drop | exact H.drop.drop⟩
theorem rall_spec {B : Nat} {w0 w : World} {L : List Ck} {a : Option Addr} {cap : Nat} {l : List X} (hr : RowL B w0 L a l) (hl : l.length < 1073741824) (H : Hp B w0 w L) :
    Calls Tryz.prog 31 #[.slice a l.length cap] w fun e w' => e = .returned (.bool (l.all WhI.lplain)) ∧ Hp B w0 w' L := by
  refine calls_go Tryz.func31 Tryz.ntmps31 rfl rfl ?_
  refine TW.seq ?_
  refine TW.region ?_
  refine LW.v (r_as) ?_
  refine LW.nil ?_
  refine TW.seq <| TW.seq ?_
  refine TW.region ?_
  refine LW.v (r_as) ?_
  refine LW.nil ?_
  refine TW.block ?_
  refine TW.lp (σ := Nat) (fun i w' => i ≤ l.length ∧ (l.take i).all WhI.lplain = true ∧ Hp B w0 w' L) (fun i => [(0, .slice a l.length cap), (3, .int .i64 (i : Int))]) (fun i => l.length - i) (0) (⟨by omega, by simp, H⟩) (⟨rfl, rfl, trivial⟩) ?_
  rintro i f w ⟨hi, hall, H⟩ again
  refine TW.seq <| TW.seq ?_
  refine TW.region ?_
  refine LW.v (r_mv) ?_
  refine LW.v (r_mv) ?_
  refine LW.v (r_len) ?_
  refine LW.v (r_bin) ?_
  refine LW.nil ?_
  refine TW.c rfl (fun hb => ?_) (fun hb => ?_)
  · have hi2 : i < l.length := by simpa using hb
    have hg : l[i]? = some l[i] := List.getElem?_eq_getElem hi2
    obtain ⟨a', rfl, hrow⟩ := hr.resolve_left (fun e => by subst e; simp at hi2)
    refine TW.skip <| TW.seq <| TW.block <| TW.seq ?_
    refine TW.region ?_
    refine LW.v (r_mv) ?_
    refine LW.v (r_mv) ?_
    refine LW.v (r_iaS (h0 := by omega) (h1 := by omega)) ?_
    refine LW.v (r_ldR (i := i) (hrow _ H) hg (fun _ => rfl) (size := 5)) ?_
    refine LW.c r_c1 ((r12plain_spec _ _ _ _ l[i] H).mono ?_)
    rintro _ w ⟨rfl, H⟩
    refine ⟨_, rfl, ?_⟩
    refine LW.v (r_not) ?_
    refine LW.nil ?_
    refine TW.c rfl (fun hb => ?_) (fun hb => ?_)
    · refine TW.seq ?_
      refine TW.region ?_
      refine LW.v (r_as) ?_
      refine LW.nil ?_
      refine TW.ret (ret1 (by rfl) rT ?_)
      have he : WhI.lplain l[i] = false := by rw [← rlplain_eq]; simpa using hb
      have h1 : l.all WhI.lplain = false := by
        rw [List.all_eq_false]
        exact ⟨l[i], List.getElem_mem hi2, by rw [he]; simp⟩
      exact ⟨by rw [h1], H⟩
    · refine TW.skip <| TW.inBlock ?_
      refine TW.region ?_
      refine LW.v (r_mv) ?_
      first | refine LW.v (r_add (hk := w64 (by omega) (by omega))) ?_ | refine LW.v (r_bin) ?_
      refine LW.v (r_as) ?_
      refine LW.nil ?_
      have he : WhI.lplain l[i] = true := by rw [← rlplain_eq]; simpa using hb
      refine again (i + 1) _ _ ⟨by omega, ?_, H⟩ ⟨rfl, rfl, trivial⟩ (by omega)
      rw [List.take_add_one, hg, List.all_append, hall]
      simp [he]
  · refine TW.exit rfl <| TW.seq ?_
    refine TW.region ?_
    refine LW.v (r_as) ?_
    refine LW.nil ?_
    refine TW.ret (ret1 (by rfl) rT ?_)
    have hi2 : ¬ i < l.length := by simpa using hb
    have e : l.take i = l := List.take_of_length_le (by omega)
    rw [e] at hall
    exact ⟨by rw [hall], H⟩
theorem rstart_spec {B : Nat} {w0 w : World} {L : List Ck} {q : Nat} {D : List T} {c : Ck} (hc : RdC q D c) (hlen : D.length + 40 < 1073741824) (H : Hp B w0 w (c :: L)) :
    Calls Tryz.prog 32 #[.pointer (some ⟨q, 0, none⟩)] w fun e w' => e = .returned (.agg (vI (startN D 32).1)) ∧ ∃ c', RdC q (startN D 32).2 c' ∧ Hp B w0 w' (c' :: L) := by
  refine calls_go Tryz.func32 Tryz.ntmps32 rfl rfl ?_
  refine TW.seq ?_
  refine TW.region ?_
  refine LW.new (r_al H) ?_; intro g2 w H
  refine LW.nil ?_
  refine TW.seq ?_
  refine TW.region ?_
  refine LW.v (r_b0) ?_
  refine LW.new (r_al H) ?_; intro g3 w H
  refine LW.sto (r_stW H (vs := vI (List.replicate 32 0)) (hy := rfl) (h1 := vI_one _)) ?_; intro w H
  refine LW.nil ?_
  refine TW.seq <| TW.seq ?_
  refine TW.region ?_
  refine LW.v (r_as) ?_
  refine LW.nil ?_
  refine TW.block ?_
  have H : Hp B w0 w (Blk g3 32 (vI (startX D 0)) :: Blk g2 32 (vI (List.replicate 32 0)) :: c :: L) := H
  refine TW.lp (σ := Nat) (fun i w' => i ≤ 32 ∧ ∃ c', RdC q (startN D i).2 c' ∧ Hp B w0 w' (Blk g3 32 (vI (startX D i)) :: Blk g2 32 (vI (List.replicate 32 0)) :: c' :: L)) (fun i => [(0, .pointer (some ⟨q, 0, none⟩)), (2, .pointer (some ⟨g2, 0, none⟩)), (3, .pointer (some ⟨g3, 0, none⟩)), (4, .int .i64 (i : Int))]) (fun i => 32 - i) (0) (⟨by omega, c, hc, H⟩) (⟨rfl, rfl, rfl, rfl, trivial⟩) ?_
  rintro i f w ⟨hi, c, hc, H⟩ again
  refine TW.seq <| TW.seq ?_
  refine TW.region ?_
  refine LW.v (r_mv) ?_
  refine LW.v (r_bin) ?_
  refine LW.nil ?_
  refine TW.c rfl (fun hb => ?_) (fun hb => ?_)
  · have hi3 : (i : Int) < 32 := by simpa using hb
    have hi2 : i < 32 := by omega
    have hdl := startN_dlen D i
    refine TW.skip <| TW.seq <| TW.block ?_
    refine TW.region ?_
    refine LW.v (r_mv) ?_
    refine LW.v (r_mv) ?_
    refine LW.v (r_mv) ?_
    refine LW.c r_c2 ((rvar_at q (startN D i).2 i hc (by omega) H).mono ?_)
    rintro _ w ⟨rfl, c', hc', H⟩
    refine ⟨_, rfl, ?_⟩
    refine LW.v (r_mv) ?_
    refine LW.v (r_ext) ?_
    refine LW.v (r_ext) ?_
    refine LW.v (r_iaA (h0 := by omega) (h1 := by omega)) ?_
    refine LW.sto (r_stI (k := i) H (by rw [startX_len D hi]; omega)) ?_; intro w H
    refine LW.nil ?_
    rw [startX_set D hi2] at H
    refine TW.inBlock ?_
    refine TW.region ?_
    refine LW.v (r_mv) ?_
    first | refine LW.v (r_add (hk := w64 (by omega) (by omega))) ?_ | refine LW.v (r_bin) ?_
    refine LW.v (r_as) ?_
    refine LW.nil ?_
    exact again (i + 1) _ _ ⟨by omega, c', hc', H⟩ ⟨rfl, rfl, rfl, rfl, trivial⟩ (by omega)
  · have hi3 : ¬ (i : Int) < 32 := by simpa using hb
    obtain rfl : i = 32 := by omega
    rw [startX_end] at H
    refine TW.exit rfl <| TW.seq ?_
    refine TW.region ?_
    refine LW.v (r_ldW H (hp := by rw [vI_size, startN_len])) ?_
    refine LW.sto (r_stW H (vs := vI (startN D 32).1) (h1 := vI_one _) (hs := by rw [vI_size, startN_len])) ?_; intro w H
    refine LW.nil ?_
    refine TW.ret (ret1 (by rfl) (rC H (hp := by rw [vI_size, startN_len])) ?_)
    exact ⟨rfl, c, hc, H.drop.drop⟩
theorem rfrom_spec {B : Nat} {w0 w : World} {L : List Ck} {q : Nat} {D : List T} {c : Ck} {M : Nat} {xs : List Int} {l : List X} {pc : Int} {a : Option Addr} {cap : Nat} (hM : M + l.length ≤ 200) (hc : RdC q D c) (hD : Wf D) (hg : Rng D) (hch : ChAll D M) (hx : xs.length = 32) (hlen : D.length < 1000000) (hpc : 0 ≤ pc ∧ pc < 4294967296) (hr : RowL B w0 L a l) (H : Hp B w0 w (c :: L)) :
    Calls Tryz.prog 14 #[.pointer (some ⟨q, 0, none⟩), .agg (vI xs), .slice a l.length cap, .int .u32 pc] w fun e w' => e = .returned (.tuple #[.agg (vI (fromF D xs l pc).1), .int .i64 (fromF D xs l pc).2.1]) ∧ ∃ c', RdC q (fromF D xs l pc).2.2 c' ∧ Hp B w0 w' (c' :: L) := by
  obtain ⟨sa, dcap, H, _, back⟩ := rd_row hc H
  refine calls_go Tryz.func14 Tryz.ntmps14 rfl rfl ?_
  refine TW.seq ?_
  refine TW.region ?_
  refine LW.new (r_box H) ?_; intro g5 w H
  refine LW.new (r_al H) ?_; intro g8 w H
  refine LW.v (r_as) ?_
  refine LW.nil ?_
  refine TW.seq <| TW.seq ?_
  refine TW.region ?_
  refine LW.v (r_as) ?_
  refine LW.nil ?_
  refine TW.block ?_
  have H : Hp B w0 w (Blk g8 32 (vI (List.replicate 32 0)) :: Blk g5 32 (vI (xs)) :: Blk q 67 #[.slice sa D.length dcap] :: Row 68 5 (.slice sa D.length dcap) D.length (rowOf T.val D) :: L) := H
  refine TW.lp (σ := Nat) (fun i w' => i ≤ 32 ∧ (∀ n ∈ xs.take i, In D n) ∧ Hp B w0 w' (Blk g8 32 (vI (List.replicate 32 0)) :: Blk g5 32 (vI (xs)) :: Blk q 67 #[.slice sa D.length dcap] :: Row 68 5 (.slice sa D.length dcap) D.length (rowOf T.val D) :: L)) (fun i => [(0, .pointer (some ⟨q, 0, none⟩)), (2, .slice a l.length cap), (3, .int .u32 pc), (5, .pointer (some ⟨g5, 0, none⟩)), (8, .pointer (some ⟨g8, 0, none⟩)), (10, .int .i64 (i : Int))]) (fun i => 32 - i) (0) (⟨by omega, by simp, H⟩) (⟨rfl, rfl, rfl, rfl, rfl, rfl, trivial⟩) ?_
  rintro i f w ⟨hi, hin, H⟩ again
  refine TW.seq <| TW.seq ?_
  refine TW.region ?_
  refine LW.v (r_mv) ?_
  refine LW.v (r_bin) ?_
  refine LW.nil ?_
  refine TW.c rfl (fun hb => ?_) (fun hb => ?_)
  · have hi3 : (i : Int) < 32 := by simpa using hb
    have hi2 : i < 32 := by omega
    obtain ⟨z, hgx⟩ : ∃ z, xs[i]? = some z := ⟨xs[i]'(by omega), List.getElem?_eq_getElem _⟩
    refine TW.skip <| TW.seq <| TW.block <| TW.seq ?_
    refine TW.join1 H [(0, .pointer (some ⟨q, 0, none⟩)), (2, .slice a l.length cap), (3, .int .u32 pc), (5, .pointer (some ⟨g5, 0, none⟩)), (8, .pointer (some ⟨g8, 0, none⟩)), (10, .int .i64 (i : Int)), (36, .bool (!WhD.is D z))] (fun go => ?_) (fun f w H => ?_)
    · refine TW.draw [(0, some 0), (1, some 0), (2, some 0), (3, some 0), (4, some 0), (5, some 0), (6, some 0), (7, some 0), (8, some 0), (9, some 0), (10, some 0), (11, some 0), (12, some 0), (13, some 0), (14, some 0)] [] hmix (by kernel_rfl) (fun _ _ _ _ _ h => h) H (fun m w => (m = 0 → Hp _ _ w _)) (fun _ h _ => h) ?_
      intro w H
      refine DW.v (by rfl) (Quiet.y (fun _ _ => r_mv)) ?_
      refine DW.v (by rfl) (Quiet.y (fun _ _ => r_iaA (h0 := by omega) (h1 := by omega))) ?_
      refine DW.hm (by rfl) (Quiet.y (fun _ h => r_ldc (cellI (g := g5) (k := i) (h rfl) hgx))) ?_
      refine DW.v (by rfl) (Quiet.y (fun _ _ => r_bin)) ?_
      refine DW.v (by rfl) (Quiet.y (fun _ _ => r_mv)) ?_
      refine DW.gen fun b hb => ?_; cases b
      · have hr0 := hb.symm; have hc0 := hb.symm; try simp only [beq_iff_eq, bne_iff_ne, beq_eq_false_iff_ne, bne_eq_false_iff_eq, decide_eq_true_eq, decide_eq_false_iff_not, Bool.not_eq_true', Bool.not_eq_false', Bool.true_eq, Bool.false_eq, ge_iff_le, gt_iff_lt, Bool.not_eq_eq_eq_not, Bool.not_true, Bool.not_false, ne_eq] at hc0
        refine DW.v (by rfl) (Quiet.gy (by rfl) (by rfl) (by rfl) (by rfl) (by rfl) (fun _ _ => r_mv)) ?_
        refine DW.v (by rfl) (Quiet.gy (by rfl) (by rfl) (by rfl) (by rfl) (by rfl) (fun _ _ => r_iaA (h0 := by omega) (h1 := by omega))) ?_
        refine DW.hm (by rfl) (Quiet.gy (by rfl) (by rfl) (by rfl) (by rfl) (by rfl) (fun _ h => r_ldc (cellI (g := g5) (k := i) (h rfl) hgx))) ?_
        refine DW.v (by rfl) (Quiet.gy (by rfl) (by rfl) (by rfl) (by rfl) (by rfl) (fun _ _ => r_mv)) ?_
        refine DW.v (by rfl) (Quiet.gy (by rfl) (by rfl) (by rfl) (by rfl) (by rfl) (fun _ _ => r_nil)) ?_
        refine DW.v (by rfl) (Quiet.gy (by rfl) (by rfl) (by rfl) (by rfl) (by rfl) (fun _ _ => r_fa)) ?_
        refine DW.hm (by rfl) (Quiet.gy (by rfl) (by rfl) (by rfl) (by rfl) (by rfl) (fun _ h => r_ld (h rfl))) ?_
        refine DW.v (by rfl) (Quiet.gy (by rfl) (by rfl) (by rfl) (by rfl) (by rfl) (fun _ _ => r_len)) ?_
        refine DW.v (by rfl) (Quiet.gy (by rfl) (by rfl) (by rfl) (by rfl) (by rfl) (fun _ _ => r_bin)) ?_
        refine DW.v (by rfl) (Quiet.y (fun _ _ => r_pick)) ?_
        refine DW.nil (fun _ => ?_)
        exact go _ _ H ⟨rfl, rfl, rfl, rfl, rfl, rfl, congrArg Value.bool (by first | rfl | (simp [WhD.is, hc0]; done) | (exfalso; omega)  | (rw [Bool.eq_iff_iff]; simp [WhD.is]; omega)), trivial⟩
      · have hr0 := hb.symm; have hc0 := hb.symm; try simp only [beq_iff_eq, bne_iff_ne, beq_eq_false_iff_ne, bne_eq_false_iff_eq, decide_eq_true_eq, decide_eq_false_iff_not, Bool.not_eq_true', Bool.not_eq_false', Bool.true_eq, Bool.false_eq, ge_iff_le, gt_iff_lt, Bool.not_eq_eq_eq_not, Bool.not_true, Bool.not_false, ne_eq] at hc0
        refine DW.v (by rfl) (Quiet.gn (by rfl) (by rfl) (by rfl) (by rfl) (by rfl)) ?_
        refine DW.v (by rfl) (Quiet.gn (by rfl) (by rfl) (by rfl) (by rfl) (by rfl)) ?_
        refine DW.v (by rfl) (Quiet.gn (by rfl) (by rfl) (by rfl) (by rfl) (by rfl)) ?_
        refine DW.v (by rfl) (Quiet.gn (by rfl) (by rfl) (by rfl) (by rfl) (by rfl)) ?_
        refine DW.v (by rfl) (Quiet.gn (by rfl) (by rfl) (by rfl) (by rfl) (by rfl)) ?_
        refine DW.v (by rfl) (Quiet.gn (by rfl) (by rfl) (by rfl) (by rfl) (by rfl)) ?_
        refine DW.v (by rfl) (Quiet.gn (by rfl) (by rfl) (by rfl) (by rfl) (by rfl)) ?_
        refine DW.v (by rfl) (Quiet.gn (by rfl) (by rfl) (by rfl) (by rfl) (by rfl)) ?_
        refine DW.v (by rfl) (Quiet.gn (by rfl) (by rfl) (by rfl) (by rfl) (by rfl)) ?_
        refine DW.v (by rfl) (Quiet.y (fun _ _ => r_pick)) ?_
        refine DW.nil (fun _ => ?_)
        exact go _ _ H ⟨rfl, rfl, rfl, rfl, rfl, rfl, congrArg Value.bool (by first | rfl | (simp [WhD.is, hc0]; done) | (exfalso; omega)  | (rw [Bool.eq_iff_iff]; simp [WhD.is]; omega)), trivial⟩
    refine TW.c rfl (fun hb => ?_) (fun hb => ?_)
    · have hni : WhD.is D z = false := by simpa using hb
      have hall : xs.all (WhD.is D) = false := by
        rw [List.all_eq_false]
        exact ⟨z, List.mem_of_getElem? hgx, by rw [hni]; simp⟩
      refine TW.seq ?_
      refine TW.region ?_
      refine LW.v (r_b0) ?_
      refine LW.sto (r_stW H (vs := vI (List.replicate 32 0)) (hy := rfl) (h1 := vI_one _)) ?_; intro w H
      refine LW.v (r_as) ?_
      refine LW.nil ?_
      refine TW.ret (ret2 (by rfl) (rC H) rT ?_)
      exact ⟨by simp only [fromF, hall, Bool.not_false, if_true], c, by simp only [fromF, hall, Bool.not_false, if_true]; exact hc, back _ _ H.drop.drop⟩
    · have hni : WhD.is D z = true := by simpa using hb
      have hi5 : In D z := by unfold In; simpa [WhD.is] using hni
      refine TW.skip <| TW.inBlock ?_
      refine TW.region ?_
      refine LW.v (r_mv) ?_
      first | refine LW.v (r_add (hk := w64 (by omega) (by omega))) ?_ | refine LW.v (r_bin) ?_
      refine LW.v (r_as) ?_
      refine LW.nil ?_
      refine again (i + 1) _ _ ⟨by omega, ?_, H⟩ ⟨rfl, rfl, rfl, rfl, rfl, rfl, trivial⟩ (by omega)
      intro n hn
      rw [List.take_add_one, hgx] at hn
      simp only [Option.toList_some, List.mem_append, List.mem_singleton] at hn
      rcases hn with hn | rfl
      · exact hin n hn
      · exact hi5
  · have hi3 : ¬ (i : Int) < 32 := by simpa using hb
    have e : xs.take i = xs := List.take_of_length_le (by omega)
    rw [e] at hin
    have hall : xs.all (WhD.is D) = true := by rw [List.all_eq_true]; exact fun n hn => (hin n hn).is
    have hok : Ok D M xs := ⟨hD, hg, hch, hx, hin⟩
    have H := H.perm (List.Perm.append_right L (List.perm_append_comm (l₁ := [Blk g8 32 (vI (List.replicate 32 0)), Blk g5 32 (vI (xs))]) (l₂ := [Blk q 67 #[.slice sa D.length dcap], Row 68 5 (.slice sa D.length dcap) D.length (rowOf T.val D)])))
    have H := back _ _ H
    have H : Hp B w0 w (Blk g8 32 (vI (List.replicate 32 0)) :: Blk g5 32 (vI (xs)) :: c :: L) := H.perm ((List.Perm.swap _ _ _).trans (List.Perm.cons _ (List.Perm.swap _ _ _)))
    refine TW.exit rfl <| TW.seq <| TW.seq ?_
    refine TW.region ?_
    refine LW.v (r_mv) ?_
    refine LW.c r_c1 ((rall_spec ((hr.cons c).cons _ |>.cons _) (by omega) H).mono ?_)
    rintro _ w ⟨rfl, H⟩
    refine ⟨_, rfl, ?_⟩
    refine LW.v (r_not) ?_
    refine LW.nil ?_
    refine TW.c rfl (fun hb => ?_) (fun hb => ?_)
    · have hp : l.all WhI.lplain = false := by simpa using hb
      refine TW.seq ?_
      refine TW.region ?_
      refine LW.v (r_b0) ?_
      refine LW.sto (r_stW H (vs := vI (List.replicate 32 0)) (hy := rfl) (h1 := vI_one _)) ?_; intro w H
      refine LW.v (r_as) ?_
      refine LW.nil ?_
      refine TW.ret (ret2 (by rfl) (rC H) rT ?_)
      exact ⟨by simp only [fromF, hall, hp, Bool.not_true, Bool.not_false, Bool.false_eq_true, if_true, if_false], c, by simp only [fromF, hall, hp, Bool.not_true, Bool.not_false, Bool.false_eq_true, if_true, if_false]; exact hc, H.drop.drop⟩
    · have hp : l.all WhI.lplain = true := by simpa using hb
      have ef : fromF D xs l pc = ((runF l D xs pc).2.1, 0, (runF l D xs pc).1) := by simp only [fromF, hall, hp, Bool.not_true, Bool.false_eq_true, if_false]
      rw [ef]
      have hpre : ∀ j, j ≤ l.length → Ok (runF (l.take j) D xs pc).1 (M + j) (runF (l.take j) D xs pc).2.1 ∧ (runF (l.take j) D xs pc).1.length ≤ D.length + 500 * j := by
        intro j hj
        have hl : (l.take j).length = j := by simp; omega
        have := runF_ok (M := M) (l.take j) D xs pc (by omega) hok (by rw [List.all_eq_true] at hp ⊢; exact fun x hx => hp x (List.mem_of_mem_take hx))
        rw [hl] at this
        exact ⟨this.1, this.2.1⟩
      have hpcs := runF_pc l D xs pc hpc
      refine TW.skip <| TW.seq <| TW.seq ?_
      refine TW.region ?_
      refine LW.v (r_as) ?_
      refine LW.nil ?_
      refine TW.block ?_
      refine TW.lp (σ := Nat) (fun j w' => j ≤ l.length ∧ ∃ c', RdC q (runF (l.take j) D xs pc).1 c' ∧ Hp B w0 w' (Blk g8 32 (vI (List.replicate 32 0)) :: Blk g5 32 (vI ((runF (l.take j) D xs pc).2.1)) :: c' :: L)) (fun j => [(0, .pointer (some ⟨q, 0, none⟩)), (2, .slice a l.length cap), (3, .int .u32 pc), (5, .pointer (some ⟨g5, 0, none⟩)), (8, .pointer (some ⟨g8, 0, none⟩)), (11, .int .i64 (j : Int))]) (fun j => l.length - j) (0) (⟨by omega, c, hc, H⟩) (⟨rfl, rfl, rfl, rfl, rfl, rfl, trivial⟩) ?_
      rintro j f w ⟨hj, c, hc, H⟩ again
      refine TW.seq <| TW.seq ?_
      refine TW.region ?_
      refine LW.v (r_mv) ?_
      refine LW.v (r_mv) ?_
      refine LW.v (r_len) ?_
      refine LW.v (r_bin) ?_
      refine LW.nil ?_
      refine TW.c rfl (fun hb => ?_) (fun hb => ?_)
      · have hj2 : j < l.length := by simpa using hb
        obtain ⟨i, hgl⟩ : ∃ i, l[j]? = some i := ⟨l[j], List.getElem?_eq_getElem hj2⟩
        obtain ⟨hkj, hlj⟩ := hpre j hj
        have hpj : WhI.lplain i = true := (List.all_eq_true.1 hp) _ (List.mem_of_getElem? hgl)
        obtain ⟨hrd, hr1, hr2⟩ := lplain_regs hpj
        obtain ⟨a', rfl, hrow⟩ := hr.resolve_left (fun e => by subst e; simp at hj2)
        have es := runF_take l D xs pc hgl
        have hpcj := hpcs j hj
        generalize (runF (l.take j) D xs pc) = Z at *
        obtain ⟨D1, xs1, pc1⟩ := Z
        simp only at hkj hlj es hpcj H hc ⊢
        have hx1 := hkj.reg hr1.1 hr1.2
        have hx2 := hkj.reg hr2.1 hr2.2
        have hl2 := addT_len D1 (K (IntKind.u32.wrap i.imm))
        refine TW.skip <| TW.seq <| TW.block <| TW.seq ?_
        refine TW.region ?_
        refine LW.v (r_mv) ?_
        refine LW.v (r_mv) ?_
        refine LW.v (r_iaS (h0 := by omega) (h1 := by omega)) ?_
        refine LW.v (r_ldR (i := j) (hrow _ H.drop.drop.drop) hgl (fun _ => rfl) (size := 5)) ?_
        refine LW.new (r_al H) ?_; intro g12 w H
        refine LW.sto (r_stW H (vs := (iv xks i.nums).toArray)) ?_; intro w H
        refine LW.v (r_as) ?_
        refine LW.nil ?_
        refine TW.seq ?_
        refine TW.region ?_
        refine LW.v (r_mv) ?_
        refine LW.v (r_mv) ?_
        first | refine LW.v (r_mul (hk := w64 (by omega) (by omega))) ?_ | refine LW.v (r_bin) ?_
        refine LW.v (r_cv) ?_
        refine LW.v (r_bin) ?_
        refine LW.v (r_as) ?_
        refine LW.nil ?_
        refine TW.seq ?_
        refine TW.region ?_
        refine LW.v (r_fa) ?_
        refine LW.v (r_ld H) ?_
        refine LW.c r_c1 ((rplain_spec _ _ _ _ i.op H).mono ?_)
        rintro _ w ⟨rfl, H⟩
        refine ⟨_, rfl, ?_⟩
        refine LW.v (r_mv) ?_
        refine LW.v (r_ext) ?_
        refine LW.v (r_ext) ?_
        refine LW.v (r_as) ?_
        refine LW.v (r_as) ?_
        refine LW.nil ?_
        refine TW.seq ?_
        refine TW.joinG (σ := Ck) (fun k w' => RdC q (oneF D1 xs1 i pc1).2 k ∧ Hp B w0 w' (Blk g12 31 (iv xks i.nums).toArray :: Blk g8 32 (vI (List.replicate 32 0)) :: Blk g5 32 (vI (xs1)) :: k :: L)) (fun _ => [(0, .pointer (some ⟨q, 0, none⟩)), (2, .slice (some a') l.length cap), (3, .int .u32 pc), (5, .pointer (some ⟨g5, 0, none⟩)), (8, .pointer (some ⟨g8, 0, none⟩)), (11, .int .i64 (j : Int)), (12, .pointer (some ⟨g12, 0, none⟩)), (13, .int .i64 (oneF D1 xs1 i pc1).1)]) (fun go => ?_) ?_
        · refine TW.seq ?_
          refine TW.region ?_
          refine LW.v (r_fa) ?_
          refine LW.v (r_ld H) ?_
          refine LW.v (r_bin) ?_
          refine LW.nil ?_
          refine TW.c rfl (fun hb => ?_) (fun hb => ?_)
          · have h0 : i.op = 0 := by simpa using hb
            refine TW.region ?_
            refine LW.v (r_mv) ?_
            refine LW.v (r_fa) ?_
            refine LW.v (r_ld H) ?_
            refine LW.v (r_cv) ?_
            refine LW.v (r_bin) ?_
            refine LW.c r_c2 ((rconst_at q D1 (upC i) hc (by omega) H).mono ?_)
            rintro _ w ⟨rfl, c', hc', H⟩
            refine ⟨_, rfl, ?_⟩
            refine LW.v (r_as) ?_
            refine LW.nil ?_
            have e : (oneF D1 xs1 i pc1) = addT D1 (K (upC i)) := by
              unfold oneF
              rw [if_pos h0, up_upC]
            exact go _ _ _ ⟨by rw [e]; exact hc', H⟩ ⟨rfl, rfl, rfl, rfl, rfl, rfl, rfl, congrArg (Value.int .i64) (by rw [e]; first | done | rfl), trivial⟩
          · have h0 : ¬ i.op = 0 := by simpa using hb
            refine TW.seq ?_
            refine TW.region ?_
            refine LW.v (r_fa) ?_
            refine LW.v (r_ld H) ?_
            refine LW.v (r_bin) ?_
            refine LW.nil ?_
            refine TW.c rfl (fun hb => ?_) (fun hb => ?_)
            · have h1 : i.op = 1 := by simpa using hb
              refine TW.region ?_
              refine LW.v (r_mv) ?_
              refine LW.v (r_fa) ?_
              refine LW.v (r_ld H) ?_
              refine LW.v (r_cv) ?_
              refine LW.v (r_bin) ?_
              refine LW.v (r_mv) ?_
              refine LW.v (r_bin) ?_
              refine LW.c r_c2 ((rconst_at q D1 (IntKind.u32.wrap (upC i + IntKind.u32.wrap (pc + IntKind.u32.wrap (4 * (j : Int))))) hc (by omega) H).mono ?_)
              rintro _ w ⟨rfl, c', hc', H⟩
              refine ⟨_, rfl, ?_⟩
              refine LW.v (r_as) ?_
              refine LW.nil ?_
              have e : (oneF D1 xs1 i pc1) = addT D1 (K (IntKind.u32.wrap (upC i + IntKind.u32.wrap (pc + IntKind.u32.wrap (4 * (j : Int)))))) := by
                unfold oneF
                rw [if_neg h0, if_pos h1, up_upC, hpcj]
              exact go _ _ _ ⟨by rw [e]; exact hc', H⟩ ⟨rfl, rfl, rfl, rfl, rfl, rfl, rfl, congrArg (Value.int .i64) (by rw [e]; first | done | rfl), trivial⟩
            · have h1 : ¬ i.op = 1 := by simpa using hb
              refine TW.seq ?_
              refine TW.region ?_
              refine LW.v (r_mv) ?_
              refine LW.nil ?_
              refine TW.c rfl (fun hb => ?_) (fun hb => ?_)
              · have hp3 : (WhI.plain i.op).2 = true := hb
                have hk1 := hkj.addK (w := IntKind.u32.wrap i.imm) (u32_rng _)
                have hmk := (mk_good (M := M + j) (by omega) hk1.wf hk1.rng hk1.ch (hk1.reg hr1.1 hr1.2).2 (addT_in D1 (K (IntKind.u32.wrap i.imm))).1 (plain_isOp hp3)).1
                refine TW.seq ?_
                refine TW.region ?_
                refine LW.v (r_mv) ?_
                refine LW.v (r_fa) ?_
                refine LW.v (r_ld H) ?_
                refine LW.v (r_cv) ?_
                refine LW.c r_c2 ((rconst_at q D1 (IntKind.u32.wrap i.imm) hc (by omega) H).mono ?_)
                rintro _ w ⟨rfl, c1, hc1, H⟩
                refine ⟨_, rfl, ?_⟩
                refine LW.v (r_as) ?_
                refine LW.nil ?_
                refine TW.region ?_
                refine LW.v (r_mv) ?_
                refine LW.v (r_mv) ?_
                refine LW.v (r_fa) ?_
                refine LW.v (r_ld H) ?_
                refine LW.v (r_iaA (h0 := hr1.1) (h1 := by have := hr1.2; omega)) ?_
                refine LW.v (r_ldc (cellI (g := g5) H hx1.1)) ?_
                refine LW.v (r_mv) ?_
                refine LW.c r_c4 (((rmade_ok 405).at hc1 hk1.wf hk1.rng (hk1.reg hr1.1 hr1.2).2 (addT_in D1 (K (IntKind.u32.wrap i.imm))).1 (plain_isOp hp3) (by unfold K at hl2; omega) hmk H).mono ?_)
                rintro _ w ⟨rfl, c', hc', H⟩
                refine ⟨_, rfl, ?_⟩
                refine LW.v (r_mv) ?_
                refine LW.v (r_ext) ?_
                refine LW.v (r_ext) ?_
                refine LW.v (r_as) ?_
                refine LW.nil ?_
                have e : (oneF D1 xs1 i pc1) = mk (addT D1 (K (IntKind.u32.wrap i.imm))).2 (WhI.plain i.op).1 (reg xs1 i.rs1) (addT D1 (K (IntKind.u32.wrap i.imm))).1 := by
                  unfold oneF
                  rw [if_neg h0, if_neg h1, if_pos hp3]
                exact go _ _ _ ⟨by rw [e]; exact hc', H⟩ ⟨rfl, rfl, rfl, rfl, rfl, rfl, rfl, congrArg (Value.int .i64) (by rw [e]; first | done | rfl), trivial⟩
              · have hp3 : (WhI.plain i.op).2 = false := hb
                have hp3' : ¬ (WhI.plain i.op).2 = true := by rw [hp3]; exact Bool.noConfusion
                have hmk := (mk_good (M := M + j) (by omega) hkj.wf hkj.rng hkj.ch hx1.2 hx2.2 (lplain_op hpj h0 h1 hp3)).1
                refine TW.draw [(0, some 0), (1, some 0), (2, some 0), (3, some 0), (4, some 0), (5, some 0), (6, some 0), (7, some 0), (8, some 0), (9, some 0), (10, some 0), (11, none), (12, some 1), (13, some 1), (14, some 1), (15, some 1)] [11] hmix (by kernel_rfl) (fun _ _ _ _ _ h => h) H (fun m w => (m = 0 → Hp _ _ w _)) (fun _ h _ => h) ?_
                intro w H
                refine DW.v (by rfl) (Quiet.y (fun _ _ => r_mv)) ?_
                refine DW.v (by rfl) (Quiet.y (fun _ _ => r_fa)) ?_
                refine DW.hm (by rfl) (Quiet.y (fun _ h => r_ld (h rfl))) ?_
                refine DW.v (by rfl) (Quiet.y (fun _ _ => r_fa)) ?_
                refine DW.hm (by rfl) (Quiet.y (fun _ h => r_ld (h rfl))) ?_
                refine DW.v (by rfl) (Quiet.y (fun _ _ => r_iaA (h0 := hr1.1) (h1 := by have := hr1.2; omega))) ?_
                refine DW.hm (by rfl) (Quiet.y (fun _ h => r_ldc (cellI (g := g5) (h rfl) hx1.1))) ?_
                refine DW.v (by rfl) (Quiet.y (fun _ _ => r_fa)) ?_
                refine DW.hm (by rfl) (Quiet.y (fun _ h => r_ld (h rfl))) ?_
                refine DW.v (by rfl) (Quiet.y (fun _ _ => r_iaA (h0 := hr2.1) (h1 := by have := hr2.2; omega))) ?_
                refine DW.hm (by rfl) (Quiet.y (fun _ h => r_ldc (cellI (g := g5) (h rfl) hx2.1))) ?_
                refine DW.l (by rfl) ?_
                refine LW.c r_c4 (((rmade_ok 405).at hc hkj.wf hkj.rng hx1.2 hx2.2 (lplain_op hpj h0 h1 hp3) (by omega) hmk H).mono ?_)
                rintro _ w ⟨rfl, c', hc', H⟩
                refine ⟨_, rfl, ?_⟩
                refine LW.nil ⟨(fun h => nomatch h), ?_⟩
                refine DW.v (by rfl) (Quiet.y (fun _ _ => r_mv)) ?_
                refine DW.v (by rfl) (Quiet.y (fun _ _ => r_ext)) ?_
                refine DW.v (by rfl) (Quiet.y (fun _ _ => r_ext)) ?_
                refine DW.v (by rfl) (Quiet.y (fun _ _ => r_as)) ?_
                refine DW.nil (fun _ => ?_)
                have e : (oneF D1 xs1 i pc1) = mk D1 i.op (reg xs1 i.rs1) (reg xs1 i.rs2) := by
                  unfold oneF
                  rw [if_neg h0, if_neg h1, if_neg hp3']
                exact go _ _ _ ⟨by rw [e]; exact hc', H⟩ ⟨rfl, rfl, rfl, rfl, rfl, rfl, rfl, congrArg (Value.int .i64) (by rw [e]; first | done | rfl), trivial⟩
        rintro k f w ⟨hc2, H⟩
        refine TW.seq ?_
        refine TW.region ?_
        refine LW.v (r_fa) ?_
        refine LW.v (r_ld H) ?_
        refine LW.v (r_bin) ?_
        refine LW.nil ?_
        refine TW.c rfl (fun hb => ?_) (fun hb => ?_)
        · have hd0 : 0 < i.rd := by simpa using hb
          have hd : ¬ i.rd = 0 := by omega
          refine TW.region ?_
          refine LW.v (r_fa) ?_
          refine LW.v (r_ld H) ?_
          refine LW.v (r_mv) ?_
          refine LW.v (r_iaA (h0 := hrd.1) (h1 := by have := hrd.2; omega)) ?_
          refine LW.sto (r_stI (k := i.rd.toNat) H (by rw [hkj.len]; omega)) ?_; intro w H
          refine LW.nil ?_
          refine TW.inBlock ?_
          refine TW.region ?_
          refine LW.v (r_mv) ?_
          first | refine LW.v (r_add (hk := w64 (by omega) (by omega))) ?_ | refine LW.v (r_bin) ?_
          refine LW.v (r_as) ?_
          refine LW.nil ?_
          refine again (j + 1) _ _ ⟨by omega, k, by rw [es]; exact hc2, ?_⟩ ⟨rfl, rfl, rfl, rfl, rfl, rfl, trivial⟩ (by omega)
          rw [es]
          simp only [stepF, setF, if_neg hd]
          exact H.drop
        · have hd0 : ¬ 0 < i.rd := by simpa using hb
          have hd : i.rd = 0 := by have := hrd.1; omega
          refine TW.skip <| TW.inBlock ?_
          refine TW.region ?_
          refine LW.v (r_mv) ?_
          first | refine LW.v (r_add (hk := w64 (by omega) (by omega))) ?_ | refine LW.v (r_bin) ?_
          refine LW.v (r_as) ?_
          refine LW.nil ?_
          refine again (j + 1) _ _ ⟨by omega, k, by rw [es]; exact hc2, ?_⟩ ⟨rfl, rfl, rfl, rfl, rfl, rfl, trivial⟩ (by omega)
          rw [es]
          simp only [stepF, setF, if_pos hd]
          exact H.drop
      · have hj2 : ¬ j < l.length := by simpa using hb
        have e2 : l.take j = l := List.take_of_length_le (by omega)
        have hkj := (hpre j hj).1
        rw [e2] at H hc hkj
        refine TW.exit rfl <| TW.seq ?_
        refine TW.region ?_
        refine LW.v (r_ldW H (hp := by rw [vI_size, hkj.len])) ?_
        refine LW.sto (r_stW H (vs := vI (runF l D xs pc).2.1) (h1 := vI_one _) (hs := by rw [vI_size, hkj.len])) ?_; intro w H
        refine LW.v (r_as) ?_
        refine LW.nil ?_
        refine TW.ret (ret2 (by rfl) (rC H (hp := by rw [vI_size, hkj.len])) rT ?_)
        exact ⟨rfl, c, hc, H.drop.drop⟩
theorem rblock_spec {B : Nat} {w0 w : World} {L : List Ck} {q : Nat} {D : List T} {c : Ck} {M : Nat} {l : List X} {pc : Int} {a : Option Addr} {cap : Nat} (hM : M + l.length ≤ 200) (hc : RdC q D c) (hD : Wf D) (hg : Rng D) (hch : ChAll D M) (hlen : D.length < 900000) (hpc : 0 ≤ pc ∧ pc < 4294967296) (hr : RowL B w0 L a l) (H : Hp B w0 w (c :: L)) :
    Calls Tryz.prog 10 #[.pointer (some ⟨q, 0, none⟩), .slice a l.length cap, .int .u32 pc] w fun e w' => e = .returned (.tuple #[.agg (vI (blockF D l pc).1), .int .i64 (blockF D l pc).2.1]) ∧ ∃ c', RdC q (blockF D l pc).2.2 c' ∧ Hp B w0 w' (c' :: L) := by
  refine calls_go Tryz.func10 Tryz.ntmps10 rfl rfl ?_
  refine TW.seq ?_
  refine TW.region ?_
  refine LW.new (r_al H) ?_; intro g6 w H
  refine LW.v (r_as) ?_
  refine LW.nil ?_
  refine TW.seq <| TW.seq ?_
  refine TW.region ?_
  refine LW.v (r_mv) ?_
  have H : Hp B w0 w (Blk g6 32 (vI (List.replicate 32 0)) :: c :: L) := H
  refine LW.c r_c1 ((rall_spec ((hr.cons c).cons _) (by omega) H).mono ?_)
  rintro _ w ⟨rfl, H⟩
  refine ⟨_, rfl, ?_⟩
  refine LW.v (r_not) ?_
  refine LW.nil ?_
  refine TW.c rfl (fun hb => ?_) (fun hb => ?_)
  · have hp : l.all WhI.lplain = false := by simpa using hb
    refine TW.seq ?_
    refine TW.region ?_
    refine LW.v (r_b0) ?_
    refine LW.sto (r_stW H (vs := vI (List.replicate 32 0)) (hy := rfl) (h1 := vI_one _)) ?_; intro w H
    refine LW.v (r_as) ?_
    refine LW.nil ?_
    refine TW.ret (ret2 (by rfl) (rC H) rT ?_)
    exact ⟨by simp only [blockF, hp, Bool.not_false, if_true], c, by simp only [blockF, hp, Bool.not_false, if_true]; exact hc, H.drop⟩
  · have hp : l.all WhI.lplain = true := by simpa using hb
    have eb : blockF D l pc = fromF (startN D 32).2 (startN D 32).1 l pc := by simp only [blockF, hp, Bool.not_true, Bool.false_eq_true, if_false]
    rw [eb]
    have hk := start_ok hD hg hch
    have hdl := startN_dlen D 32
    have hln : (fromF (startN D 32).2 (startN D 32).1 l pc).1.length = 32 := by
      unfold fromF
      have hall : (startN D 32).1.all (WhD.is (startN D 32).2) = true := by rw [List.all_eq_true]; exact fun n hn => (hk.inn n hn).is
      simp only [hall, hp, Bool.not_true, Bool.false_eq_true, if_false]
      exact (runF_ok l _ _ pc hM hk hp).1.len
    refine TW.skip <| TW.seq ?_
    refine TW.region ?_
    refine LW.v (r_mv) ?_
    refine LW.v (r_mv) ?_
    refine LW.c r_c1 ((rstart_spec hc (by omega) H.swap).mono ?_)
    rintro _ w ⟨rfl, c1, hc1, H⟩
    refine ⟨_, rfl, ?_⟩
    refine LW.v (r_mv) ?_
    refine LW.v (r_mv) ?_
    refine LW.c r_c4 ((rfrom_spec hM hc1 hk.wf hk.rng hk.ch hk.len (by omega) hpc (hr.cons _) H).mono ?_)
    rintro _ w ⟨rfl, c2, hc2, H⟩
    refine ⟨_, rfl, ?_⟩
    refine LW.v (r_ext) ?_
    refine LW.v (r_ext) ?_
    refine LW.sto (r_stW H (vs := vI (fromF (startN D 32).2 (startN D 32).1 l pc).1) (hy := rfl) (h1 := vI_one _) (hs := by rw [vI_size, hln])) ?_; intro w H
    refine LW.v (r_as) ?_
    refine LW.nil ?_
    refine TW.ret (ret2 (by rfl) (rC H (hp := by rw [vI_size, hln])) rT ?_)
    exact ⟨rfl, c2, hc2, H.dropAt 1⟩
end Wh
namespace Wh.WhA
open Go WhS WhL
/-- what a call leaves -/
def doesD (D : List T) (o : T) : List T :=
  if o.kind = 0 then (addT D (K o.v)).2 else if o.kind = 1 then (WhD.var D o.a).2.2 else if o.kind = 2 then (WhD.op D o.op o.a o.b).2.2 else D
def laidD (l : List T) : List T := l.foldl doesD []
theorem laidD_take (l : List T) {j : Nat} {o : T} (h : l[j]? = some o) : laidD (l.take (j + 1)) = doesD (laidD (l.take j)) o := by
  rw [List.take_add_one, h]
  simp [laidD, List.foldl_append]
structure Ld (D : List T) (n : Nat) : Prop where
  wf : Wf D
  rng : Rng D
  ch : ChAll D n
  len : D.length ≤ n
theorem ChAll.mono {D : List T} {n m : Nat} (h : ChAll D n) (hm : n ≤ m) : ChAll D m := fun o k hk => (h o k hk).mono hm
theorem Ld.step {D : List T} {n : Nat} (h : Ld D n) {o : T} (hv : 0 ≤ o.v ∧ o.v < 4294967296) : Ld (doesD D o) (n + 1) := by
  have hl := h.len
  have same : Ld D (n + 1) := ⟨h.wf, h.rng, ChAll.mono h.ch (by omega), by omega⟩
  unfold doesD
  split
  · exact ⟨h.wf.add (K_ok _ _), h.rng.add hv, ChAll.mono (h.ch.addK h.wf _) (by omega), by have := addT_len D (K o.v); omega⟩
  · split
    · by_cases hb : o.a < 0 ∨ 32 ≤ o.a
      · have e : WhD.var D o.a = (0, 1, D) := by unfold WhD.var; rw [if_pos hb]
        rw [e]; exact same
      · obtain ⟨h1, h2, h3, _, _⟩ := var_ok h.wf h.rng h.ch (n := o.a) (by omega) (by omega)
        exact ⟨h1, h2, ChAll.mono h3 (by omega), by have := var_len D o.a; omega⟩
    · split
      · by_cases h1 : ¬ WhD.is D o.a ∨ ¬ WhD.is D o.b
        · have e : WhD.op D o.op o.a o.b = (0, 100, D) := by unfold WhD.op; rw [if_pos h1]
          rw [e]; exact same
        · by_cases h2 : (WhI.wdo o.op 0 0).2 ≠ 0
          · have e : WhD.op D o.op o.a o.b = (0, (WhI.wdo o.op 0 0).2, D) := by unfold WhD.op; rw [if_neg h1, if_pos h2]
            rw [e]; exact same
          · have e : WhD.op D o.op o.a o.b = ((addT D ⟨2, 0, o.op, o.a, o.b⟩).1, 0, (addT D ⟨2, 0, o.op, o.a, o.b⟩).2) := by unfold WhD.op; rw [if_neg h1, if_neg h2]
            rw [e]
            have hi : WhD.is D o.a = true ∧ WhD.is D o.b = true := by simpa using h1
            simp only [WhD.is, Bool.and_eq_true, decide_eq_true_eq] at hi
            have ho : WhP.isOp o.op = true := by
              cases hq : WhP.isOp o.op with
              | true => rfl
              | false =>
                exfalso
                apply h2
                simp only [WhP.isOp, Bool.and_eq_false_iff, decide_eq_false_iff_not] at hq
                unfold WhI.wdo
                repeat rw [if_neg (by omega)]
                decide
            refine ⟨h.wf.add (.inr (.inr ⟨rfl, ho, hi.1.1, hi.1.2, hi.2.1, hi.2.2⟩)), h.rng.add ⟨Int.le_refl 0, (by decide : (0 : Int) < 4294967296)⟩, h.ch.add h.wf (fun _ => ⟨hi.1.1, hi.1.2⟩), ?_⟩
            have := addT_len D ⟨2, 0, o.op, o.a, o.b⟩
            simp only
            omega
      · exact same
theorem laid_ok {l : List T} (hv : ∀ o ∈ l, 0 ≤ o.v ∧ o.v < 4294967296) : ∀ j, j ≤ l.length → Ld (laidD (l.take j)) j
  | 0, _ => by
    refine ⟨?_, ?_, ?_, ?_⟩
    · intro i t h; simp [laidD] at h
    · intro t h; simp [laidD] at h
    · intro op n h
      have h1 := h.1; have h2 := h.2
      simp [laidD] at h2
      omega
    · simp [laidD]
  | j + 1, h => by
    have hg : l[j]? = some l[j] := List.getElem?_eq_getElem (by omega)
    rw [laidD_take l hg]
    exact (laid_ok hv j (by omega)).step (hv _ (List.getElem_mem _))
end Wh.WhA
namespace Wh
open Go Go.Proofs
set_option maxRecDepth 100000
theorem sclone_spec {B : Nat} {w0 w : World} {L : List Ck} {v : Value} {D : List T} {mk : Ck → List Ck} (hlen : D.length < 1073741824) (H : Hp B w0 w L) (hR : HasR L v 68 5 D.length (rowOf T.val D) mk := by infer_instance) :
    Calls Tryz.prog 44 #[v] w fun e w' => ∃ v', e = .returned v' ∧ Hp B w0 w' (Row 68 5 v' D.length (rowOf T.val D) :: L) := by
  obtain ⟨a, cap, rfl, hrow, hl⟩ := H.row (v := v)
  have hone : ∀ u ∈ rowOf T.val D, u.oneCell' = true := by
    intro u hu
    simp only [rowOf, List.mem_flatMap] at hu
    obtain ⟨x, _, hu⟩ := hu
    simp [T.val, T.nums, iv, Value.cells] at hu
    rcases hu with rfl | rfl | rfl | rfl | rfl <;> rfl
  cases a with
  | none =>
    have hz : D.length = 0 := by
      rcases hrow with h | ⟨g, h, _⟩
      · exact h
      · cases h
    have hD : D = [] := List.length_eq_zero_iff.1 hz
    subst hD
    refine calls_go Tryz.func44 Tryz.ntmps44 rfl rfl ?_
    refine TW.seq ?_
    refine TW.region ?_
    refine LW.v (r_as) ?_
    refine LW.nil ?_
    refine TW.seq <| TW.seq ?_
    refine TW.region ?_
    refine LW.v (r_mv) ?_
    refine LW.v (r_eqsn) ?_
    refine LW.nil ?_
    refine TW.c rfl (fun _ => ?_) (fun h => by cases h)
    refine TW.seq ?_
    refine TW.region ?_
    refine LW.v (r_as) ?_
    refine LW.nil ?_
    refine TW.ret (ret1 (by rfl) rT ?_)
    refine ⟨_, rfl, ?_⟩
    exact H.new (c' := Row 68 5 (.slice none 0 0) 0 []) (Chg.refl _ _) (World.ownsRow_nil _ _ _ _) (by intro k hk; simp [Row, Value.ownBlock] at hk)
  | some ad =>
    refine calls_go Tryz.func44 Tryz.ntmps44 rfl rfl ?_
    refine TW.seq ?_
    refine TW.region ?_
    refine LW.v (r_as) ?_
    refine LW.nil ?_
    refine TW.seq <| TW.seq ?_
    refine TW.region ?_
    refine LW.v (r_mv) ?_
    refine LW.v (r_eqsn) ?_
    refine LW.nil ?_
    refine TW.c rfl (fun h => by cases h) (fun _ => ?_)
    refine TW.skip <| TW.seq ?_
    refine TW.region ?_
    refine LW.new (r_bs0 H) ?_; intro gs w H
    refine LW.v (r_mv) ?_
    have hnews : ∀ j u, (rowOf T.val D)[j]? = some u → w.cell? (ad.add j) = some u := by
      intro j u hj
      obtain ⟨a2, c2, e2, hrow2, _⟩ := H.row (v := .slice (some ad) D.length cap)
      simp only [Value.slice.injEq] at e2
      obtain ⟨rfl, _, rfl⟩ := e2
      rcases hrow2 with h0 | ⟨g, h1, _, h2⟩
      · have : D = [] := List.length_eq_zero_iff.1 h0
        subst this
        simp [rowOf] at hj
      · cases h1
        exact h2 j u hj
    refine LW.newv (r_app (v := .slice (some ⟨gs, 0, none⟩) 0 0) (k := D.length) H (hl := hl) (news := rowOf T.val D) (hnews := hnews) (h1 := hone) (hb := by omega) (hmax := by omega)) ?_; intro v2 w H
    refine LW.v (r_as) ?_
    refine LW.nil ?_
    refine TW.ret (ret1 (by rfl) rT ?_)
    refine ⟨_, rfl, ?_⟩
    simpa using H
theorem mclone_spec {B : Nat} {w0 w : World} {L : List Ck} {r : Nat} {l : List (T × Int)} {mk : List (T × Int) → List Ck} (H : Hp B w0 w L) (hM : HasM L r T Int T.val i64v l mk := by infer_instance) :
    Calls Tryz.prog 45 #[.map (some r)] w fun e w' => ∃ r', e = .returned (.map (some r')) ∧ Hp B w0 w' (MapC T.val i64v r' l :: L) := by
  refine calls_go Tryz.func45 Tryz.ntmps45 rfl rfl ?_
  refine TW.seq ?_
  refine TW.region ?_
  refine LW.v (r_as) ?_
  refine LW.nil ?_
  refine TW.seq <| TW.seq ?_
  refine TW.region ?_
  refine LW.v (r_mv) ?_
  refine LW.v (r_eqmn) ?_
  refine LW.nil ?_
  refine TW.c rfl (fun h => by cases h) (fun _ => ?_)
  refine TW.skip <| TW.seq ?_
  refine TW.region ?_
  refine LW.v (r_mv) ?_
  refine LW.v (r_mi) ?_
  refine LW.new (r_xmc (enc := T.val) (encv := i64v) (l := l) H) ?_; intro gm w H
  refine LW.v (r_ta) ?_
  refine LW.v (r_as) ?_
  refine LW.nil ?_
  refine TW.ret (ret1 (by rfl) rT ?_)
  exact ⟨gm, rfl, H⟩
theorem begun_first {B : Nat} {w0 w : World} {L : List Ck} {p r : Nat} {x0 x5 : Value} (H : Hp B w0 w (Blk p 90 #[x0, .int .u32 0, .int .i32 0, .int .u32 0, .map none, x5] :: L)) :
    Calls Tryz.prog 43 #[.pointer (some ⟨p, 0, none⟩), .map (some r)] w fun e w' => e = .returned (.tuple #[]) ∧ Hp B w0 w' (Blk p 90 #[x0, .int .u32 1, .int .i32 0, .int .u32 0, .map (some r), x5] :: L) := by
  refine calls_go Tryz.func43 Tryz.ntmps43 rfl rfl ?_
  refine TW.seq ?_
  refine TW.region ?_
  refine LW.new (r_box H) ?_; intro g2 w H
  refine LW.new (r_box H) ?_; intro g3 w H
  refine LW.nil ?_
  refine TW.region ?_
  refine LW.v (r_ld H) ?_
  refine LW.v (r_nil) ?_
  refine LW.v (r_fa) ?_
  refine LW.v (r_fun (h1 := rfl) (h2 := rfl)) ?_
  refine LW.c r_c2 ((once_first _ _ _ _ _ _ _ _ _ _ _ (.map (some r)) rfl (H.perm (perm_front _ 2 _ rfl |>.trans (List.Perm.cons _ (List.Perm.swap _ _ _))))).mono ?_)
  rintro _ w ⟨rfl, H⟩
  refine ⟨_, rfl, ?_⟩
  refine LW.nil ?_
  refine TW.end_ (ret0 (hR := ?_))
  exact ⟨rfl, (H.dropAt 1).dropAt 1⟩
theorem load64_spec {B : Nat} {w0 w : World} {Ls : List Ck} {g : Nat} {x0 x1 x2 x3 x4 : Value} {c : Int} {mk : Array Value → List Ck} (H : Hp B w0 w Ls) (hb : HasB Ls g 90 #[x0, x1, x2, x3, x4, .int .i64 c] mk := by infer_instance) :
    Calls Tryz.prog 47 #[.pointer (some ⟨g, 5, none⟩)] w fun e w' => e = .returned (.int .i64 c) ∧ Hp B w0 w' (mk #[x0, x1, x2, x3, x4, .int .i64 c]) := by
  obtain ⟨R, H, back⟩ := H.pickB (h := hb)
  refine calls_go Tryz.func47 Tryz.ntmps47 rfl rfl ?_
  refine TW.seq ?_
  refine TW.region ?_
  refine LW.v (r_as) ?_
  refine LW.nil ?_
  refine TW.seq ?_
  refine TW.region ?_
  refine LW.v (r_mv) ?_
  refine LW.v (r_nil) ?_
  refine LW.v (r_fa) ?_
  refine LW.v (r_xld H) ?_
  refine LW.v (r_as) ?_
  refine LW.nil ?_
  refine TW.ret (ret1 (by rfl) rT ?_)
  exact ⟨rfl, back _ _ H⟩
theorem store64_spec {B : Nat} {w0 w : World} {Ls : List Ck} {g : Nat} {x0 x1 x2 x3 x4 : Value} {c d : Int} {mk : Array Value → List Ck} (H : Hp B w0 w Ls) (hb : HasB Ls g 90 #[x0, x1, x2, x3, x4, .int .i64 c] mk := by infer_instance) :
    Calls Tryz.prog 46 #[.pointer (some ⟨g, 5, none⟩), .int .i64 d] w fun e w' => e = .returned (.tuple #[]) ∧ Hp B w0 w' (mk #[x0, x1, x2, x3, x4, .int .i64 d]) := by
  obtain ⟨R, H, back⟩ := H.pickB (h := hb)
  refine calls_go Tryz.func46 Tryz.ntmps46 rfl rfl ?_
  refine TW.region ?_
  refine LW.v (r_mv) ?_
  refine LW.v (r_nil) ?_
  refine LW.v (r_fa) ?_
  refine LW.v (r_mv) ?_
  refine LW.vm (r_xst H) ?_; intro w H
  refine LW.nil ?_
  refine TW.end_ (ret0 (hR := ?_))
  exact ⟨rfl, back _ _ H⟩
theorem begun_spec0 (B : Nat) (w0 w : World) (L : List Ck) (p r : Nat) (D : List T) (c : Ck) (hc : DagC p D c) (H : Hp B w0 w (c :: MapC T.val i64v r [] :: L)) :
    Calls Tryz.prog 43 #[.pointer (some ⟨p, 0, none⟩), .map (some r)] w fun e w' => e = .returned (.tuple #[]) ∧ ∃ m v, Hp B w0 w' (dagL p m v D ++ L) := begun_spec B w0 w L p r D c hc H
theorem copy_spec {B : Nat} {w0 w : World} {L : List Ck} {p : Nat} {D : List T} {c : Ck} (hc : DagC p D c) (hlen : D.length < 1073741824) (H : Hp B w0 w (c :: L)) :
    Calls Tryz.prog 19 #[.pointer (some ⟨p, 0, none⟩)] w fun e w' => ∃ p2 c1 c2, e = .returned (.pointer (some ⟨p2, 0, none⟩)) ∧ DagC p D c1 ∧ DagC p2 D c2 ∧ Hp B w0 w' (c1 :: c2 :: L) := by
  refine calls_go Tryz.func19 Tryz.ntmps19 rfl rfl ?_
  refine TW.seq ?_
  refine TW.region ?_
  refine LW.v (r_as) ?_
  refine LW.nil ?_
  refine TW.seq ?_
  refine TW.region ?_
  refine LW.v (r_mv) ?_
  refine LW.new (r_mm T.val i64v H) ?_; intro gm w H
  refine LW.c r_c2 ((begun_spec _ _ _ _ _ _ _ _ hc H.swap).mono ?_)
  rintro _ w ⟨rfl, m, v, H⟩
  refine ⟨_, rfl, ?_⟩
  refine LW.nil ?_
  simp only [dagL, List.cons_append, List.nil_append] at H
  refine TW.seq ?_
  refine TW.region ?_
  refine LW.v (r_mv) ?_
  refine LW.v (r_nil) ?_
  refine LW.v (r_fa) ?_
  refine LW.v (r_ld H) ?_
  refine LW.c r_c1 ((sclone_spec (v := v) hlen H).mono ?_)
  rintro _ w ⟨v2, rfl, H⟩
  refine ⟨_, rfl, ?_⟩
  have hv2 := oneR (v := v2) H
  refine LW.v (r_bd (hT := bs_dag) (ps := [(0, v2)]) (zc := [.slice none 0 0, .int .u32 0, .int .i32 0, .int .u32 0, .map none, .int .i64 0]) (cells := [v2, .int .u32 0, .int .i32 0, .int .u32 0, .map none, .int .i64 0]) (hp := rfl) (hc := by simp [fillC, hv2])) ?_
  refine LW.new (r_box H) ?_; intro g13 w H
  refine LW.v (r_as) ?_
  refine LW.nil ?_
  refine TW.seq ?_
  refine TW.region ?_
  have H : Hp B w0 w (Blk g13 90 #[v2, .int .u32 0, .int .i32 0, .int .u32 0, .map none, .int .i64 0] :: Row 68 5 v2 D.length (rowOf T.val D) :: Blk p 90 #[v, .int .u32 1, .int .i32 0, .int .u32 0, .map (some m), .int .i64 D.length] :: MapC T.val i64v m (numb 0 D) :: Row 68 5 v D.length (rowOf T.val D) :: L) := H
  refine LW.v (r_mv) ?_
  refine LW.v (r_mv) ?_
  refine LW.v (r_nil) ?_
  refine LW.v (r_fa) ?_
  refine LW.v (r_ld H) ?_
  refine LW.c r_c1 ((mclone_spec (r := m) (l := numb 0 D) H).mono ?_)
  rintro _ w ⟨r2, rfl, H⟩
  refine ⟨_, rfl, ?_⟩
  refine LW.c r_c2 ((begun_first H.swap).mono ?_)
  rintro _ w ⟨rfl, H⟩
  refine ⟨_, rfl, ?_⟩
  refine LW.nil ?_
  refine TW.seq ?_
  refine TW.draw [(0, some 1), (1, some 1), (2, some 1), (3, some 0), (4, some 0), (5, some 0), (6, none), (7, none)] [6, 7] hmix (by kernel_rfl) (fun _ _ _ _ _ h => h) H (fun m w => (m = 0 → Hp _ _ w _)) (fun _ h _ => h) ?_
  intro w H
  refine DW.v (by rfl) (Quiet.y (fun _ _ => r_mv)) ?_
  refine DW.v (by rfl) (Quiet.y (fun _ _ => r_nil)) ?_
  refine DW.v (by rfl) (Quiet.y (fun _ _ => r_fa)) ?_
  refine DW.v (by rfl) (Quiet.y (fun _ _ => r_mv)) ?_
  refine DW.v (by rfl) (Quiet.y (fun _ _ => r_nil)) ?_
  refine DW.v (by rfl) (Quiet.y (fun _ _ => r_fa)) ?_
  refine DW.l (by rfl) ?_
  refine LW.c r_c1 ((load64_spec (g := p) (c := D.length) H).mono ?_)
  rintro _ w ⟨rfl, H⟩
  refine ⟨_, rfl, ?_⟩
  refine LW.nil ⟨(fun h => nomatch h), ?_⟩
  refine DW.l (by rfl) ?_
  refine LW.c r_c2 ((store64_spec (g := g13) (c := 0) (d := D.length) H).mono ?_)
  rintro _ w ⟨rfl, H⟩
  refine ⟨_, rfl, ?_⟩
  refine LW.nil ⟨(fun h => nomatch h), ?_⟩
  refine DW.nil (fun _ => ?_)
  refine TW.seq ?_
  refine TW.region ?_
  refine LW.v (r_mv) ?_
  refine LW.v (r_as) ?_
  refine LW.nil ?_
  refine TW.ret (ret1 (by rfl) rT ?_)
  refine ⟨g13, Ck.all (dagL p m v D), Ck.all (dagL g13 r2 v2 D), rfl, .inr ⟨_, _, rfl⟩, .inr ⟨_, _, rfl⟩, ?_⟩
  have H1 : Hp B w0 w (dagL g13 r2 v2 D ++ (dagL p m v D ++ L)) := H
  have H2 := H1.all_of
  have H3 : Hp B w0 w (dagL p m v D ++ (Ck.all (dagL g13 r2 v2 D) :: L)) := by
    refine H2.perm ?_
    exact (List.perm_middle (l₁ := dagL p m v D)).symm
  exact H3.all_of
end Wh
