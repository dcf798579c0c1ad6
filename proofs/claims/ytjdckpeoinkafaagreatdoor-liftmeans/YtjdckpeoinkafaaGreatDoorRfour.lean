/- A part of the walk through the code: contracts of functions, printed by a program of the prover. -/
import Derived.Test.YtjdckpeoinkafaaGreatDoorCp
import Derived.Test.YtjdckpeoinkafaaGreatDoorRone
import Derived.Test.YtjdckpeoinkafaaGreatDoorRtwo
import Derived.Test.YtjdckpeoinkafaaGreatDoorFwP
set_option linter.all false
namespace Wh
open Go Go.Proofs WhC WhL
set_option maxRecDepth 100000
theorem vU_one (xs : List Int) : (vU xs).toList.all (·.oneCell') = true := by simp [vU, u32v, Value.oneCell']
theorem vU_size (xs : List Int) : (vU xs).size = xs.length := by simp [vU]
theorem rset_spec (B : Nat) (w0 w : World) (L : List Ck) (cs : List Int) (rd v : Int) (hc : Wc cs) (h0 : 0 ≤ rd) (h1 : rd ≤ 31) (hv : 0 ≤ v ∧ v < 4294967296) (H : Hp B w0 w L) :
    Calls Tryz.prog 38 #[.agg (vU cs), .int .i64 rd, .int .u32 v] w fun e w' => e = .returned (.agg (vU (setC cs rd v))) ∧ Hp B w0 w' L := by
  have hp := hc.put (rd := rd) hv
  have hs := hc.setC (rd := rd) hv
  refine calls_go Tryz.func38 Tryz.ntmps38 rfl rfl ?_
  refine TW.seq ?_
  refine TW.region ?_
  refine LW.new (r_box H) ?_; intro g3 w H
  refine LW.new (r_al H) ?_; intro g6 w H
  refine LW.nil ?_
  refine TW.seq <| TW.seq ?_
  refine TW.region ?_
  have H : Hp B w0 w (Blk g6 45 (vU (List.replicate 33 0)) :: Blk g3 45 (vU cs) :: L) := H
  refine LW.v (r_mv) ?_
  refine LW.v (r_bin) ?_
  refine LW.nil ?_
  refine TW.c rfl (fun hb => ?_) (fun hb => ?_)
  · have hr : 0 < rd := by simpa using hb
    refine TW.region ?_
    refine LW.v (r_mv) ?_
    refine LW.v (r_mv) ?_
    refine LW.v (r_fa) ?_
    refine LW.v (r_iaA (h0 := by omega) (h1 := by omega)) ?_
    refine LW.sto (r_stK (enc := u32v) (k := rd.toNat) (xs := cs) H (by rw [hc.len]; omega) rfl) ?_; intro w H
    refine LW.nil ?_
    have H : Hp B w0 w (Blk g6 45 (vU (List.replicate 33 0)) :: Blk g3 45 (vU (putC cs rd v)) :: L) := by unfold putC; rw [if_pos hr]; exact H
    have hpc := (hp.at (k := 32) (by decide)).1
    refine TW.seq ?_
    refine TW.region ?_
    refine LW.v (r_fa) ?_
    refine LW.v (r_ldc (cellK (enc := u32v) (g := g3) (k := 32) H hpc)) ?_
    refine LW.v (r_bin) ?_
    refine LW.v (r_fa) ?_
    refine LW.sto (r_stK (enc := u32v) (k := 32) (xs := putC cs rd v) H (by rw [hp.len]; decide) rfl) ?_; intro w H
    refine LW.nil ?_
    refine TW.seq ?_
    refine TW.region ?_
    refine LW.v (r_ldW (cs := vU (setC cs rd v)) H (hp := by rw [vU_size, hs.len])) ?_
    refine LW.sto (r_stW H (vs := vU (setC cs rd v)) (h1 := vU_one _) (hs := by rw [vU_size, hs.len])) ?_; intro w H
    refine LW.nil ?_
    refine TW.ret (ret1 (by rfl) (rC H (hp := by rw [vU_size, hs.len])) ?_)
    exact ⟨rfl, H.drop.drop⟩
  · have hr : ¬ 0 < rd := by simpa using hb
    have H : Hp B w0 w (Blk g6 45 (vU (List.replicate 33 0)) :: Blk g3 45 (vU (putC cs rd v)) :: L) := by unfold putC; rw [if_neg hr]; exact H
    have hpc := (hp.at (k := 32) (by decide)).1
    refine TW.skip <| TW.seq ?_
    refine TW.region ?_
    refine LW.v (r_fa) ?_
    refine LW.v (r_ldc (cellK (enc := u32v) (g := g3) (k := 32) H hpc)) ?_
    refine LW.v (r_bin) ?_
    refine LW.v (r_fa) ?_
    refine LW.sto (r_stK (enc := u32v) (k := 32) (xs := putC cs rd v) H (by rw [hp.len]; decide) rfl) ?_; intro w H
    refine LW.nil ?_
    refine TW.seq ?_
    refine TW.region ?_
    refine LW.v (r_ldW (cs := vU (setC cs rd v)) H (hp := by rw [vU_size, hs.len])) ?_
    refine LW.sto (r_stW H (vs := vU (setC cs rd v)) (h1 := vU_one _) (hs := by rw [vU_size, hs.len])) ?_; intro w H
    refine LW.nil ?_
    refine TW.ret (ret1 (by rfl) (rC H (hp := by rw [vU_size, hs.len])) ?_)
    exact ⟨rfl, H.drop.drop⟩
theorem rdoes_spec (B : Nat) (w0 w : World) (L : List Ck) (cs : List Int) (i : X) (hc : Wc cs) (H : Hp B w0 w L) :
    Calls Tryz.prog 16 #[.agg (vU cs), i.val] w fun e w' => e = .returned (.tuple #[.agg (vU (doesF cs i).1), .bool (doesF cs i).2]) ∧ Hp B w0 w' L := by
  have h0 : Wc (cs.set 0 0) := hc.set ⟨by decide, by decide⟩
  have hdw := doesF_wc hc i
  refine calls_go Tryz.func16 Tryz.ntmps16 rfl rfl ?_
  refine TW.seq ?_
  refine TW.region ?_
  refine LW.new (r_box H) ?_; intro g2 w H
  refine LW.new (r_box H) ?_; intro g3 w H
  refine LW.new (r_al H) ?_; intro g4 w H
  refine LW.v (r_as) ?_
  refine LW.nil ?_
  refine TW.seq ?_
  refine TW.region ?_
  have H : Hp B w0 w (Blk g4 45 (vU (List.replicate 33 0)) :: Blk g3 31 (iv xks i.nums).toArray :: Blk g2 45 (vU (cs)) :: L) := H
  refine LW.v (r_fa) ?_
  refine LW.v (r_iaA (h0 := by omega) (h1 := by omega)) ?_
  refine LW.sto (r_stK (enc := u32v) (k := 0) (m := 0) (xs := cs) H (by rw [hc.len]; decide) rfl) ?_; intro w H
  refine LW.nil ?_
  have H : Hp B w0 w (Blk g4 45 (vU (List.replicate 33 0)) :: Blk g3 31 (iv xks i.nums).toArray :: Blk g2 45 (vU (cs.set 0 0)) :: L) := H
  generalize hcs0 : cs.set 0 0 = c0 at *
  refine TW.seq <| TW.seq ?_
  refine TW.region ?_
  refine LW.v (r_ldW H) ?_
  refine LW.c r_c1 ((rright_spec _ _ _ _ i H).mono ?_)
  rintro _ w ⟨rfl, H⟩
  refine ⟨_, rfl, ?_⟩
  refine LW.v (r_not) ?_
  refine LW.nil ?_
  refine TW.c rfl (fun hb => ?_) (fun hb => ?_)
  · have hr : ¬ WhI.right i = true := by simpa using hb
    refine TW.seq ?_
    refine TW.region ?_
    refine LW.v (r_ldW (cs := vU c0) H (hp := by rw [vU_size, h0.len])) ?_
    have hd : doesF cs i = (c0, false) := by
      unfold doesF
      rw [hcs0, if_pos (by simpa using hr)]
    refine LW.sto (r_stW H (vs := vU (c0)) (hy := rfl) (h1 := vU_one _) (hs := by rw [vU_size]; rw [hd] at hdw; exact hdw.len)) ?_; intro w H
    refine LW.v (r_as) ?_
    refine LW.nil ?_
    refine TW.ret (ret2 (by rfl) (rC H (hp := by rw [vU_size]; rw [hd] at hdw; exact hdw.len)) rT ?_)
    exact ⟨by rw [hd], H.drop.drop.drop⟩
  · have hr : WhI.right i = true := by simpa using hb
    obtain ⟨hrd, hr1, hr2⟩ := right_regs hr
    have hnr : ¬ (!WhI.right i) = true := by simp [hr]
    refine TW.skip <| TW.seq ?_
    refine TW.region ?_
    refine LW.v (r_fa) ?_
    refine LW.v (r_ld H) ?_
    refine LW.v (r_cv) ?_
    refine LW.v (r_bin) ?_
    refine LW.v (r_as) ?_
    refine LW.nil ?_
    refine TW.seq <| TW.seq ?_
    refine TW.region ?_
    refine LW.v (r_fa) ?_
    refine LW.v (r_ld H) ?_
    refine LW.v (r_bin) ?_
    refine LW.nil ?_
    refine TW.c rfl (fun hb => ?_) (fun hb => ?_)
    · have e0 : i.op = 0 := by simpa using hb
      refine TW.seq ?_
      refine TW.region ?_
      refine LW.v (r_ldW (cs := vU c0) H (hp := by rw [vU_size, h0.len])) ?_
      refine LW.v (r_fa) ?_
      refine LW.v (r_ld H) ?_
      refine LW.v (r_mv) ?_
      refine LW.c r_c3 ((rset_spec _ _ _ _ c0 i.rd (upC i) h0 hrd.1 hrd.2 (WhS.u32_rng _) H).mono ?_)
      rintro _ w ⟨rfl, H⟩
      refine ⟨_, rfl, ?_⟩
      have hd : doesF cs i = (setC c0 i.rd (upC i), true) := by
        unfold doesF
        rw [hcs0, if_neg hnr, if_pos e0]
      refine LW.sto (r_stW H (vs := vU (setC c0 i.rd (upC i))) (hy := rfl) (h1 := vU_one _) (hs := by rw [vU_size]; rw [hd] at hdw; exact hdw.len)) ?_; intro w H
      refine LW.v (r_as) ?_
      refine LW.nil ?_
      refine TW.ret (ret2 (by rfl) (rC H (hp := by rw [vU_size]; rw [hd] at hdw; exact hdw.len)) rT ?_)
      exact ⟨by rw [hd], H.drop.drop.drop⟩
    · have e0 : ¬ i.op = 0 := by simpa using hb
      refine TW.skip <| TW.seq <| TW.seq ?_
      refine TW.region ?_
      refine LW.v (r_fa) ?_
      refine LW.v (r_ld H) ?_
      refine LW.v (r_bin) ?_
      refine LW.nil ?_
      refine TW.c rfl (fun hb => ?_) (fun hb => ?_)
      · have e1 : i.op = 1 := by simpa using hb
        have hpc := (h0.at (k := 32) (by decide)).1
        refine TW.seq ?_
        refine TW.region ?_
        refine LW.v (r_ldW (cs := vU c0) H (hp := by rw [vU_size, h0.len])) ?_
        refine LW.v (r_fa) ?_
        refine LW.v (r_ld H) ?_
        refine LW.v (r_fa) ?_
        refine LW.v (r_ldc (cellK (enc := u32v) (g := g2) (k := 32) H hpc)) ?_
        refine LW.v (r_mv) ?_
        refine LW.v (r_bin) ?_
        refine LW.c r_c3 ((rset_spec _ _ _ _ c0 i.rd (IntKind.u32.wrap (pcOf c0 + upC i)) h0 hrd.1 hrd.2 (WhS.u32_rng _) H).mono ?_)
        rintro _ w ⟨rfl, H⟩
        refine ⟨_, rfl, ?_⟩
        have hd : doesF cs i = (setC c0 i.rd (IntKind.u32.wrap (pcOf c0 + upC i)), true) := by
          unfold doesF
          rw [hcs0, if_neg hnr, if_neg e0, if_pos e1]
        refine LW.sto (r_stW H (vs := vU (setC c0 i.rd (IntKind.u32.wrap (pcOf c0 + upC i)))) (hy := rfl) (h1 := vU_one _) (hs := by rw [vU_size]; rw [hd] at hdw; exact hdw.len)) ?_; intro w H
        refine LW.v (r_as) ?_
        refine LW.nil ?_
        refine TW.ret (ret2 (by rfl) (rC H (hp := by rw [vU_size]; rw [hd] at hdw; exact hdw.len)) rT ?_)
        exact ⟨by rw [hd], H.drop.drop.drop⟩
      · have e1 : ¬ i.op = 1 := by simpa using hb
        have hx1 := h0.reg hr1.1 hr1.2
        have hx2 := h0.reg hr2.1 hr2.2
        refine TW.skip <| TW.seq ?_
        refine TW.draw [(0, some 0), (1, some 0), (2, some 0), (3, some 0), (4, some 0), (5, some 0), (6, some 0), (7, some 0), (8, some 0)] [] hmix (by kernel_rfl) (fun _ _ _ _ _ h => h) H (fun m w => (m = 0 → Hp _ _ w _)) (fun _ h _ => h) ?_
        intro w H
        refine DW.v (by rfl) (Quiet.y (fun _ _ => r_fa)) ?_
        refine DW.hm (by rfl) (Quiet.y (fun _ h => r_ld (h rfl))) ?_
        refine DW.v (by rfl) (Quiet.y (fun _ _ => r_fa)) ?_
        refine DW.hm (by rfl) (Quiet.y (fun _ h => r_ld (h rfl))) ?_
        refine DW.v (by rfl) (Quiet.y (fun _ _ => r_fa)) ?_
        refine DW.v (by rfl) (Quiet.y (fun _ _ => r_iaA (h0 := hr2.1) (h1 := by have := hr2.2; omega))) ?_
        refine DW.hm (by rfl) (Quiet.y (fun _ h => r_ldc (cellK (enc := u32v) (g := g2) (h rfl) hx2.1))) ?_
        refine DW.v (by rfl) (Quiet.y (fun _ _ => r_as)) ?_
        refine DW.v (by rfl) (Quiet.y (fun _ _ => r_as)) ?_
        refine DW.nil (fun _ => ?_)
        refine TW.seq ?_
        refine TW.region ?_
        refine LW.v (r_fa) ?_
        refine LW.v (r_ld H) ?_
        refine LW.c r_c1 ((rplain_spec _ _ _ _ i.op H).mono ?_)
        rintro _ w ⟨rfl, H⟩
        refine ⟨_, rfl, ?_⟩
        refine LW.v (r_mv) ?_
        refine LW.v (r_ext) ?_
        refine LW.v (r_ext) ?_
        refine LW.v (r_as) ?_
        refine LW.v (r_as) ?_
        refine LW.nil ?_
        refine TW.seq <| TW.seq ?_
        refine TW.region ?_
        refine LW.v (r_mv) ?_
        refine LW.nil ?_
        refine TW.c rfl (fun hb => ?_) (fun hb => ?_)
        · have hp : (WhI.plain i.op).2 = true := hb
          have ho : opC i = (WhI.plain i.op).1 := by unfold opC; rw [if_pos hp]
          have hbb : bC c0 i = IntKind.u32.wrap i.imm := by unfold bC; rw [if_pos hp]
          refine TW.seq ?_
          refine TW.region ?_
          refine LW.v (r_mv) ?_
          refine LW.v (r_as) ?_
          refine LW.nil ?_
          refine TW.region ?_
          refine LW.v (r_fa) ?_
          refine LW.v (r_ld H) ?_
          refine LW.v (r_cv) ?_
          refine LW.v (r_as) ?_
          refine LW.nil ?_
          refine TW.seq ?_
          refine TW.region ?_
          refine LW.v (r_mv) ?_
          refine LW.v (r_fa) ?_
          refine LW.v (r_ld H) ?_
          refine LW.v (r_fa) ?_
          refine LW.v (r_iaA (h0 := hr1.1) (h1 := by have := hr1.2; omega)) ?_
          refine LW.v (r_ldc (cellK (enc := u32v) (g := g2) H hx1.1)) ?_
          refine LW.v (r_mv) ?_
          have hbr := bC_rng h0 hr
          have hdo := rdo_spec B w0 w _ (opC i) (reg c0 i.rs1) (bC c0 i) hbr.1 hbr.2 H
          rw [WhR.rdo_wdo hx1.2 hbr] at hdo
          have hwr := WhS.wdo_rng (op := opC i) hx1.2 hbr
          rw [ho, hbb] at hdo hwr
          refine LW.c r_c3 ((hdo).mono ?_)
          rintro _ w ⟨rfl, H⟩
          refine ⟨_, rfl, ?_⟩
          refine LW.v (r_mv) ?_
          refine LW.v (r_ext) ?_
          refine LW.v (r_ext) ?_
          refine LW.v (r_as) ?_
          refine LW.v (r_as) ?_
          refine LW.nil ?_
          refine TW.seq <| TW.seq ?_
          refine TW.region ?_
          refine LW.v (r_mv) ?_
          refine LW.v (r_bin) ?_
          refine LW.nil ?_
          refine TW.c rfl (fun hb => ?_) (fun hb => ?_)
          · have he : (WhI.wdo (opC i) (reg c0 i.rs1) (bC c0 i)).2 ≠ 0 := by rw [ho, hbb]; simpa using hb
            refine TW.seq ?_
            refine TW.region ?_
            refine LW.v (r_ldW (cs := vU c0) H (hp := by rw [vU_size, h0.len])) ?_
            have hd : doesF cs i = (c0, false) := by
              unfold doesF
              rw [hcs0, if_neg hnr, if_neg e0, if_neg e1, if_pos he]
            refine LW.sto (r_stW H (vs := vU (c0)) (hy := rfl) (h1 := vU_one _) (hs := by rw [vU_size]; rw [hd] at hdw; exact hdw.len)) ?_; intro w H
            refine LW.v (r_as) ?_
            refine LW.nil ?_
            refine TW.ret (ret2 (by rfl) (rC H (hp := by rw [vU_size]; rw [hd] at hdw; exact hdw.len)) rT ?_)
            exact ⟨by rw [hd], H.drop.drop.drop⟩
          · have he : ¬ (WhI.wdo (opC i) (reg c0 i.rs1) (bC c0 i)).2 ≠ 0 := by rw [ho, hbb]; simpa using hb
            refine TW.skip <| TW.seq ?_
            refine TW.region ?_
            refine LW.v (r_ldW (cs := vU c0) H (hp := by rw [vU_size, h0.len])) ?_
            refine LW.v (r_fa) ?_
            refine LW.v (r_ld H) ?_
            refine LW.v (r_mv) ?_
            refine LW.c r_c3 ((rset_spec _ _ _ _ c0 i.rd (WhI.wdo ((WhI.plain i.op).1) (reg c0 i.rs1) (IntKind.u32.wrap i.imm)).1 h0 hrd.1 hrd.2 hwr H).mono ?_)
            rintro _ w ⟨rfl, H⟩
            refine ⟨_, rfl, ?_⟩
            have hd : doesF cs i = (setC c0 i.rd (WhI.wdo ((WhI.plain i.op).1) (reg c0 i.rs1) (IntKind.u32.wrap i.imm)).1, true) := by
              unfold doesF
              rw [hcs0, if_neg hnr, if_neg e0, if_neg e1, if_neg he, ho, hbb]
            refine LW.sto (r_stW H (vs := vU (setC c0 i.rd (WhI.wdo ((WhI.plain i.op).1) (reg c0 i.rs1) (IntKind.u32.wrap i.imm)).1)) (hy := rfl) (h1 := vU_one _) (hs := by rw [vU_size]; rw [hd] at hdw; exact hdw.len)) ?_; intro w H
            refine LW.v (r_as) ?_
            refine LW.nil ?_
            refine TW.ret (ret2 (by rfl) (rC H (hp := by rw [vU_size]; rw [hd] at hdw; exact hdw.len)) rT ?_)
            exact ⟨by rw [hd], H.drop.drop.drop⟩
        · have hp : (WhI.plain i.op).2 = false := hb
          have hp' : ¬ (WhI.plain i.op).2 = true := by rw [hp]; exact Bool.noConfusion
          have ho : opC i = i.op := by unfold opC; rw [if_neg hp']
          have hbb : bC c0 i = reg c0 i.rs2 := by unfold bC; rw [if_neg hp']
          refine TW.skip <| TW.seq ?_
          refine TW.region ?_
          refine LW.v (r_mv) ?_
          refine LW.v (r_fa) ?_
          refine LW.v (r_ld H) ?_
          refine LW.v (r_fa) ?_
          refine LW.v (r_iaA (h0 := hr1.1) (h1 := by have := hr1.2; omega)) ?_
          refine LW.v (r_ldc (cellK (enc := u32v) (g := g2) H hx1.1)) ?_
          refine LW.v (r_mv) ?_
          have hbr := bC_rng h0 hr
          have hdo := rdo_spec B w0 w _ (opC i) (reg c0 i.rs1) (bC c0 i) hbr.1 hbr.2 H
          rw [WhR.rdo_wdo hx1.2 hbr] at hdo
          have hwr := WhS.wdo_rng (op := opC i) hx1.2 hbr
          rw [ho, hbb] at hdo hwr
          refine LW.c r_c3 ((hdo).mono ?_)
          rintro _ w ⟨rfl, H⟩
          refine ⟨_, rfl, ?_⟩
          refine LW.v (r_mv) ?_
          refine LW.v (r_ext) ?_
          refine LW.v (r_ext) ?_
          refine LW.v (r_as) ?_
          refine LW.v (r_as) ?_
          refine LW.nil ?_
          refine TW.seq <| TW.seq ?_
          refine TW.region ?_
          refine LW.v (r_mv) ?_
          refine LW.v (r_bin) ?_
          refine LW.nil ?_
          refine TW.c rfl (fun hb => ?_) (fun hb => ?_)
          · have he : (WhI.wdo (opC i) (reg c0 i.rs1) (bC c0 i)).2 ≠ 0 := by rw [ho, hbb]; simpa using hb
            refine TW.seq ?_
            refine TW.region ?_
            refine LW.v (r_ldW (cs := vU c0) H (hp := by rw [vU_size, h0.len])) ?_
            have hd : doesF cs i = (c0, false) := by
              unfold doesF
              rw [hcs0, if_neg hnr, if_neg e0, if_neg e1, if_pos he]
            refine LW.sto (r_stW H (vs := vU (c0)) (hy := rfl) (h1 := vU_one _) (hs := by rw [vU_size]; rw [hd] at hdw; exact hdw.len)) ?_; intro w H
            refine LW.v (r_as) ?_
            refine LW.nil ?_
            refine TW.ret (ret2 (by rfl) (rC H (hp := by rw [vU_size]; rw [hd] at hdw; exact hdw.len)) rT ?_)
            exact ⟨by rw [hd], H.drop.drop.drop⟩
          · have he : ¬ (WhI.wdo (opC i) (reg c0 i.rs1) (bC c0 i)).2 ≠ 0 := by rw [ho, hbb]; simpa using hb
            refine TW.skip <| TW.seq ?_
            refine TW.region ?_
            refine LW.v (r_ldW (cs := vU c0) H (hp := by rw [vU_size, h0.len])) ?_
            refine LW.v (r_fa) ?_
            refine LW.v (r_ld H) ?_
            refine LW.v (r_mv) ?_
            refine LW.c r_c3 ((rset_spec _ _ _ _ c0 i.rd (WhI.wdo (i.op) (reg c0 i.rs1) (reg c0 i.rs2)).1 h0 hrd.1 hrd.2 hwr H).mono ?_)
            rintro _ w ⟨rfl, H⟩
            refine ⟨_, rfl, ?_⟩
            have hd : doesF cs i = (setC c0 i.rd (WhI.wdo (i.op) (reg c0 i.rs1) (reg c0 i.rs2)).1, true) := by
              unfold doesF
              rw [hcs0, if_neg hnr, if_neg e0, if_neg e1, if_neg he, ho, hbb]
            refine LW.sto (r_stW H (vs := vU (setC c0 i.rd (WhI.wdo (i.op) (reg c0 i.rs1) (reg c0 i.rs2)).1)) (hy := rfl) (h1 := vU_one _) (hs := by rw [vU_size]; rw [hd] at hdw; exact hdw.len)) ?_; intro w H
            refine LW.v (r_as) ?_
            refine LW.nil ?_
            refine TW.ret (ret2 (by rfl) (rC H (hp := by rw [vU_size]; rw [hd] at hdw; exact hdw.len)) rT ?_)
            exact ⟨by rw [hd], H.drop.drop.drop⟩
end Wh
