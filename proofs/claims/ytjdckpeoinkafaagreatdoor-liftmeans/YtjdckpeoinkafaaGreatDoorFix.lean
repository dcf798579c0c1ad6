/- A part of the walk through the code: contracts of functions, printed by a program of the prover. -/
import Derived.Test.YtjdckpeoinkafaaGreatDoorFx
import Derived.Test.YtjdckpeoinkafaaGreatDoorLift
set_option linter.all false
namespace Wh
open Go Go.Proofs WhS WhL WhX
set_option maxRecDepth 100000
theorem fixed_spec {B : Nat} {w0 w : World} {L : List Ck} (hB : 0 < B) (hG : RowAt w0 ⟨0, 0, none⟩ tabV) (H : Hp B w0 w L) :
    Calls Tryz.prog 12 #[] w fun e w' => e = .returned (.bool true) ∧ Hp B w0 w' L := by
  refine calls_go Tryz.func12 Tryz.ntmps12 rfl rfl ?_
  refine TW.seq ?_
  refine TW.region ?_
  refine LW.v (r_as) ?_
  refine LW.nil ?_
  refine TW.seq ?_
  refine TW.region ?_
  refine LW.c r_c0 ((new_spec _ _ _ _ H).mono ?_)
  rintro _ w ⟨p, c, rfl, hc, H⟩
  refine ⟨_, rfl, ?_⟩
  refine LW.v (r_as) ?_
  refine LW.nil ?_
  refine TW.seq <| TW.seq ?_
  refine TW.region ?_
  refine LW.v (r_mv) ?_
  refine LW.v (r_eqn) ?_
  refine LW.nil ?_
  refine TW.c rfl (fun h => by cases h) (fun _ => ?_)
  refine TW.skip <| TW.seq ?_
  refine TW.region ?_
  refine LW.v (r_mv) ?_
  refine LW.v (r_bd) ?_
  refine LW.v (r_bd) ?_
  refine LW.v (r_bd) ?_
  refine LW.new (r_bsl H (l3.map X.val) (rowOf X.val l3) rfl rfl (hv := by intro v hv; simp [l3] at hv; rcases hv with rfl | rfl | rfl <;> rfl)) ?_; intro gs w H
  have H := H.swap
  have hb1 := block_spec (M := 0) (l := l3) (pc := 256) (cap := 3) hB hG (by decide) hc wf0 rng0 (ch0 0) (by decide) (.inr ⟨⟨gs, 0, none⟩, rfl, fun w' H' => rowAt_blk (g := gs) H'⟩) H
  rw [block3] at hb1
  refine LW.c r_c3 ((hb1).mono ?_)
  rintro _ w ⟨rfl, c, hc, H⟩
  refine ⟨_, rfl, ?_⟩
  have H := H.dropAt 1
  simp only [List.eraseIdx] at H
  refine LW.v (r_mv) ?_
  refine LW.v (r_ext) ?_
  refine LW.v (r_ext) ?_
  refine LW.new (r_al H) ?_; intro g2 w H
  refine LW.sto (r_stW H (vs := vI xsC) (hy := rfl) (h1 := vI_one _) (hs := rfl)) ?_; intro w H
  have H := H.swap
  refine LW.v (r_as) ?_
  refine LW.nil ?_
  refine TW.seq ?_
  refine TW.region ?_
  refine LW.v (r_mv) ?_
  refine LW.c r_c1 ((len_at p dC hc H).mono ?_)
  rintro _ w ⟨rfl, H⟩
  refine ⟨_, rfl, ?_⟩
  refine LW.v (r_as) ?_
  refine LW.nil ?_
  refine TW.seq ?_
  refine TW.region ?_
  refine LW.v (r_mv) ?_
  refine LW.v (r_bd) ?_
  refine LW.new (r_bsl H [X.val ⟨45, 0, 0, 0, 0⟩] (rowOf X.val [⟨45, 0, 0, 0, 0⟩]) rfl rfl (hv := by intro v hv; simp at hv; subst hv; rfl)) ?_; intro gs w H
  have H := H.swap
  have hb2 := block_spec (M := 0) (l := [⟨45, 0, 0, 0, 0⟩]) (pc := 0) (cap := 1) hB hG (by decide) hc wfC rngC (chC 0) (by decide) (.inr ⟨⟨gs, 0, none⟩, rfl, fun w' H' => rowAt_blk (g := gs) H'⟩) H
  rw [block1] at hb2
  refine LW.c r_c3 ((hb2).mono ?_)
  rintro _ w ⟨rfl, c, hc, H⟩
  refine ⟨_, rfl, ?_⟩
  have H := H.dropAt 1
  simp only [List.eraseIdx] at H
  refine LW.v (r_mv) ?_
  refine LW.v (r_ext) ?_
  refine LW.v (r_ext) ?_
  refine LW.new (r_al H) ?_; intro g5 w H
  refine LW.sto (r_stW H (vs := vI (List.replicate 32 0)) (hy := rfl) (h1 := vI_one _) (hs := rfl)) ?_; intro w H
  have H := H.drop
  refine LW.v (r_as) ?_
  refine LW.nil ?_
  refine TW.seq ?_
  refine TW.region ?_
  refine LW.v (r_mv) ?_
  refine LW.v (r_bd1 (vI (-1 :: List.replicate 31 0)) rfl rfl) ?_
  have hb3 := from_spec (M := 0) (l := []) (xs := -1 :: List.replicate 31 0) (pc := 0) (cap := 0) (a := none) hB hG (by decide) hc wfC rngC (chC 0) rfl (by decide) (.inl rfl) H
  rw [from0] at hb3
  refine LW.c r_c4 ((hb3).mono ?_)
  rintro _ w ⟨rfl, c, hc, H⟩
  refine ⟨_, rfl, ?_⟩
  refine LW.v (r_mv) ?_
  refine LW.v (r_ext) ?_
  refine LW.v (r_ext) ?_
  refine LW.new (r_al H) ?_; intro g7 w H
  refine LW.sto (r_stW H (vs := vI (List.replicate 32 0)) (hy := rfl) (h1 := vI_one _) (hs := rfl)) ?_; intro w H
  have H := H.drop
  refine LW.v (r_as) ?_
  refine LW.nil ?_
  refine TW.seq ?_
  refine TW.region ?_
  refine LW.v (r_mv) ?_
  refine LW.v (r_iaA (h0 := by omega) (h1 := by omega)) ?_
  refine LW.v (r_ld H) ?_
  refine LW.c r_c2 ((node_at p dC 32 hc H).mono ?_)
  rintro _ w ⟨rfl, H⟩
  refine ⟨_, rfl, ?_⟩

  refine LW.v (r_mv) ?_
  refine LW.v (r_ext) ?_
  refine LW.v (r_ext) ?_
  refine LW.new (r_al H) ?_; intro g9 w H
  refine LW.sto (r_stW H (vs := (T.cells ⟨0, 5, 0, 0, 0⟩).toArray) (hy := rfl)) ?_; intro w H
  refine LW.v (r_as) ?_
  refine LW.nil ?_
  refine TW.seq ?_
  refine TW.region ?_
  refine LW.v (r_mv) ?_
  refine LW.v (r_iaA (h0 := by omega) (h1 := by omega)) ?_
  refine LW.v (r_ld H) ?_
  refine LW.c r_c2 ((node_at p dC 33 hc H).mono ?_)
  rintro _ w ⟨rfl, H⟩
  refine ⟨_, rfl, ?_⟩

  refine LW.v (r_mv) ?_
  refine LW.v (r_ext) ?_
  refine LW.v (r_ext) ?_
  refine LW.new (r_al H) ?_; intro g11 w H
  refine LW.sto (r_stW H (vs := (T.cells ⟨0, 10, 0, 0, 0⟩).toArray) (hy := rfl)) ?_; intro w H
  refine LW.v (r_as) ?_
  refine LW.nil ?_
  refine TW.seq ?_
  refine TW.region ?_
  refine LW.v (r_mv) ?_
  refine LW.v (r_iaA (h0 := by omega) (h1 := by omega)) ?_
  refine LW.v (r_ld H) ?_
  refine LW.c r_c2 ((node_at p dC 34 hc H).mono ?_)
  rintro _ w ⟨rfl, H⟩
  refine ⟨_, rfl, ?_⟩

  refine LW.v (r_mv) ?_
  refine LW.v (r_ext) ?_
  refine LW.v (r_ext) ?_
  refine LW.new (r_al H) ?_; intro g13 w H
  refine LW.sto (r_stW H (vs := (T.cells ⟨0, 4360, 0, 0, 0⟩).toArray) (hy := rfl)) ?_; intro w H
  refine LW.v (r_as) ?_
  refine LW.nil ?_
  refine TW.seq ?_
  refine TW.region ?_
  refine LW.v (r_mv) ?_
  refine LW.v (r_bin) ?_
  refine LW.v (r_mv) ?_
  refine LW.yes (by rfl) (by rfl) (by rfl) (by rfl) (by rfl) ?_
  refine LW.v (r_mv) ?_
  refine LW.yes (by rfl) (by rfl) (by rfl) (by rfl) (by rfl) ?_
  refine LW.v (r_bin) ?_
  refine LW.v (r_pick) ?_
  refine LW.v (r_mv) ?_
  refine LW.yes (by rfl) (by rfl) (by rfl) (by rfl) (by rfl) ?_
  refine LW.v (r_mv) ?_
  refine LW.yes (by rfl) (by rfl) (by rfl) (by rfl) (by rfl) ?_
  refine LW.c r_c1 ((len_at p dC hc H).mono ?_)
  rintro _ w ⟨rfl, H⟩
  refine ⟨_, rfl, ?_⟩
  refine LW.yes (by rfl) (by rfl) (by rfl) (by rfl) (by rfl) ?_
  refine LW.v (r_mv) ?_
  refine LW.yes (by rfl) (by rfl) (by rfl) (by rfl) (by rfl) ?_
  refine LW.v (r_bin) ?_
  refine LW.v (r_pick) ?_
  refine LW.v (r_mv) ?_
  refine LW.yes (by rfl) (by rfl) (by rfl) (by rfl) (by rfl) ?_
  refine LW.v (r_mv) ?_
  refine LW.yes (by rfl) (by rfl) (by rfl) (by rfl) (by rfl) ?_
  refine LW.v (r_bin) ?_
  refine LW.v (r_pick) ?_
  refine LW.v (r_mv) ?_
  refine LW.yes (by rfl) (by rfl) (by rfl) (by rfl) (by rfl) ?_
  refine LW.v (r_mv) ?_
  refine LW.yes (by rfl) (by rfl) (by rfl) (by rfl) (by rfl) ?_
  refine LW.v (r_bin) ?_
  refine LW.v (r_pick) ?_
  refine LW.v (r_mv) ?_
  refine LW.yes (by rfl) (by rfl) (by rfl) (by rfl) (by rfl) ?_
  refine LW.v (r_mv) ?_
  refine LW.yes (by rfl) (by rfl) (by rfl) (by rfl) (by rfl) ?_
  refine LW.v (r_bin) ?_
  refine LW.v (r_pick) ?_
  refine LW.v (r_mv) ?_
  refine LW.yes (by rfl) (by rfl) (by rfl) (by rfl) (by rfl) ?_
  refine LW.v (r_mv) ?_
  refine LW.yes (by rfl) (by rfl) (by rfl) (by rfl) (by rfl) ?_
  refine LW.v (r_bin) ?_
  refine LW.v (r_pick) ?_
  refine LW.v (r_mv) ?_
  refine LW.yes (by rfl) (by rfl) (by rfl) (by rfl) (by rfl) ?_
  refine LW.v (r_ldW H) ?_
  refine LW.yes (by rfl) (by rfl) (by rfl) (by rfl) (by rfl) ?_
  refine LW.v (r_bd) ?_
  refine LW.yes (by rfl) (by rfl) (by rfl) (by rfl) (by rfl) ?_
  refine LW.v (r_eqs (ks := tks) (ns := [0, 5, 0, 0, 0]) (ms := [0, 5, 0, 0, 0]) rfl rfl) ?_
  refine LW.v (r_pick) ?_
  refine LW.v (r_mv) ?_
  refine LW.yes (by rfl) (by rfl) (by rfl) (by rfl) (by rfl) ?_
  refine LW.v (r_ldW H) ?_
  refine LW.yes (by rfl) (by rfl) (by rfl) (by rfl) (by rfl) ?_
  refine LW.v (r_bd) ?_
  refine LW.yes (by rfl) (by rfl) (by rfl) (by rfl) (by rfl) ?_
  refine LW.v (r_eqs (ks := tks) (ns := [0, 10, 0, 0, 0]) (ms := [0, 10, 0, 0, 0]) rfl rfl) ?_
  refine LW.v (r_pick) ?_
  refine LW.v (r_mv) ?_
  refine LW.yes (by rfl) (by rfl) (by rfl) (by rfl) (by rfl) ?_
  refine LW.v (r_ldW H) ?_
  refine LW.yes (by rfl) (by rfl) (by rfl) (by rfl) (by rfl) ?_
  refine LW.v (r_bd) ?_
  refine LW.yes (by rfl) (by rfl) (by rfl) (by rfl) (by rfl) ?_
  refine LW.v (r_eqs (ks := tks) (ns := [0, 4360, 0, 0, 0]) (ms := [0, 4360, 0, 0, 0]) rfl rfl) ?_
  refine LW.v (r_pick) ?_
  refine LW.v (r_mv) ?_
  refine LW.yes (by rfl) (by rfl) (by rfl) (by rfl) (by rfl) ?_
  refine LW.v (r_bd) ?_
  refine LW.yes (by rfl) (by rfl) (by rfl) (by rfl) (by rfl) ?_
  refine LW.c r_c1 ((lplain_spec _ _ _ _ ⟨27, 0, 0, 0, 0⟩ H).mono ?_)
  rintro _ w ⟨rfl, H⟩
  refine ⟨_, rfl, ?_⟩
  refine LW.v (r_pick) ?_
  refine LW.v (r_mv) ?_
  refine LW.yes (by rfl) (by rfl) (by rfl) (by rfl) (by rfl) ?_
  refine LW.v (r_bd) ?_
  refine LW.yes (by rfl) (by rfl) (by rfl) (by rfl) (by rfl) ?_
  refine LW.c r_c1 ((lplain_spec _ _ _ _ ⟨12, 0, 0, 0, 0⟩ H).mono ?_)
  rintro _ w ⟨rfl, H⟩
  refine ⟨_, rfl, ?_⟩
  refine LW.yes (by rfl) (by rfl) (by rfl) (by rfl) (by rfl) ?_
  refine LW.v (r_not) ?_
  refine LW.v (r_pick) ?_
  refine LW.v (r_as) ?_
  refine LW.nil ?_
  refine TW.ret (ret1 (by rfl) rT ?_)
  exact ⟨rfl, H.drop.drop.drop.drop.drop⟩
end Wh
