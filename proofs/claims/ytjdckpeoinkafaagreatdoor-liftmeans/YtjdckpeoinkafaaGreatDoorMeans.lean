/- A part of the walk through the code: contracts of functions, printed by a program of the prover. -/
import Derived.Test.YtjdckpeoinkafaaGreatDoorEval
import Derived.Test.YtjdckpeoinkafaaGreatDoorFix
import Derived.Test.YtjdckpeoinkafaaGreatDoorMn
import Derived.Test.YtjdckpeoinkafaaGreatDoorRfour
set_option linter.all false
namespace Wh
open Go Go.Proofs WhS WhL WhX WhC WhN WhE
set_option maxRecDepth 100000
instance : AI Tryz.prog 32 32 .i64 := ⟨by kernel_rfl, by kernel_rfl⟩
theorem RowL.take {B : Nat} {w0 : World} {L : List Ck} {a : Option Addr} {l : List X} (h : RowL B w0 L a l) (k : Nat) : RowL B w0 L a (l.take k) := by
  rcases h with rfl | ⟨a', h1, h2⟩
  · exact .inl (by simp)
  · exact .inr ⟨a', h1, fun w' H' => rowAt_take (h2 w' H') k⟩
theorem vU_take (c : List Int) (h : c.length = 33) : (vU c).extract 0 (0 + 32) = vU (c.take 32) := by
  apply Array.toList_inj.1
  simp [vU, List.map_take]
theorem means_spec {B : Nat} {w0 w : World} {L : List Ck} {l : List X} {a : Option Addr} {cap : Nat} {c : List Int} (hB : 0 < B) (hG : RowAt w0 ⟨0, 0, none⟩ tabV) (hr : RowL B w0 L a l) (hcap : l.length ≤ cap) (hcm : cap ≤ 9223372036854775807) (hcw : Wc c) (H : Hp B w0 w L) :
    Calls Tryz.prog 5 #[.slice a l.length cap, .agg (vU c)] w fun e w' => e = .returned (.bool true) ∧ Hp B w0 w' L := by
  refine calls_go Tryz.func5 Tryz.ntmps5 rfl rfl ?_
  refine TW.seq ?_
  refine TW.region ?_
  refine LW.new (r_box H) ?_; intro g3 w H
  have H : Hp B w0 w (Blk g3 45 (vU c) :: L) := H
  refine LW.v (r_as) ?_
  refine LW.nil ?_
  refine TW.seq ?_
  refine TW.region ?_
  refine LW.c r_c0 ((new_spec _ _ _ _ H).mono ?_)
  rintro _ w ⟨p, k, rfl, hk, H⟩
  refine ⟨_, rfl, ?_⟩
  refine LW.v (r_as) ?_
  refine LW.nil ?_
  refine TW.seq <| TW.seq ?_
  refine TW.region ?_
  refine LW.v (r_mv) ?_
  refine LW.v (r_eqn) ?_
  refine LW.nil ?_
  refine TW.c rfl (fun h => by cases h) (fun _ => ?_)
  refine TW.skip <| TW.seq ?_
  refine TW.region ?_
  refine LW.v (r_mv) ?_
  refine LW.v (r_mv) ?_
  refine LW.v (r_len) ?_
  refine LW.v (r_min) ?_
  have hlen : (l.take 30).length = min l.length 30 := by rw [List.length_take, Nat.min_comm]
  have hrt := hr.take 30
  generalize l.take 30 = lt at *
  have hpc := (hcw.at (k := 32) (by decide)).1
  refine LW.v (r_slk (a := a) (len := l.length) (cap := cap) (h := if 30 < (l.length : Int) then 30 else (l.length : Int)) (k := lt.length) (by split <;> omega) (by split <;> omega) (by split <;> omega)) ?_
  refine LW.v (r_as) ?_
  refine LW.nil ?_
  refine TW.seq ?_
  refine TW.region ?_
  refine LW.v (r_mv) ?_
  refine LW.v (r_mv) ?_
  refine LW.v (r_fa) ?_
  refine LW.v (r_ldc (cellK (enc := u32v) (g := g3) (k := 32) H hpc)) ?_
  refine LW.c r_c3 ((block_spec (M := 0) (l := lt) (pc := pcOf c) (cap := cap) (a := a) hB hG (by omega) hk wf0 rng0 (ch0 0) (by decide) (hrt.cons _) H).mono ?_)
  rintro _ w ⟨rfl, k2, hk2, H⟩
  refine ⟨_, rfl, ?_⟩
  have hst := start_ok wf0 rng0 (ch0 0)
  have hyes : lt.all WhI.lplain = true → blockF [] lt (pcOf c) = ((runF lt (startN [] 32).2 (startN [] 32).1 (pcOf c)).2.1, 0, (runF lt (startN [] 32).2 (startN [] 32).1 (pcOf c)).1) := by
    intro hp
    unfold blockF fromF
    have hall : (startN [] 32).1.all (WhD.is (startN [] 32).2) = true := by rw [List.all_eq_true]; exact fun n hn => (hst.inn n hn).is
    simp only [hall, hp, Bool.not_true, Bool.false_eq_true, if_false]
  have hno : lt.all WhI.lplain = false → blockF [] lt (pcOf c) = (List.replicate 32 0, 120, []) := by
    intro hp
    unfold blockF
    simp only [hp, Bool.not_false, if_true]
  have hbl : (blockF [] lt (pcOf c)).1.length = 32 := by
    cases hp : lt.all WhI.lplain
    · rw [hno hp]; rfl
    · rw [hyes hp]; exact (runF_ok lt _ _ _ (M := 0) (by omega) hst hp).1.len
  generalize blockF [] lt (pcOf c) = bf at *
  obtain ⟨xs, e, D⟩ := bf
  simp only at hbl hk2
  clear hk
  refine LW.v (r_mv) ?_
  refine LW.v (r_ext) ?_
  refine LW.v (r_ext) ?_
  refine LW.new (r_al H) ?_; intro g6 w H
  refine LW.sto (r_stW H (vs := vI xs) (hy := rfl) (h1 := vI_one _) (hs := by rw [vI_size, hbl])) ?_; intro w H
  refine LW.v (r_as) ?_
  refine LW.nil ?_
  refine TW.seq ?_
  refine TW.region ?_
  refine LW.v (r_ldW (cs := vU c) H (hp := by rw [vU_size, hcw.len])) ?_
  refine LW.new (r_al H) ?_; intro g8 w H
  refine LW.sto (r_stW H (vs := vU c) (h1 := vU_one _) (hs := by rw [vU_size, hcw.len])) ?_; intro w H
  refine LW.nil ?_
  refine TW.seq ?_
  refine TW.region ?_
  refine LW.v (r_fa) ?_
  refine LW.v (r_iaA (h0 := by omega) (h1 := by omega)) ?_
  refine LW.sto (r_stK (enc := u32v) (k := 0) (m := 0) (xs := c) H (by rw [hcw.len]; decide) rfl) ?_; intro w H
  refine LW.nil ?_
  have h0w : Wc (c.set 0 0) := hcw.set ⟨by decide, by decide⟩
  have H : Hp B w0 w (Blk g8 45 (vU (c.set 0 0)) :: Blk g6 32 (vI xs) :: k2 :: Blk g3 45 (vU c) :: L) := H
  refine TW.seq <| TW.seq ?_
  refine TW.region ?_
  refine LW.v (r_as) ?_
  refine LW.nil ?_
  refine TW.block ?_
  refine TW.lp (σ := Nat) (fun j w' => j ≤ lt.length ∧ (lt.take j).all WhI.lplain = true ∧ Wc (runC (lt.take j) (c.set 0 0)) ∧ Hp B w0 w' (Blk g8 45 (vU (runC (lt.take j) (c.set 0 0))) :: Blk g6 32 (vI xs) :: k2 :: Blk g3 45 (vU c) :: L)) (fun j => [(0, .slice a lt.length cap), (3, .pointer (some ⟨g3, 0, none⟩)), (5, .pointer (some ⟨p, 0, none⟩)), (6, .pointer (some ⟨g6, 0, none⟩)), (7, .int .i64 e), (8, .pointer (some ⟨g8, 0, none⟩)), (9, .int .i64 (j : Int))]) (fun j => lt.length - j) (0) (⟨Nat.zero_le _, by simp, h0w, H⟩) (⟨rfl, rfl, rfl, rfl, rfl, rfl, rfl, trivial⟩) ?_
  rintro j f w ⟨hj, hjp, hjw, H⟩ again
  refine TW.seq <| TW.seq ?_
  refine TW.region ?_
  refine LW.v (r_mv) ?_
  refine LW.v (r_mv) ?_
  refine LW.v (r_len) ?_
  refine LW.v (r_bin) ?_
  refine LW.nil ?_
  refine TW.c rfl (fun hb => ?_) (fun hb => ?_)
  · have hj2 : j < lt.length := by simpa using hb
    have hgl : lt[j]? = some lt[j] := List.getElem?_eq_getElem hj2
    obtain ⟨a', rfl, hrow⟩ := hrt.resolve_left (fun e => by subst e; simp at hj2)
    have hrt' := runC_take lt (c.set 0 0) hgl
    generalize hm : runC (lt.take j) (c.set 0 0) = m at *
    have hdw := doesF_wc hjw lt[j]
    refine TW.skip <| TW.seq <| TW.block <| TW.seq ?_
    refine TW.joinG (σ := Nat) (fun g10 w' => Hp B w0 w' (Blk g10 45 (vU (doesF m lt[j]).1) :: Blk g8 45 (vU (m)) :: Blk g6 32 (vI xs) :: k2 :: Blk g3 45 (vU c) :: L)) (fun g10 => [(0, .slice (some a') lt.length cap), (3, .pointer (some ⟨g3, 0, none⟩)), (5, .pointer (some ⟨p, 0, none⟩)), (6, .pointer (some ⟨g6, 0, none⟩)), (7, .int .i64 e), (8, .pointer (some ⟨g8, 0, none⟩)), (9, .int .i64 (j : Int)), (10, .pointer (some ⟨g10, 0, none⟩)), (11, .bool (doesF m lt[j]).2)]) (fun go => ?_) ?_
    · refine TW.drawE [(none, some 5, fun w => Hp B w0 w (Blk g8 45 (vU (m)) :: Blk g6 32 (vI xs) :: k2 :: Blk g3 45 (vU c) :: L))] hmix (by kernel_rfl) (fun _ _ _ _ _ h => h) H (fun w H => (Sat.cons (fun _ _ => (by first | exact H | exact H.drop)) Sat.nil)) ?_
      intro w H
      refine EW.m (j := 0) (i := 0) (by kernel_rfl) (by rfl) (by kernel_rfl) rfl rfl (by kernel_rfl) (Quiet.y (fun _ h => r_ldW (cs := vU m) h (hp := by rw [vU_size, hjw.len]))) ?_
      refine EW.v (i := 1) (by kernel_rfl) (by rfl) (by kernel_rfl) (Quiet.y (fun _ _ => r_mv)) ?_
      refine EW.v (i := 2) (by kernel_rfl) (by rfl) (by kernel_rfl) (Quiet.y (fun _ _ => r_mv)) ?_
      refine EW.v (i := 3) (by kernel_rfl) (by rfl) (by kernel_rfl) (Quiet.y (fun _ _ => r_iaS (h0 := by omega) (h1 := by omega))) ?_
      refine EW.m (j := 0) (i := 4) (by kernel_rfl) (by rfl) (by kernel_rfl) rfl rfl (by kernel_rfl) (Quiet.y (fun _ h => r_ldR (i := j) (hrow _ h.drop.drop.drop.drop) hgl (fun _ => rfl) (size := 5))) ?_
      refine EW.loud 5 [9] (by kernel_rfl) ?_
      intro i hi
      simp only [List.mem_cons, List.not_mem_nil, or_false] at hi
      rcases hi with rfl | rfl
      · refine ⟨_, rfl, ?_⟩
        refine LW.c r_c2 ((rdoes_spec _ _ _ _ m lt[j] hjw H).mono ?_)
        rintro _ w ⟨rfl, H⟩
        refine ⟨_, rfl, ?_⟩
        refine LW.nil ⟨(Sat.cons (fun _ h => Bool.noConfusion ((show lit _ 5 = true by kernel_rfl).symm.trans (h 5 rfl))) Sat.nil), ?_⟩
        refine EW.v (i := 6) (by kernel_rfl) (by rfl) (by kernel_rfl) (Quiet.y (fun _ _ => r_mv)) ?_
        refine EW.v (i := 7) (by kernel_rfl) (by rfl) (by kernel_rfl) (Quiet.y (fun _ _ => r_ext)) ?_
        refine EW.v (i := 8) (by kernel_rfl) (by rfl) (by kernel_rfl) (Quiet.y (fun _ _ => r_ext)) ?_
        refine EW.loud 9 [] (by kernel_rfl) ?_
        intro i hi
        simp only [List.mem_cons, List.not_mem_nil, or_false] at hi
        subst hi
        refine ⟨_, rfl, ?_⟩
        refine LW.new (r_al H) ?_; intro g10 w H
        refine LW.nil ⟨(Sat.cons (fun _ h => Bool.noConfusion ((show lit _ 5 = true by kernel_rfl).symm.trans (h 5 rfl))) Sat.nil), ?_⟩
        refine EW.loud 10 [] (by kernel_rfl) ?_
        intro i hi
        simp only [List.mem_cons, List.not_mem_nil, or_false] at hi
        subst hi
        refine ⟨_, rfl, ?_⟩
        refine LW.sto (r_stW H (vs := vU (doesF m lt[j]).1) (hy := rfl) (h1 := vU_one _) (hs := by rw [vU_size, hdw.len])) ?_; intro w H
        refine LW.nil ⟨(Sat.cons (fun _ h => Bool.noConfusion ((show lit _ 5 = true by kernel_rfl).symm.trans (h 5 rfl))) Sat.nil), ?_⟩
        refine EW.v (i := 11) (by kernel_rfl) (by rfl) (by kernel_rfl) (Quiet.y (fun _ _ => r_as)) ?_
        refine EW.nil (by kernel_rfl) (fun _ => ?_)
        exact go g10 _ _ H ⟨rfl, rfl, rfl, rfl, rfl, rfl, rfl, rfl, rfl, trivial⟩
      · refine ⟨_, rfl, ?_⟩
        refine LW.new (r_al H) ?_; intro g10 w H
        refine LW.nil ⟨(Sat.cons (fun _ _ => (by first | exact H | exact H.drop)) Sat.nil), ?_⟩
        refine EW.loud 5 [] (by kernel_rfl) ?_
        intro i hi
        simp only [List.mem_cons, List.not_mem_nil, or_false] at hi
        subst hi
        refine ⟨_, rfl, ?_⟩
        refine LW.c r_c2 ((rdoes_spec _ _ _ _ m lt[j] hjw H).mono ?_)
        rintro _ w ⟨rfl, H⟩
        refine ⟨_, rfl, ?_⟩
        refine LW.nil ⟨(Sat.cons (fun _ h => Bool.noConfusion ((show lit _ 5 = true by kernel_rfl).symm.trans (h 5 rfl))) Sat.nil), ?_⟩
        refine EW.v (i := 6) (by kernel_rfl) (by rfl) (by kernel_rfl) (Quiet.y (fun _ _ => r_mv)) ?_
        refine EW.v (i := 7) (by kernel_rfl) (by rfl) (by kernel_rfl) (Quiet.y (fun _ _ => r_ext)) ?_
        refine EW.v (i := 8) (by kernel_rfl) (by rfl) (by kernel_rfl) (Quiet.y (fun _ _ => r_ext)) ?_
        refine EW.loud 10 [] (by kernel_rfl) ?_
        intro i hi
        simp only [List.mem_cons, List.not_mem_nil, or_false] at hi
        subst hi
        refine ⟨_, rfl, ?_⟩
        refine LW.sto (r_stW H (vs := vU (doesF m lt[j]).1) (hy := rfl) (h1 := vU_one _) (hs := by rw [vU_size, hdw.len])) ?_; intro w H
        refine LW.nil ⟨(Sat.cons (fun _ h => Bool.noConfusion ((show lit _ 5 = true by kernel_rfl).symm.trans (h 5 rfl))) Sat.nil), ?_⟩
        refine EW.v (i := 11) (by kernel_rfl) (by rfl) (by kernel_rfl) (Quiet.y (fun _ _ => r_as)) ?_
        refine EW.nil (by kernel_rfl) (fun _ => ?_)
        exact go g10 _ _ H ⟨rfl, rfl, rfl, rfl, rfl, rfl, rfl, rfl, rfl, trivial⟩
    intro g10 f w H
    refine TW.seq <| TW.seq ?_
    refine TW.region ?_
    refine LW.v (r_mv) ?_
    refine LW.v (r_not) ?_
    refine LW.nil ?_
    refine TW.c rfl (fun hb => ?_) (fun hb => ?_)
    · have hnp : WhI.lplain lt[j] = false := by
        have : (doesF m lt[j]).2 = false := by simpa using hb
        rwa [does_lplain] at this
      have hall : lt.all WhI.lplain = false := by
        rw [List.all_eq_false]
        exact ⟨lt[j], List.getElem_mem hj2, by rw [hnp]; simp⟩
      have hz := hno hall
      simp only [Prod.mk.injEq] at hz
      obtain ⟨rfl, rfl, rfl⟩ := hz
      refine TW.seq ?_
      refine TW.region ?_
      refine LW.v (r_mv) ?_
      refine LW.v (r_bin) ?_
      refine LW.v (r_mv) ?_
      refine LW.yes (by rfl) (by rfl) (by rfl) (by rfl) (by rfl) ?_
      refine LW.v (r_ldW (cs := vI (List.replicate 32 0)) H) ?_
      refine LW.yes (by rfl) (by rfl) (by rfl) (by rfl) (by rfl) ?_
      refine LW.v (r_b0) ?_
      refine LW.yes (by rfl) (by rfl) (by rfl) (by rfl) (by rfl) ?_
      refine LW.v (r_eqA (List.replicate 32 0) (List.replicate 32 0) (hxl := rfl) (hyl := rfl)) ?_
      refine LW.v (r_pick) ?_
      refine LW.v (r_mv) ?_
      refine LW.yes (by rfl) (by rfl) (by rfl) (by rfl) (by rfl) ?_
      refine LW.c r_c0 ((fixed_spec hB hG H).mono ?_)
      rintro _ w ⟨rfl, H⟩
      refine ⟨_, rfl, ?_⟩
      refine LW.v (r_pick) ?_
      refine LW.v (r_as) ?_
      refine LW.nil ?_
      refine TW.ret (ret1 (by rfl) rT ?_)
      exact ⟨rfl, H.drop.drop.drop.drop.drop⟩
    · have hnp : WhI.lplain lt[j] = true := by
        have : (doesF m lt[j]).2 = true := by simpa using hb
        rwa [does_lplain] at this
      refine TW.skip ?_
      refine TW.region ?_
      refine LW.v (r_ldW (cs := vU (doesF m lt[j]).1) H (hp := by rw [vU_size, hdw.len])) ?_
      refine LW.sto (r_stW H (vs := vU (doesF m lt[j]).1) (h1 := vU_one _) (hs := by rw [vU_size, hdw.len]) (hp := by rw [vU_size, hjw.len])) ?_; intro w H
      refine LW.nil ?_
      refine TW.inBlock ?_
      refine TW.region ?_
      refine LW.v (r_mv) ?_
      first | refine LW.v (r_add (hk := w64 (by omega) (by omega))) ?_ | refine LW.v (r_bin) ?_
      refine LW.v (r_as) ?_
      refine LW.nil ?_
      refine again (j + 1) _ _ ⟨by omega, ?_, by rw [hrt']; exact hdw, by rw [hrt']; exact H.drop⟩ ⟨rfl, rfl, rfl, rfl, rfl, rfl, rfl, trivial⟩ (by omega)
      rw [List.take_add_one, hgl, List.all_append, hjp]
      simp [hnp]
  · have hj2 : ¬ j < lt.length := by simpa using hb
    have ej : lt.take j = lt := List.take_of_length_le (by omega)
    rw [ej] at hjp hjw H
    have hz := hyes hjp
    simp only [Prod.mk.injEq] at hz
    obtain ⟨rfl, rfl, rfl⟩ := hz
    have hx : ∀ v ∈ c.take 32, 0 ≤ v ∧ v < 4294967296 := fun v hv => hcw.rng v (List.mem_of_mem_take hv)
    have hrel := Rel.run hx lt _ 0 _ _ _ (by omega) (Rel.start hcw) hjp
    have hdl := (runF_ok lt _ _ (pcOf c) (M := 0) (by omega) hst hjp).2.1
    have hsl := startN_dlen [] 32
    simp only [List.length_nil] at hsl
    have hxl : (c.take 32).length = 32 := by simp [hcw.len]
    generalize hR : runF lt (startN [] 32).2 (startN [] 32).1 (pcOf c) = R at *
    generalize hM : runC lt (c.set 0 0) = m at *
    have hok := hrel.ok
    refine TW.exit rfl <| TW.seq <| TW.seq ?_
    refine TW.region ?_
    refine LW.v (r_as) ?_
    refine LW.nil ?_
    refine TW.block ?_
    refine TW.lp (σ := Nat) (fun r w' => r ≤ 32 ∧ ∃ k, DagC p R.1 k ∧ Hp B w0 w' (Blk g8 45 (vU m) :: Blk g6 32 (vI R.2.1) :: k :: Blk g3 45 (vU c) :: L)) (fun r => [(3, .pointer (some ⟨g3, 0, none⟩)), (5, .pointer (some ⟨p, 0, none⟩)), (6, .pointer (some ⟨g6, 0, none⟩)), (7, .int .i64 0), (8, .pointer (some ⟨g8, 0, none⟩)), (12, .int .i64 (r : Int))]) (fun r => 32 - r) (0) (⟨by omega, k2, hk2, H⟩) (⟨rfl, rfl, rfl, rfl, rfl, rfl, trivial⟩) ?_
    rintro r f w ⟨hr32, k, hk, H⟩ again
    refine TW.seq <| TW.seq ?_
    refine TW.region ?_
    refine LW.v (r_mv) ?_
    refine LW.v (r_bin) ?_
    refine LW.nil ?_
    refine TW.c rfl (fun hb => ?_) (fun hb => ?_)
    · have hr3 : (r : Int) < 32 := by simpa using hb
      have hr2 : r < 32 := by omega
      have hxr := hok.reg (r := (r : Int)) (by omega) (by omega)
      have hmr := (hrel.wc.at (k := r) (by omega)).1
      have hvr := hrel.val r hr2
      rw [Int.toNat_natCast] at hxr
      refine TW.skip <| TW.seq <| TW.block <| TW.seq ?_
      refine TW.draw [(0, some 0), (1, some 0), (2, some 0), (3, some 0), (4, some 0), (5, some 0), (6, none), (7, some 1), (8, some 1), (9, some 1), (10, some 1), (11, some 1)] [6] hmix (by kernel_rfl) (fun _ _ _ _ _ h => h) H (fun m w => (m = 0 → Hp _ _ w _)) (fun _ h _ => h) ?_
      intro w H
      refine DW.v (by rfl) (Quiet.y (fun _ _ => r_mv)) ?_
      refine DW.v (by rfl) (Quiet.y (fun _ _ => r_mv)) ?_
      refine DW.v (by rfl) (Quiet.y (fun _ _ => r_iaA (h0 := by omega) (h1 := by omega))) ?_
      refine DW.hm (by rfl) (Quiet.y (fun _ h => r_ldc (cellI (g := g6) (k := r) (h rfl) hxr.1))) ?_
      refine DW.v (by rfl) (Quiet.y (fun _ _ => r_fa)) ?_
      refine DW.hm (by rfl) (Quiet.y (fun _ h => r_ldA (h rfl) (hp := by rw [vU_size, hcw.len]; decide) (hv := congrArg Value.agg (vU_take c hcw.len)))) ?_
      refine DW.l (by rfl) ?_
      refine LW.c r_c3 ((eval_spec hk hok.wf hok.rng hxr.2 (by omega) hxl hx (H.front 2 rfl)).mono ?_)
      rintro _ w ⟨ss, hp, rfl, H⟩
      refine ⟨_, rfl, ?_⟩
      refine LW.nil ⟨(fun h => nomatch h), ?_⟩
      simp only [List.eraseIdx] at H
      have hev := (eval_val (x := c.take 32) hok.wf hxr.2 hp).trans hvr
      refine DW.v (by rfl) (Quiet.y (fun _ _ => r_mv)) ?_
      refine DW.v (by rfl) (Quiet.y (fun _ _ => r_ext)) ?_
      refine DW.v (by rfl) (Quiet.y (fun _ _ => r_ext)) ?_
      refine DW.v (by rfl) (Quiet.y (fun _ _ => r_as)) ?_
      refine DW.v (by rfl) (Quiet.y (fun _ _ => r_as)) ?_
      refine DW.nil (fun _ => ?_)
      refine TW.seq ?_
      refine TW.region ?_
      refine LW.v (r_mv) ?_
      refine LW.v (r_bin) ?_
      refine LW.v (r_mv) ?_
      refine LW.yes (by rfl) (by rfl) (by rfl) (by rfl) (by rfl) ?_
      refine LW.v (r_mv) ?_
      refine LW.yes (by rfl) (by rfl) (by rfl) (by rfl) (by rfl) ?_
      refine LW.v (r_mv) ?_
      refine LW.yes (by rfl) (by rfl) (by rfl) (by rfl) (by rfl) ?_
      refine LW.v (r_fa) ?_
      refine LW.yes (by rfl) (by rfl) (by rfl) (by rfl) (by rfl) ?_
      refine LW.v (r_iaA (h0 := by omega) (h1 := by omega)) ?_
      refine LW.yes (by rfl) (by rfl) (by rfl) (by rfl) (by rfl) ?_
      refine LW.v (r_ldc (cellK (enc := u32v) (g := g8) (k := r) H hmr)) ?_
      refine LW.yes (by rfl) (by rfl) (by rfl) (by rfl) (by rfl) ?_
      refine LW.v (r_bin) ?_
      refine LW.v (r_pick) ?_
      refine LW.nil ?_
      refine TW.c rfl (fun h => absurd h ?_) (fun _ => ?_)
      · rw [hev]
        unfold reg
        simp
      refine TW.skip <| TW.inBlock ?_
      refine TW.region ?_
      refine LW.v (r_mv) ?_
      first | refine LW.v (r_add (hk := w64 (by omega) (by omega))) ?_ | refine LW.v (r_bin) ?_
      refine LW.v (r_as) ?_
      refine LW.nil ?_
      exact again (r + 1) _ _ ⟨by omega, k, hk, H.perm ((List.Perm.swap _ _ _).trans (List.Perm.cons _ (List.Perm.swap _ _ _)))⟩ ⟨rfl, rfl, rfl, rfl, rfl, rfl, trivial⟩ (by omega)
    · refine TW.exit rfl <| TW.seq ?_
      refine TW.region ?_
      refine LW.v (r_mv) ?_
      refine LW.v (r_bin) ?_
      refine LW.v (r_mv) ?_
      refine LW.yes (by rfl) (by rfl) (by rfl) (by rfl) (by rfl) ?_
      refine LW.c r_c0 ((fixed_spec hB hG H).mono ?_)
      rintro _ w ⟨rfl, H⟩
      refine ⟨_, rfl, ?_⟩
      refine LW.v (r_pick) ?_
      refine LW.v (r_as) ?_
      refine LW.nil ?_
      refine TW.ret (ret1 (by rfl) rT ?_)
      exact ⟨rfl, H.drop.drop.drop.drop⟩
end Wh
