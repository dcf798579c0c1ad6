/- A part of the walk through the code: contracts of functions, printed by a program of the prover. -/
import Derived.Test.YtjdckpeoinkafaaGreatDoorCopy
import Derived.Test.YtjdckpeoinkafaaGreatDoorReleven
import Derived.Test.YtjdckpeoinkafaaGreatDoorRo
import Derived.Test.YtjdckpeoinkafaaGreatDoorSp
import Derived.Deep.Slices
import Derived.ChangeSame
import Derived.OpenShut
import Derived.ProofKit
set_option linter.all false
namespace Wh
open Go Go.Proofs WhS WhA
set_option maxRecDepth 100000
def RowT (B : Nat) (w0 : World) (L : List Ck) (a : Option Addr) (l : List T) : Prop := l = [] ∨ ∃ a', a = some a' ∧ ∀ w', Hp B w0 w' L → RowAt w' a' (rowOf T.val l)
theorem RowT.cons {B : Nat} {w0 : World} {L : List Ck} {a : Option Addr} {l : List T} (h : RowT B w0 L a l) (c : Ck) : RowT B w0 (c :: L) a l := by
  rcases h with h | ⟨a', h1, h2⟩
  · exact .inl h
  · exact .inr ⟨a', h1, fun w' H' => h2 w' H'.drop⟩
theorem does_spec {B : Nat} {w0 w : World} {L : List Ck} {p q : Nat} {D : List T} {c k : Ck} {x : T} (hc : DagC p D c) (hk : RdC q D k) (hlen : D.length < 1073741824) (H : Hp B w0 w (c :: k :: L)) :
    Calls Tryz.prog 21 #[.pointer (some ⟨p, 0, none⟩), .pointer (some ⟨q, 0, none⟩), x.val] w fun e w' => e = .returned (.bool true) ∧ ∃ c' k', DagC p (doesD D x) c' ∧ RdC q (doesD D x) k' ∧ Hp B w0 w' (c' :: k' :: L) := by
  refine calls_go Tryz.func21 Tryz.ntmps21 rfl rfl ?_
  refine TW.seq ?_
  refine TW.region ?_
  refine LW.new (r_box H) ?_; intro g5 w H
  refine LW.v (r_as) ?_
  refine LW.nil ?_
  refine TW.seq <| TW.seq ?_
  refine TW.region ?_
  refine LW.v (r_fa) ?_
  refine LW.v (r_ld H) ?_
  refine LW.nil ?_
  refine TW.block <| TW.seq ?_
  refine TW.region ?_
  refine LW.v (r_bin) ?_
  refine LW.v (r_as) ?_
  refine LW.nil ?_
  refine TW.c rfl (fun hb => ?_) (fun hb => ?_)
  · have hr0 := hb; have hc0 := hb; try simp only [beq_iff_eq, bne_iff_ne, beq_eq_false_iff_ne, bne_eq_false_iff_eq, decide_eq_true_eq, decide_eq_false_iff_not, Bool.not_eq_true', Bool.not_eq_false', Bool.true_eq, Bool.false_eq, ge_iff_le, gt_iff_lt, Bool.not_eq_eq_eq_not, Bool.not_true, Bool.not_false, ne_eq] at hc0
    refine TW.seq ?_
    refine TW.region ?_
    refine LW.v (r_mv) ?_
    refine LW.v (r_fa) ?_
    refine LW.v (r_ld H) ?_
    refine LW.c r_c2 ((const_at p D x.v hc hlen H).mono ?_)
    rintro _ w ⟨rfl, c', hc', H⟩
    refine ⟨_, rfl, ?_⟩
    refine LW.v (r_as) ?_
    refine LW.nil ?_
    refine TW.seq ?_
    refine TW.region ?_
    refine LW.v (r_mv) ?_
    refine LW.v (r_mv) ?_
    refine LW.v (r_fa) ?_
    refine LW.v (r_ld H) ?_
    refine LW.c r_c2 ((rconst_at q D x.v hk hlen H).mono ?_)
    rintro _ w ⟨rfl, k', hk', H⟩
    refine ⟨_, rfl, ?_⟩
    refine LW.v (r_bin) ?_
    refine LW.v (r_as) ?_
    refine LW.nil ?_
    refine TW.ret (ret1 (by rfl) rT ?_)
    first
    | exact absurd rfl hc0
    | exact absurd trivial hc0
    | exact ⟨by first | rfl | (simp [hc0]; done), _, _, by first | simpa [doesD, K, hc0] using hc' | simpa [doesD, K, hc0] using hc, by first | simpa [doesD, K, hc0] using hk' | simpa [doesD, K, hc0] using hk, H.drop⟩
  · have hr0 := hb; have hc0 := hb; try simp only [beq_iff_eq, bne_iff_ne, beq_eq_false_iff_ne, bne_eq_false_iff_eq, decide_eq_true_eq, decide_eq_false_iff_not, Bool.not_eq_true', Bool.not_eq_false', Bool.true_eq, Bool.false_eq, ge_iff_le, gt_iff_lt, Bool.not_eq_eq_eq_not, Bool.not_true, Bool.not_false, ne_eq] at hc0
    refine TW.seq ?_
    refine TW.region ?_
    refine LW.v (r_bin) ?_
    refine LW.v (r_as) ?_
    refine LW.nil ?_
    refine TW.c rfl (fun hb => ?_) (fun hb => ?_)
    · have hr1 := hb; have hc1 := hb; try simp only [beq_iff_eq, bne_iff_ne, beq_eq_false_iff_ne, bne_eq_false_iff_eq, decide_eq_true_eq, decide_eq_false_iff_not, Bool.not_eq_true', Bool.not_eq_false', Bool.true_eq, Bool.false_eq, ge_iff_le, gt_iff_lt, Bool.not_eq_eq_eq_not, Bool.not_true, Bool.not_false, ne_eq] at hc1
      refine TW.seq ?_
      refine TW.region ?_
      refine LW.v (r_mv) ?_
      refine LW.v (r_fa) ?_
      refine LW.v (r_ld H) ?_
      refine LW.c r_c2 ((var_at p D x.a hc hlen H).mono ?_)
      rintro _ w ⟨rfl, c', hc', H⟩
      refine ⟨_, rfl, ?_⟩
      refine LW.v (r_mv) ?_
      refine LW.v (r_ext) ?_
      refine LW.v (r_ext) ?_
      refine LW.v (r_as) ?_
      refine LW.v (r_as) ?_
      refine LW.nil ?_
      refine TW.seq ?_
      refine TW.region ?_
      refine LW.v (r_mv) ?_
      refine LW.v (r_fa) ?_
      refine LW.v (r_ld H) ?_
      refine LW.c r_c2 ((rvar_at q D x.a hk hlen H).mono ?_)
      rintro _ w ⟨rfl, k', hk', H⟩
      refine ⟨_, rfl, ?_⟩
      refine LW.v (r_mv) ?_
      refine LW.v (r_ext) ?_
      refine LW.v (r_ext) ?_
      refine LW.v (r_as) ?_
      refine LW.v (r_as) ?_
      refine LW.nil ?_
      refine TW.seq ?_
      refine TW.region ?_
      refine LW.v (r_mv) ?_
      refine LW.v (r_mv) ?_
      refine LW.v (r_bin) ?_
      refine LW.v (r_mv) ?_
      refine LW.gen fun b hb => ?_; cases b
      · have hr2 := hb.symm; have hc2 := hb.symm; try simp only [beq_iff_eq, bne_iff_ne, beq_eq_false_iff_ne, bne_eq_false_iff_eq, decide_eq_true_eq, decide_eq_false_iff_not, Bool.not_eq_true', Bool.not_eq_false', Bool.true_eq, Bool.false_eq, ge_iff_le, gt_iff_lt, Bool.not_eq_eq_eq_not, Bool.not_true, Bool.not_false, ne_eq] at hc2
        refine LW.no (by rfl) (by rfl) (by rfl) (by rfl) (by rfl) (by rfl) ?_
        refine LW.no (by rfl) (by rfl) (by rfl) (by rfl) (by rfl) (by rfl) ?_
        refine LW.no (by rfl) (by rfl) (by rfl) (by rfl) (by rfl) (by rfl) ?_
        refine LW.v (r_pick) ?_
        refine LW.v (r_as) ?_
        refine LW.nil ?_
        refine TW.ret (ret1 (by rfl) rT ?_)
        first
        | exact absurd rfl hc2
        | exact absurd trivial hc2
        | exact ⟨by first | rfl | (simp [hc0, hc1, hc2]; done), _, _, by first | simpa [doesD, K, hc0, hc1, hc2] using hc' | simpa [doesD, K, hc0, hc1, hc2] using hc, by first | simpa [doesD, K, hc0, hc1, hc2] using hk' | simpa [doesD, K, hc0, hc1, hc2] using hk, H.drop⟩
      · have hr2 := hb.symm; have hc2 := hb.symm; try simp only [beq_iff_eq, bne_iff_ne, beq_eq_false_iff_ne, bne_eq_false_iff_eq, decide_eq_true_eq, decide_eq_false_iff_not, Bool.not_eq_true', Bool.not_eq_false', Bool.true_eq, Bool.false_eq, ge_iff_le, gt_iff_lt, Bool.not_eq_eq_eq_not, Bool.not_true, Bool.not_false, ne_eq] at hc2
        refine LW.yes (by rfl) (by rfl) (by rfl) (by rfl) (by rfl) ?_
        refine LW.v (r_mv) ?_
        refine LW.yes (by rfl) (by rfl) (by rfl) (by rfl) (by rfl) ?_
        refine LW.v (r_mv) ?_
        refine LW.yes (by rfl) (by rfl) (by rfl) (by rfl) (by rfl) ?_
        refine LW.v (r_bin) ?_
        refine LW.v (r_pick) ?_
        refine LW.v (r_as) ?_
        refine LW.nil ?_
        refine TW.ret (ret1 (by rfl) rT ?_)
        first
        | exact absurd rfl hc2
        | exact absurd trivial hc2
        | exact ⟨by first | rfl | (simp [hc0, hc1, hc2]; done), _, _, by first | simpa [doesD, K, hc0, hc1, hc2] using hc' | simpa [doesD, K, hc0, hc1, hc2] using hc, by first | simpa [doesD, K, hc0, hc1, hc2] using hk' | simpa [doesD, K, hc0, hc1, hc2] using hk, H.drop⟩
    · have hr1 := hb; have hc1 := hb; try simp only [beq_iff_eq, bne_iff_ne, beq_eq_false_iff_ne, bne_eq_false_iff_eq, decide_eq_true_eq, decide_eq_false_iff_not, Bool.not_eq_true', Bool.not_eq_false', Bool.true_eq, Bool.false_eq, ge_iff_le, gt_iff_lt, Bool.not_eq_eq_eq_not, Bool.not_true, Bool.not_false, ne_eq] at hc1
      refine TW.seq ?_
      refine TW.region ?_
      refine LW.v (r_bin) ?_
      refine LW.v (r_as) ?_
      refine LW.nil ?_
      refine TW.c rfl (fun hb => ?_) (fun hb => ?_)
      · have hr2 := hb; have hc2 := hb; try simp only [beq_iff_eq, bne_iff_ne, beq_eq_false_iff_ne, bne_eq_false_iff_eq, decide_eq_true_eq, decide_eq_false_iff_not, Bool.not_eq_true', Bool.not_eq_false', Bool.true_eq, Bool.false_eq, ge_iff_le, gt_iff_lt, Bool.not_eq_eq_eq_not, Bool.not_true, Bool.not_false, ne_eq] at hc2
        refine TW.seq ?_
        refine TW.region ?_
        refine LW.v (r_mv) ?_
        refine LW.v (r_fa) ?_
        refine LW.v (r_ld H) ?_
        refine LW.v (r_fa) ?_
        refine LW.v (r_ld H) ?_
        refine LW.v (r_fa) ?_
        refine LW.v (r_ld H) ?_
        refine LW.c r_c4 ((op_at p D x.op x.a x.b hc hlen H).mono ?_)
        rintro _ w ⟨rfl, c', hc', H⟩
        refine ⟨_, rfl, ?_⟩
        refine LW.v (r_mv) ?_
        refine LW.v (r_ext) ?_
        refine LW.v (r_ext) ?_
        refine LW.v (r_as) ?_
        refine LW.v (r_as) ?_
        refine LW.nil ?_
        refine TW.seq ?_
        refine TW.region ?_
        refine LW.v (r_mv) ?_
        refine LW.v (r_fa) ?_
        refine LW.v (r_ld H) ?_
        refine LW.v (r_fa) ?_
        refine LW.v (r_ld H) ?_
        refine LW.v (r_fa) ?_
        refine LW.v (r_ld H) ?_
        refine LW.c r_c4 ((rop_at q D x.op x.a x.b hk hlen H).mono ?_)
        rintro _ w ⟨rfl, k', hk', H⟩
        refine ⟨_, rfl, ?_⟩
        refine LW.v (r_mv) ?_
        refine LW.v (r_ext) ?_
        refine LW.v (r_ext) ?_
        refine LW.v (r_as) ?_
        refine LW.v (r_as) ?_
        refine LW.nil ?_
        refine TW.seq ?_
        refine TW.region ?_
        refine LW.v (r_mv) ?_
        refine LW.v (r_mv) ?_
        refine LW.v (r_bin) ?_
        refine LW.v (r_mv) ?_
        refine LW.gen fun b hb => ?_; cases b
        · have hr3 := hb.symm; have hc3 := hb.symm; try simp only [beq_iff_eq, bne_iff_ne, beq_eq_false_iff_ne, bne_eq_false_iff_eq, decide_eq_true_eq, decide_eq_false_iff_not, Bool.not_eq_true', Bool.not_eq_false', Bool.true_eq, Bool.false_eq, ge_iff_le, gt_iff_lt, Bool.not_eq_eq_eq_not, Bool.not_true, Bool.not_false, ne_eq] at hc3
          refine LW.no (by rfl) (by rfl) (by rfl) (by rfl) (by rfl) (by rfl) ?_
          refine LW.no (by rfl) (by rfl) (by rfl) (by rfl) (by rfl) (by rfl) ?_
          refine LW.no (by rfl) (by rfl) (by rfl) (by rfl) (by rfl) (by rfl) ?_
          refine LW.v (r_pick) ?_
          refine LW.v (r_as) ?_
          refine LW.nil ?_
          refine TW.ret (ret1 (by rfl) rT ?_)
          first
          | exact absurd rfl hc3
          | exact absurd trivial hc3
          | exact ⟨by first | rfl | (simp [hc0, hc1, hc2, hc3]; done), _, _, by first | simpa [doesD, K, hc0, hc1, hc2, hc3] using hc' | simpa [doesD, K, hc0, hc1, hc2, hc3] using hc, by first | simpa [doesD, K, hc0, hc1, hc2, hc3] using hk' | simpa [doesD, K, hc0, hc1, hc2, hc3] using hk, H.drop⟩
        · have hr3 := hb.symm; have hc3 := hb.symm; try simp only [beq_iff_eq, bne_iff_ne, beq_eq_false_iff_ne, bne_eq_false_iff_eq, decide_eq_true_eq, decide_eq_false_iff_not, Bool.not_eq_true', Bool.not_eq_false', Bool.true_eq, Bool.false_eq, ge_iff_le, gt_iff_lt, Bool.not_eq_eq_eq_not, Bool.not_true, Bool.not_false, ne_eq] at hc3
          refine LW.yes (by rfl) (by rfl) (by rfl) (by rfl) (by rfl) ?_
          refine LW.v (r_mv) ?_
          refine LW.yes (by rfl) (by rfl) (by rfl) (by rfl) (by rfl) ?_
          refine LW.v (r_mv) ?_
          refine LW.yes (by rfl) (by rfl) (by rfl) (by rfl) (by rfl) ?_
          refine LW.v (r_bin) ?_
          refine LW.v (r_pick) ?_
          refine LW.v (r_as) ?_
          refine LW.nil ?_
          refine TW.ret (ret1 (by rfl) rT ?_)
          first
          | exact absurd rfl hc3
          | exact absurd trivial hc3
          | exact ⟨by first | rfl | (simp [hc0, hc1, hc2, hc3]; done), _, _, by first | simpa [doesD, K, hc0, hc1, hc2, hc3] using hc' | simpa [doesD, K, hc0, hc1, hc2, hc3] using hc, by first | simpa [doesD, K, hc0, hc1, hc2, hc3] using hk' | simpa [doesD, K, hc0, hc1, hc2, hc3] using hk, H.drop⟩
      · have hr2 := hb; have hc2 := hb; try simp only [beq_iff_eq, bne_iff_ne, beq_eq_false_iff_ne, bne_eq_false_iff_eq, decide_eq_true_eq, decide_eq_false_iff_not, Bool.not_eq_true', Bool.not_eq_false', Bool.true_eq, Bool.false_eq, ge_iff_le, gt_iff_lt, Bool.not_eq_eq_eq_not, Bool.not_true, Bool.not_false, ne_eq] at hc2
        refine TW.skip <| TW.inBlock <| TW.seq ?_
        refine TW.region ?_
        refine LW.v (r_as) ?_
        refine LW.nil ?_
        refine TW.ret (ret1 (by rfl) rT ?_)
        first
        | exact absurd rfl hc2
        | exact absurd trivial hc2
        | exact ⟨by first | rfl | (simp [hc0, hc1, hc2]; done), _, _, by first | simpa [doesD, K, hc0, hc1, hc2] using hc' | simpa [doesD, K, hc0, hc1, hc2] using hc, by first | simpa [doesD, K, hc0, hc1, hc2] using hk' | simpa [doesD, K, hc0, hc1, hc2] using hk, H.drop⟩
theorem laid_spec {B : Nat} {w0 w : World} {L : List Ck} {l : List T} {a : Option Addr} {cap : Nat} (hr : RowT B w0 L a l) (hv : ∀ o ∈ l, 0 ≤ o.v ∧ o.v < 4294967296) (H : Hp B w0 w L) :
    Calls Tryz.prog 6 #[.slice a l.length cap] w fun e w' => ∃ p q c k, e = .returned (.tuple #[.pointer (some ⟨p, 0, none⟩), .pointer (some ⟨q, 0, none⟩), .bool true]) ∧ DagC p (laidD (l.take 60)) c ∧ RdC q (laidD (l.take 60)) k ∧ Hp B w0 w' (c :: k :: L) := by
  refine calls_go Tryz.func6 Tryz.ntmps6 rfl rfl ?_
  refine TW.seq ?_
  refine TW.region ?_
  refine LW.v (r_as) ?_
  refine LW.v (r_as) ?_
  refine LW.v (r_as) ?_
  refine LW.nil ?_
  refine TW.seq ?_
  refine TW.region ?_
  refine LW.c r_c0 ((new_spec _ _ _ _ H).mono ?_)
  rintro _ w ⟨p, c, rfl, hc, H⟩
  refine ⟨_, rfl, ?_⟩
  refine LW.c r_c0 ((rnew_spec _ _ _ _ H).mono ?_)
  rintro _ w ⟨q, k, rfl, hk, H⟩
  refine ⟨_, rfl, ?_⟩
  refine LW.v (r_as) ?_
  refine LW.v (r_as) ?_
  refine LW.nil ?_
  refine TW.seq <| TW.seq ?_
  refine TW.region ?_
  refine LW.v (r_as) ?_
  refine LW.nil ?_
  refine TW.block ?_
  refine TW.lp (σ := Nat × Nat) (fun s w' => s.1 ≤ l.length ∧ s.1 ≤ 60 ∧ ∃ c k, DagC s.2 (laidD (l.take s.1)) c ∧ RdC q (laidD (l.take s.1)) k ∧ Hp B w0 w' (c :: k :: L)) (fun s => [(0, .slice a l.length cap), (5, .pointer (some ⟨s.2, 0, none⟩)), (6, .pointer (some ⟨q, 0, none⟩)), (7, .int .i64 (s.1 : Int))]) (fun s => 60 - s.1) ((0, p)) (⟨Nat.zero_le _, Nat.zero_le _, c, k, hc, hk, H.swap⟩) (⟨rfl, rfl, rfl, rfl, trivial⟩) ?_
  rintro ⟨i, p⟩ f w ⟨hi, hi60, c, k, hc, hk, H⟩ again
  simp only at hi hi60 hc hk H again ⊢
  refine TW.seq <| TW.seq ?_
  refine TW.join1 H [(0, .slice a l.length cap), (5, .pointer (some ⟨p, 0, none⟩)), (6, .pointer (some ⟨q, 0, none⟩)), (7, .int .i64 (i : Int)), (18, .bool (decide ((i : Int) < l.length) && decide ((i : Int) < 60)))] (fun go => ?_) (fun f w H => ?_)
  · refine TW.region ?_
    refine LW.v (r_mv) ?_
    refine LW.v (r_mv) ?_
    refine LW.v (r_len) ?_
    refine LW.v (r_bin) ?_
    refine LW.v (r_mv) ?_
    refine LW.gen fun b hb => ?_; cases b
    · have hr0 := hb.symm; have hc0 := hb.symm; try simp only [beq_iff_eq, bne_iff_ne, beq_eq_false_iff_ne, bne_eq_false_iff_eq, decide_eq_true_eq, decide_eq_false_iff_not, Bool.not_eq_true', Bool.not_eq_false', Bool.true_eq, Bool.false_eq, ge_iff_le, gt_iff_lt, Bool.not_eq_eq_eq_not, Bool.not_true, Bool.not_false, ne_eq] at hc0
      refine LW.no (by rfl) (by rfl) (by rfl) (by rfl) (by rfl) (by rfl) ?_
      refine LW.no (by rfl) (by rfl) (by rfl) (by rfl) (by rfl) (by rfl) ?_
      refine LW.v (r_pick) ?_
      refine LW.nil ?_
      exact go _ _ H ⟨rfl, rfl, rfl, rfl, congrArg Value.bool (by first | rfl | (simp [hc0]; done) | (exfalso; omega) ), trivial⟩
    · have hr0 := hb.symm; have hc0 := hb.symm; try simp only [beq_iff_eq, bne_iff_ne, beq_eq_false_iff_ne, bne_eq_false_iff_eq, decide_eq_true_eq, decide_eq_false_iff_not, Bool.not_eq_true', Bool.not_eq_false', Bool.true_eq, Bool.false_eq, ge_iff_le, gt_iff_lt, Bool.not_eq_eq_eq_not, Bool.not_true, Bool.not_false, ne_eq] at hc0
      refine LW.yes (by rfl) (by rfl) (by rfl) (by rfl) (by rfl) ?_
      refine LW.v (r_mv) ?_
      refine LW.yes (by rfl) (by rfl) (by rfl) (by rfl) (by rfl) ?_
      refine LW.v (r_bin) ?_
      refine LW.v (r_pick) ?_
      refine LW.nil ?_
      exact go _ _ H ⟨rfl, rfl, rfl, rfl, congrArg Value.bool (by first | rfl | (simp [hc0]; done) | (exfalso; omega) ), trivial⟩
  refine TW.c rfl (fun hb => ?_) (fun hb => ?_)
  · have hb2 : (i : Int) < l.length ∧ (i : Int) < 60 := by simpa using hb
    have hi2 : i < l.length := by omega
    obtain ⟨x, hgl⟩ : ∃ x, l[i]? = some x := ⟨l[i], List.getElem?_eq_getElem hi2⟩
    obtain ⟨a', rfl, hrow⟩ := hr.resolve_left (fun e => by subst e; simp at hi2)
    have es := laidD_take l hgl
    have hlen : (laidD (l.take i)).length < 1073741824 := by have := (laid_ok hv i hi).len; omega
    refine TW.skip <| TW.seq <| TW.block <| TW.seq <| TW.seq ?_
    refine TW.region ?_
    refine LW.v (r_mv) ?_
    refine LW.v (r_eqn) ?_
    refine LW.nil ?_
    refine TW.c rfl (fun h => by cases h) (fun _ => ?_)
    refine TW.skip <| TW.seq <| TW.seq ?_
    refine TW.region ?_
    refine LW.v (r_mv) ?_
    refine LW.v (r_mv) ?_
    refine LW.v (r_iaS (h0 := by omega) (h1 := by omega)) ?_
    refine LW.v (r_faG) ?_
    refine LW.v (r_ldc (rowAt_cell (enc := T.val) (size := 5) (k := 0) (hrow _ H.drop.drop) hgl (fun _ => rfl) rfl)) ?_
    refine LW.v (r_bin) ?_
    refine LW.nil ?_
    refine TW.c rfl (fun hb => ?_) (fun hb => ?_)
    · have hk3 : x.kind = 3 := by simpa [T.val, T.nums, iv, Value.cells] using hb
      have ed : doesD (laidD (l.take i)) x = laidD (l.take i) := by unfold doesD; rw [if_neg (by omega), if_neg (by omega), if_neg (by omega)]
      refine TW.seq ?_
      refine TW.region ?_
      refine LW.v (r_mv) ?_
      refine LW.v (r_as) ?_
      refine LW.nil ?_
      refine TW.seq ?_
      refine TW.region ?_
      refine LW.v (r_mv) ?_
      refine LW.c r_c1 ((copy_spec hc hlen H).mono ?_)
      rintro _ w ⟨p2, c1, c2, rfl, hc1, hc2, H⟩
      refine ⟨_, rfl, ?_⟩
      refine LW.v (r_as) ?_
      refine LW.nil ?_
      refine TW.seq ?_
      refine TW.region ?_
      refine LW.v (r_mv) ?_
      refine LW.v (r_mv) ?_
      refine LW.v (r_mv) ?_
      refine LW.v (r_iaS (h0 := by omega) (h1 := by omega)) ?_
      refine LW.v (r_faG) ?_
      refine LW.v (r_ldc (rowAt_cell (enc := T.val) (size := 5) (k := 1) (hrow _ H.drop.drop.drop) hgl (fun _ => rfl) rfl)) ?_
      refine LW.c r_c2 ((const_at p (laidD (l.take i)) x.v hc1 hlen H).mono ?_)
      rintro _ w ⟨rfl, c3, hc3, H⟩
      refine ⟨_, rfl, ?_⟩
      refine LW.nil ?_
      refine TW.exit rfl ?_
      refine TW.region ?_
      refine LW.v (r_mv) ?_
      first | refine LW.v (r_add (hk := w64 (by omega) (by omega))) ?_ | refine LW.v (r_bin) ?_
      refine LW.v (r_as) ?_
      refine LW.nil ?_
      exact again (i + 1, p2) _ _ ⟨by omega, by omega, c2, k, by rw [es, ed]; exact hc2, by rw [es, ed]; exact hk, H.drop⟩ ⟨rfl, rfl, rfl, rfl, trivial⟩ (by show 60 - (i + 1) < 60 - i; omega)
    · refine TW.skip <| TW.seq ?_
      refine TW.region ?_
      refine LW.v (r_mv) ?_
      refine LW.v (r_mv) ?_
      refine LW.v (r_mv) ?_
      refine LW.v (r_mv) ?_
      refine LW.v (r_iaS (h0 := by omega) (h1 := by omega)) ?_
      refine LW.v (r_ldR (i := i) (enc := T.val) (hrow _ H.drop.drop) hgl (fun _ => rfl) (size := 5)) ?_
      refine LW.c r_c3 ((does_spec hc hk hlen H).mono ?_)
      rintro _ w ⟨rfl, c', k', hc', hk', H⟩
      refine ⟨_, rfl, ?_⟩
      refine LW.v (r_not) ?_
      refine LW.nil ?_
      refine TW.c rfl (fun h => by cases h) (fun _ => ?_)
      refine TW.skip <| TW.inBlock ?_
      refine TW.region ?_
      refine LW.v (r_mv) ?_
      first | refine LW.v (r_add (hk := w64 (by omega) (by omega))) ?_ | refine LW.v (r_bin) ?_
      refine LW.v (r_as) ?_
      refine LW.nil ?_
      exact again (i + 1, p) _ _ ⟨by omega, by omega, c', k', by rw [es]; exact hc', by rw [es]; exact hk', H⟩ ⟨rfl, rfl, rfl, rfl, trivial⟩ (by show 60 - (i + 1) < 60 - i; omega)
  · have hb2 : ¬ ((i : Int) < l.length ∧ (i : Int) < 60) := by
      intro h
      rw [decide_eq_true h.1, decide_eq_true h.2] at hb
      cases hb
    have et : l.take 60 = l.take i := by
      rcases Nat.lt_or_ge i l.length with h | h
      · have : i = 60 := by omega
        rw [this]
      · rw [List.take_of_length_le (by omega), List.take_of_length_le h]
    rw [et]
    refine TW.exit rfl <| TW.seq ?_
    refine TW.region ?_
    refine LW.v (r_mv) ?_
    refine LW.v (r_mv) ?_
    refine LW.v (r_mv) ?_
    refine LW.v (r_nen) ?_
    refine LW.v (r_as) ?_
    refine LW.v (r_as) ?_
    refine LW.v (r_as) ?_
    refine LW.nil ?_
    refine TW.ret (ret3 (by rfl) rT rT rT ?_)
    exact ⟨p, q, c, k, rfl, hc, hk, H⟩
theorem same_spec {B : Nat} {w0 w : World} {L : List Ck} {p q : Nat} {D : List T} {c k : Ck} (hc : DagC p D c) (hk : RdC q D k) (hlen : D.length < 1073741824) (H : Hp B w0 w (c :: k :: L)) :
    Calls Tryz.prog 11 #[.pointer (some ⟨p, 0, none⟩), .pointer (some ⟨q, 0, none⟩)] w fun e w' => e = .returned (.bool true) ∧ Hp B w0 w' (c :: k :: L) := by
  obtain ⟨sa, cap, H, hsa, back⟩ := rd_row hk H.swap
  refine calls_go Tryz.func11 Tryz.ntmps11 rfl rfl ?_
  refine TW.seq ?_
  refine TW.region ?_
  refine LW.v (r_as) ?_
  refine LW.nil ?_
  refine TW.seq <| TW.seq ?_
  refine TW.drawE [(none, none, fun w => Hp B w0 w (Blk q 67 #[.slice sa D.length cap] :: Row 68 5 (.slice sa D.length cap) D.length (rowOf T.val D) :: c :: L))] hmix (by kernel_rfl) (fun _ _ _ _ _ h => h) H (fun w H => (Sat.cons (fun _ _ => H) Sat.nil)) ?_
  intro w H
  refine EW.v (i := 0) (by kernel_rfl) (by rfl) (by kernel_rfl) (Quiet.y (fun _ _ => r_mv)) ?_
  refine EW.v (i := 2) (by kernel_rfl) (by rfl) (by kernel_rfl) (Quiet.y (fun _ _ => r_mv)) ?_
  refine EW.v (i := 3) (by kernel_rfl) (by rfl) (by kernel_rfl) (Quiet.y (fun _ _ => r_nil)) ?_
  refine EW.v (i := 4) (by kernel_rfl) (by rfl) (by kernel_rfl) (Quiet.y (fun _ _ => r_fa)) ?_
  refine EW.m (j := 0) (i := 5) (by kernel_rfl) (by rfl) (by kernel_rfl) rfl rfl rfl (Quiet.y (fun _ h => r_ld h)) ?_
  refine EW.v (i := 6) (by kernel_rfl) (by rfl) (by kernel_rfl) (Quiet.y (fun _ _ => r_len)) ?_
  refine EW.loud 1 [] (by kernel_rfl) ?_
  intro i hi
  simp only [List.mem_cons, List.not_mem_nil, or_false] at hi
  subst hi
  refine ⟨_, rfl, ?_⟩
  refine LW.c r_c1 ((len_at p D hc H).mono ?_)
  rintro _ w ⟨rfl, H⟩
  refine ⟨_, rfl, ?_⟩
  refine LW.nil ⟨(Sat.cons (fun _ _ => H) Sat.nil), ?_⟩
  refine EW.v (i := 7) (by kernel_rfl) (by rfl) (by kernel_rfl) (Quiet.y (fun _ _ => r_bin)) ?_
  refine EW.nil (by kernel_rfl) (fun _ => ?_)
  refine TW.c rfl (fun h => absurd h (by simp)) (fun _ => ?_)
  refine TW.skip <| TW.seq <| TW.seq ?_
  refine TW.region ?_
  refine LW.v (r_as) ?_
  refine LW.nil ?_
  refine TW.block ?_
  refine TW.lp (σ := Nat) (fun i w' => i ≤ D.length ∧ Hp B w0 w' (Blk q 67 #[.slice sa D.length cap] :: Row 68 5 (.slice sa D.length cap) D.length (rowOf T.val D) :: c :: L)) (fun i => [(0, .pointer (some ⟨p, 0, none⟩)), (1, .pointer (some ⟨q, 0, none⟩)), (5, .int .i64 (i : Int))]) (fun i => D.length - i) (0) (⟨Nat.zero_le _, H⟩) (⟨rfl, rfl, rfl, trivial⟩) ?_
  rintro i f w ⟨hi, H⟩ again
  refine TW.seq <| TW.seq ?_
  refine TW.region ?_
  refine LW.v (r_mv) ?_
  refine LW.v (r_mv) ?_
  refine LW.v (r_nil) ?_
  refine LW.v (r_fa) ?_
  refine LW.v (r_ld H) ?_
  refine LW.v (r_len) ?_
  refine LW.v (r_bin) ?_
  refine LW.nil ?_
  refine TW.c rfl (fun hb => ?_) (fun hb => ?_)
  · have hi2 : i < D.length := by simpa using hb
    have hne : D ≠ [] := by intro e; subst e; simp at hi2
    obtain ⟨g, rfl⟩ := hsa hne
    have hin : In D (i : Int) := ⟨by omega, by omega⟩
    have hnd := node_at_idx hin
    rw [Int.toNat_natCast] at hnd
    have hn2 : (WhD.node D (i : Int)).2 = 0 := by simp [WhD.node, hin.is]
    refine TW.skip <| TW.seq <| TW.block <| TW.seq ?_
    refine TW.region ?_
    refine LW.v (r_mv) ?_
    refine LW.v (r_mv) ?_
    refine LW.c r_c2 ((node_at p D (i : Int) hc H).mono ?_)
    rintro _ w ⟨rfl, H⟩
    refine ⟨_, rfl, ?_⟩
    generalize WhD.node D (i : Int) = nd at *
    obtain ⟨x, er⟩ := nd
    simp only at hnd hn2
    subst hn2
    refine LW.v (r_mv) ?_
    refine LW.v (r_ext) ?_
    refine LW.v (r_ext) ?_
    refine LW.new (r_al H) ?_; intro g6 w H
    refine LW.sto (r_stW H (vs := x.cells.toArray) (hy := rfl)) ?_; intro w H
    refine LW.v (r_as) ?_
    refine LW.nil ?_
    refine TW.seq ?_
    refine TW.draw [(0, some 0), (1, some 0), (2, some 0), (3, some 0), (4, some 0), (5, some 0), (6, some 0), (7, some 0), (8, some 0), (9, some 0), (10, some 0), (11, some 0), (12, some 0)] [] hmix (by kernel_rfl) (fun _ _ _ _ _ h => h) H (fun m w => (m = 0 → Hp _ _ w _)) (fun _ h _ => h) ?_
    intro w H
    refine DW.v (by rfl) (Quiet.y (fun _ _ => r_mv)) ?_
    refine DW.v (by rfl) (Quiet.y (fun _ _ => r_bin)) ?_
    refine DW.v (by rfl) (Quiet.y (fun _ _ => r_mv)) ?_
    refine DW.hm (by rfl) (Quiet.gy (by rfl) (by rfl) (by rfl) (by rfl) (by rfl) (fun _ h => r_ldW (cs := x.cells.toArray) (h rfl))) ?_
    refine DW.v (by rfl) (Quiet.gy (by rfl) (by rfl) (by rfl) (by rfl) (by rfl) (fun _ _ => r_mv)) ?_
    refine DW.v (by rfl) (Quiet.gy (by rfl) (by rfl) (by rfl) (by rfl) (by rfl) (fun _ _ => r_nil)) ?_
    refine DW.v (by rfl) (Quiet.gy (by rfl) (by rfl) (by rfl) (by rfl) (by rfl) (fun _ _ => r_fa)) ?_
    refine DW.hm (by rfl) (Quiet.gy (by rfl) (by rfl) (by rfl) (by rfl) (by rfl) (fun _ h => r_ld (h rfl))) ?_
    refine DW.v (by rfl) (Quiet.gy (by rfl) (by rfl) (by rfl) (by rfl) (by rfl) (fun _ _ => r_mv)) ?_
    refine DW.v (by rfl) (Quiet.gy (by rfl) (by rfl) (by rfl) (by rfl) (by rfl) (fun _ _ => r_iaS (h0 := by omega) (h1 := by omega))) ?_
    refine DW.hm (by rfl) (Quiet.gy (by rfl) (by rfl) (by rfl) (by rfl) (by rfl) (fun _ h => r_ldR (i := i) (enc := T.val) (rowR (g := g) (cap := cap) (m := D.length) (h rfl)) hnd (fun _ => rfl) (size := 5))) ?_
    refine DW.v (by rfl) (Quiet.gy (by rfl) (by rfl) (by rfl) (by rfl) (by rfl) (fun _ _ => r_nes2 (ks := tks) x.nums x.nums)) ?_
    refine DW.v (by rfl) (Quiet.y (fun _ _ => r_pick)) ?_
    refine DW.nil (fun _ => ?_)
    refine TW.c rfl (fun h => absurd h (by simp)) (fun _ => ?_)
    refine TW.skip <| TW.inBlock ?_
    refine TW.region ?_
    refine LW.v (r_mv) ?_
    first | refine LW.v (r_add (hk := w64 (by omega) (by omega))) ?_ | refine LW.v (r_bin) ?_
    refine LW.v (r_as) ?_
    refine LW.nil ?_
    exact again (i + 1) _ _ ⟨by omega, H.drop⟩ ⟨rfl, rfl, rfl, trivial⟩ (by omega)
  · refine TW.exit rfl <| TW.seq ?_
    refine TW.region ?_
    refine LW.v (r_as) ?_
    refine LW.nil ?_
    refine TW.ret (ret1 (by rfl) rT ?_)
    exact ⟨rfl, (back _ _ H).swap⟩
end Wh
namespace Wh
open Go Go.Proofs WhS WhL WhX WhA
set_option maxRecDepth 100000
instance : AI Tryz.prog 32 32 .i64 := ⟨by kernel_rfl, by kernel_rfl⟩
theorem RowL.take {B : Nat} {w0 : World} {L : List Ck} {a : Option Addr} {l : List X} (h : RowL B w0 L a l) (k : Nat) : RowL B w0 L a (l.take k) := by
  rcases h with rfl | ⟨a', h1, h2⟩
  · exact .inl (by simp)
  · exact .inr ⟨a', h1, fun w' H' => rowAt_take (h2 w' H') k⟩
theorem fromF_len {D : List T} {M : Nat} {xs : List Int} {l : List X} {pc : Int} (hM : M + l.length ≤ 200) (hD : Wf D) (hg : Rng D) (hch : ChAll D M) (hx : xs.length = 32) : (fromF D xs l pc).1.length = 32 ∧ (fromF D xs l pc).2.2.length ≤ D.length + 500 * l.length := by
  unfold fromF
  split
  · exact ⟨rfl, by simp⟩
  · split
    · exact ⟨rfl, by simp⟩
    · rename_i h1 h2
      have hin : ∀ n ∈ xs, In D n := by
        have : xs.all (WhD.is D) = true := by simpa using h1
        intro n hn
        have := (List.all_eq_true.1 this) n hn
        unfold In
        simpa [WhD.is] using this
      have := runF_ok l D xs pc hM ⟨hD, hg, hch, hx, hin⟩ (by simpa using h2)
      exact ⟨this.1.len, this.2.1⟩
theorem blockF_len {D : List T} {M : Nat} {l : List X} {pc : Int} (hM : M + l.length ≤ 200) (hD : Wf D) (hg : Rng D) (hch : ChAll D M) : (blockF D l pc).1.length = 32 ∧ (blockF D l pc).2.2.length ≤ D.length + 32 + 500 * l.length := by
  unfold blockF
  split
  · exact ⟨rfl, by simp; omega⟩
  · have hk := start_ok hD hg hch
    have := fromF_len (pc := pc) hM hk.wf hk.rng hk.ch hk.len
    have h2 := startN_dlen D 32
    exact ⟨this.1, by omega⟩
theorem blocks_spec {B : Nat} {w0 w : World} {L : List Ck} {ops : List T} {a : Option Addr} {cap : Nat} {l : List X} {a2 : Option Addr} {cap2 : Nat} {pc : Int} (hB : 0 < B) (hG : RowAt w0 ⟨0, 0, none⟩ tabV) (hr : RowT B w0 L a ops) (hv : ∀ o ∈ ops, 0 ≤ o.v ∧ o.v < 4294967296) (hr2 : RowL B w0 L a2 l) (hcap : l.length ≤ cap2) (hcm : cap2 ≤ 9223372036854775807) (hpc : 0 ≤ pc ∧ pc < 4294967296) (H : Hp B w0 w L) :
    Calls Tryz.prog 3 #[.slice a ops.length cap, .slice a2 l.length cap2, .int .u32 pc] w fun e w' => e = .returned (.bool true) ∧ Hp B w0 w' L := by
  refine calls_go Tryz.func3 Tryz.ntmps3 rfl rfl ?_
  refine TW.seq ?_
  refine TW.region ?_
  refine LW.v (r_as) ?_
  refine LW.nil ?_
  refine TW.seq ?_
  refine TW.region ?_
  refine LW.v (r_mv) ?_
  refine LW.c r_c1 ((laid_spec hr hv H).mono ?_)
  rintro _ w ⟨p, q, c, k, rfl, hc, hk, H⟩
  refine ⟨_, rfl, ?_⟩
  refine LW.v (r_mv) ?_
  refine LW.v (r_ext) ?_
  refine LW.v (r_ext) ?_
  refine LW.v (r_ext) ?_
  refine LW.v (r_as) ?_
  refine LW.v (r_as) ?_
  refine LW.v (r_as) ?_
  refine LW.nil ?_
  refine TW.seq <| TW.seq ?_
  refine TW.region ?_
  refine LW.v (r_mv) ?_
  refine LW.v (r_not) ?_
  refine LW.nil ?_
  refine TW.c rfl (fun h => by cases h) (fun _ => ?_)
  obtain ⟨hld, hlw⟩ : Ld (laidD (ops.take 60)) 60 ∧ (laidD (ops.take 60)).length ≤ 60 := by
    have h1 := laid_ok (l := ops.take 60) (fun o ho => hv o (List.mem_of_mem_take ho)) (ops.take 60).length (Nat.le_refl _)
    rw [List.take_length] at h1
    have h2 : (ops.take 60).length ≤ 60 := by simp; omega
    have h3 := h1.len
    exact ⟨⟨h1.wf, h1.rng, WhA.ChAll.mono h1.ch h2, by omega⟩, by omega⟩
  generalize laidD (ops.take 60) = D at *
  refine TW.skip <| TW.seq ?_
  refine TW.region ?_
  refine LW.v (r_mv) ?_
  refine LW.v (r_mv) ?_
  refine LW.v (r_len) ?_
  refine LW.v (r_min) ?_
  have hlen : (l.take 30).length = min l.length 30 := by rw [List.length_take, Nat.min_comm]
  have hrt := hr2.take 30
  generalize l.take 30 = lt at *
  refine LW.v (r_slk (a := a2) (len := l.length) (cap := cap2) (h := if 30 < (l.length : Int) then 30 else (l.length : Int)) (k := lt.length) (by split <;> omega) (by split <;> omega) (by split <;> omega)) ?_
  refine LW.v (r_as) ?_
  refine LW.nil ?_
  refine TW.seq <| TW.seq ?_
  refine TW.region ?_
  refine LW.v (r_as) ?_
  refine LW.nil ?_
  refine TW.block ?_
  refine TW.lp (σ := Nat) (fun i w' => i ≤ lt.length ∧ Hp B w0 w' (c :: k :: L)) (fun i => [(1, .slice a2 lt.length cap2), (2, .int .u32 pc), (7, .pointer (some ⟨p, 0, none⟩)), (8, .pointer (some ⟨q, 0, none⟩)), (10, .int .i64 (i : Int))]) (fun i => lt.length - i) (0) (⟨Nat.zero_le _, H⟩) (⟨rfl, rfl, rfl, rfl, rfl, trivial⟩) ?_
  rintro i f w ⟨hi, H⟩ again
  refine TW.seq <| TW.seq ?_
  refine TW.region ?_
  refine LW.v (r_mv) ?_
  refine LW.v (r_mv) ?_
  refine LW.v (r_len) ?_
  refine LW.v (r_bin) ?_
  refine LW.nil ?_
  refine TW.c rfl (fun hb => ?_) (fun hb => ?_)
  · have hi2 : i < lt.length := by simpa using hb
    obtain ⟨x, hgl⟩ : ∃ x, lt[i]? = some x := ⟨lt[i], List.getElem?_eq_getElem hi2⟩
    obtain ⟨a', rfl, hrow⟩ := hrt.resolve_left (fun e => by subst e; simp at hi2)
    refine TW.skip <| TW.seq <| TW.block <| TW.seq ?_
    refine TW.drawE [(none, none, fun w => Hp B w0 w (c :: k :: L))] hmix (by kernel_rfl) (fun _ _ _ _ _ h => h) H (fun w H => (Sat.cons (fun _ _ => H) Sat.nil)) ?_
    intro w H
    refine EW.v (i := 0) (by kernel_rfl) (by rfl) (by kernel_rfl) (Quiet.y (fun _ _ => r_mv)) ?_
    refine EW.v (i := 1) (by kernel_rfl) (by rfl) (by kernel_rfl) (Quiet.y (fun _ _ => r_mv)) ?_
    refine EW.v (i := 2) (by kernel_rfl) (by rfl) (by kernel_rfl) (Quiet.y (fun _ _ => r_iaS (h0 := by omega) (h1 := by omega))) ?_
    refine EW.m (j := 0) (i := 3) (by kernel_rfl) (by rfl) (by kernel_rfl) rfl rfl rfl (Quiet.y (fun _ h => r_ldR (i := i) (enc := X.val) (hrow _ h.drop.drop) hgl (fun _ => rfl) (size := 5))) ?_
    refine EW.v (i := 5) (by kernel_rfl) (by rfl) (by kernel_rfl) (Quiet.y (fun _ _ => r_mv)) ?_
    refine EW.v (i := 6) (by kernel_rfl) (by rfl) (by kernel_rfl) (Quiet.y (fun _ _ => r_mv)) ?_
    refine EW.v (i := 7) (by kernel_rfl) (by rfl) (by kernel_rfl) (Quiet.y (fun _ _ => r_iaS (h0 := by omega) (h1 := by omega))) ?_
    refine EW.m (j := 0) (i := 8) (by kernel_rfl) (by rfl) (by kernel_rfl) rfl rfl rfl (Quiet.y (fun _ h => r_ldR (i := i) (enc := X.val) (hrow _ h.drop.drop) hgl (fun _ => rfl) (size := 5))) ?_
    refine EW.loud 4 [] (by kernel_rfl) ?_
    intro i hi
    simp only [List.mem_cons, List.not_mem_nil, or_false] at hi
    subst hi
    refine ⟨_, rfl, ?_⟩
    refine LW.c r_c1 ((lplain_spec _ _ _ _ x H).mono ?_)
    rintro _ w ⟨rfl, H⟩
    refine ⟨_, rfl, ?_⟩
    refine LW.nil ⟨(Sat.cons (fun _ _ => H) Sat.nil), ?_⟩
    refine EW.loud 9 [] (by kernel_rfl) ?_
    intro i hi
    simp only [List.mem_cons, List.not_mem_nil, or_false] at hi
    subst hi
    refine ⟨_, rfl, ?_⟩
    refine LW.c r_c1 ((r12plain_spec _ _ _ _ x H).mono ?_)
    rintro _ w ⟨rfl, H⟩
    refine ⟨_, rfl, ?_⟩
    refine LW.nil ⟨(Sat.cons (fun _ _ => H) Sat.nil), ?_⟩
    refine EW.v (i := 10) (by kernel_rfl) (by rfl) (by kernel_rfl) (Quiet.y (fun _ _ => r_neb)) ?_
    refine EW.nil (by kernel_rfl) (fun _ => ?_)
    refine TW.c rfl (fun h => absurd h (by rw [rlplain_eq]; simp)) (fun _ => ?_)
    refine TW.skip <| TW.inBlock ?_
    refine TW.region ?_
    refine LW.v (r_mv) ?_
    first | refine LW.v (r_add (hk := w64 (by omega) (by omega))) ?_ | refine LW.v (r_bin) ?_
    refine LW.v (r_as) ?_
    refine LW.nil ?_
    exact again (i + 1) _ _ ⟨by omega, H⟩ ⟨rfl, rfl, rfl, rfl, rfl, trivial⟩ (by omega)
  · refine TW.exit rfl <| TW.seq ?_
    refine TW.region ?_
    refine LW.v (r_mv) ?_
    refine LW.v (r_mv) ?_
    refine LW.v (r_mv) ?_
    refine LW.c r_c3 ((block_spec (M := 60) (l := lt) (pc := pc) (cap := cap2) (a := a2) hB hG (by omega) hc hld.wf hld.rng hld.ch (by omega) (hrt.cons _) H).mono ?_)
    rintro _ w ⟨rfl, c, hc, H⟩
    refine ⟨_, rfl, ?_⟩
    have hbl0 := blockF_len (pc := pc) (l := lt) (M := 60) (by omega) hld.wf hld.rng hld.ch
    refine LW.v (r_mv) ?_
    refine LW.v (r_ext) ?_
    refine LW.v (r_ext) ?_
    refine LW.new (r_al H) ?_; intro g11 w H
    refine LW.sto (r_stW H (vs := vI (blockF D lt pc).1) (hy := rfl) (h1 := vI_one _) (hs := by rw [vI_size, hbl0.1])) ?_; intro w H
    refine LW.v (r_as) ?_
    refine LW.nil ?_
    refine TW.seq ?_
    refine TW.region ?_
    refine LW.v (r_mv) ?_
    refine LW.v (r_mv) ?_
    refine LW.v (r_mv) ?_
    refine LW.c r_c3 ((rblock_spec (M := 60) (l := lt) (pc := pc) (cap := cap2) (a := a2) (by omega) hk hld.wf hld.rng hld.ch (by omega) hpc ((hrt.cons _).cons _) (H.front 2 rfl)).mono ?_)
    rintro _ w ⟨rfl, k, hk, H⟩
    refine ⟨_, rfl, ?_⟩
    try simp only [List.eraseIdx] at H
    refine LW.v (r_mv) ?_
    refine LW.v (r_ext) ?_
    refine LW.v (r_ext) ?_
    refine LW.new (r_al H) ?_; intro g13 w H
    refine LW.sto (r_stW H (vs := vI (blockF D lt pc).1) (hy := rfl) (h1 := vI_one _) (hs := by rw [vI_size, hbl0.1])) ?_; intro w H
    have hbl := hbl0
    refine LW.v (r_as) ?_
    refine LW.nil ?_
    refine TW.seq ?_
    refine TW.region ?_
    refine LW.v (r_ldW (cs := vI (blockF D lt pc).1) H (hp := by rw [vI_size, hbl.1])) ?_
    refine LW.v (r_ldW (cs := vI (blockF D lt pc).1) H (hp := by rw [vI_size, hbl.1])) ?_
    refine LW.v (r_eqAt (blockF D lt pc).1 (hxl := hbl.1)) ?_
    refine LW.v (r_mv) ?_
    refine LW.yes (by rfl) (by rfl) (by rfl) (by rfl) (by rfl) ?_
    refine LW.v (r_mv) ?_
    refine LW.yes (by rfl) (by rfl) (by rfl) (by rfl) (by rfl) ?_
    refine LW.v (r_mv) ?_
    refine LW.yes (by rfl) (by rfl) (by rfl) (by rfl) (by rfl) ?_
    refine LW.v (r_eqt) ?_
    refine LW.v (r_pick) ?_
    refine LW.v (r_mv) ?_
    refine LW.yes (by rfl) (by rfl) (by rfl) (by rfl) (by rfl) ?_
    refine LW.v (r_mv) ?_
    refine LW.yes (by rfl) (by rfl) (by rfl) (by rfl) (by rfl) ?_
    refine LW.v (r_mv) ?_
    have H : Hp B w0 w (c :: k :: Blk g13 32 (vI (blockF D lt pc).1) :: Blk g11 32 (vI (blockF D lt pc).1) :: L) := by
      have h2 := H.front 3 rfl
      simp only [List.eraseIdx] at h2
      have h3 := h2.front 2 rfl
      simp only [List.eraseIdx] at h3
      exact h3.swap
    refine LW.yes (by rfl) (by rfl) (by rfl) (by rfl) (by rfl) ?_
    refine LW.c r_c2 ((same_spec hc hk (by omega) H).mono ?_)
    rintro _ w ⟨rfl, H⟩
    refine ⟨_, rfl, ?_⟩
    refine LW.v (r_pick) ?_
    refine LW.v (r_mv) ?_
    refine LW.yes (by rfl) (by rfl) (by rfl) (by rfl) (by rfl) ?_
    refine LW.c r_c0 ((fixed_spec hB hG H).mono ?_)
    rintro _ w ⟨rfl, H⟩
    refine ⟨_, rfl, ?_⟩
    refine LW.v (r_pick) ?_
    refine LW.v (r_as) ?_
    refine LW.nil ?_
    refine TW.ret (ret1 (by rfl) rT ?_)
    exact ⟨rfl, H.drop.drop.drop.drop⟩
theorem from_law {B : Nat} {w0 w : World} {L : List Ck} {ops : List T} {a : Option Addr} {cap : Nat} {l : List X} {a2 : Option Addr} {cap2 : Nat} {xs : List Int} (hB : 0 < B) (hG : RowAt w0 ⟨0, 0, none⟩ tabV) (hr : RowT B w0 L a ops) (hv : ∀ o ∈ ops, 0 ≤ o.v ∧ o.v < 4294967296) (hr2 : RowL B w0 L a2 l) (hcap : l.length ≤ cap2) (hcm : cap2 ≤ 9223372036854775807) (hx : xs.length = 32) (H : Hp B w0 w L) :
    Calls Tryz.prog 4 #[.slice a ops.length cap, .agg (vI xs), .slice a2 l.length cap2] w fun e w' => e = .returned (.bool true) ∧ Hp B w0 w' L := by
  refine calls_go Tryz.func4 Tryz.ntmps4 rfl rfl ?_
  refine TW.seq ?_
  refine TW.region ?_
  refine LW.new (r_box H) ?_; intro g4 w H
  have H : Hp B w0 w (Blk g4 32 (vI xs) :: L) := H
  refine LW.v (r_as) ?_
  refine LW.nil ?_
  refine TW.seq ?_
  refine TW.region ?_
  refine LW.v (r_mv) ?_
  refine LW.c r_c1 ((laid_spec (hr.cons _) hv H).mono ?_)
  rintro _ w ⟨p, q, c, k, rfl, hc, hk, H⟩
  refine ⟨_, rfl, ?_⟩
  refine LW.v (r_mv) ?_
  refine LW.v (r_ext) ?_
  refine LW.v (r_ext) ?_
  refine LW.v (r_ext) ?_
  refine LW.v (r_as) ?_
  refine LW.v (r_as) ?_
  refine LW.v (r_as) ?_
  refine LW.nil ?_
  refine TW.seq <| TW.seq ?_
  refine TW.region ?_
  refine LW.v (r_mv) ?_
  refine LW.v (r_not) ?_
  refine LW.nil ?_
  refine TW.c rfl (fun h => by cases h) (fun _ => ?_)
  obtain ⟨hld, hlw⟩ : Ld (laidD (ops.take 60)) 60 ∧ (laidD (ops.take 60)).length ≤ 60 := by
    have h1 := laid_ok (l := ops.take 60) (fun o ho => hv o (List.mem_of_mem_take ho)) (ops.take 60).length (Nat.le_refl _)
    rw [List.take_length] at h1
    have h2 : (ops.take 60).length ≤ 60 := by simp; omega
    have h3 := h1.len
    exact ⟨⟨h1.wf, h1.rng, WhA.ChAll.mono h1.ch h2, by omega⟩, by omega⟩
  generalize laidD (ops.take 60) = D at *
  refine TW.skip <| TW.seq ?_
  refine TW.region ?_
  refine LW.v (r_mv) ?_
  refine LW.v (r_mv) ?_
  refine LW.v (r_len) ?_
  refine LW.v (r_min) ?_
  have hlen : (l.take 30).length = min l.length 30 := by rw [List.length_take, Nat.min_comm]
  have hrt := hr2.take 30
  generalize l.take 30 = lt at *
  refine LW.v (r_slk (a := a2) (len := l.length) (cap := cap2) (h := if 30 < (l.length : Int) then 30 else (l.length : Int)) (k := lt.length) (by split <;> omega) (by split <;> omega) (by split <;> omega)) ?_
  refine LW.v (r_as) ?_
  refine LW.nil ?_
  refine TW.seq ?_
  refine TW.region ?_
  refine LW.v (r_mv) ?_
  refine LW.v (r_ldW (cs := vI xs) H (hp := by rw [vI_size, hx])) ?_
  refine LW.v (r_mv) ?_
  refine LW.c r_c4 ((from_spec (M := 60) (l := lt) (pc := 4096) (cap := cap2) (a := a2) (xs := xs) hB hG (by omega) hc hld.wf hld.rng hld.ch hx (by omega) ((hrt.cons _).cons _) H).mono ?_)
  rintro _ w ⟨rfl, c, hc, H⟩
  refine ⟨_, rfl, ?_⟩
  have hbl0 := fromF_len (pc := 4096) (l := lt) (M := 60) (by omega) hld.wf hld.rng hld.ch hx
  refine LW.v (r_mv) ?_
  refine LW.v (r_ext) ?_
  refine LW.v (r_ext) ?_
  refine LW.new (r_al H) ?_; intro g10 w H
  refine LW.sto (r_stW H (vs := vI (fromF D xs lt 4096).1) (hy := rfl) (h1 := vI_one _) (hs := by rw [vI_size, hbl0.1])) ?_; intro w H
  refine LW.v (r_as) ?_
  refine LW.nil ?_
  refine TW.seq ?_
  refine TW.region ?_
  refine LW.v (r_mv) ?_
  refine LW.v (r_ldW (cs := vI xs) H (hp := by rw [vI_size, hx])) ?_
  refine LW.v (r_mv) ?_
  refine LW.c r_c4 ((rfrom_spec (M := 60) (l := lt) (pc := 4096) (cap := cap2) (a := a2) (xs := xs) (by omega) hk hld.wf hld.rng hld.ch hx (by omega) (by decide) (((hrt.cons _).cons _).cons _) (H.front 2 rfl)).mono ?_)
  rintro _ w ⟨rfl, k, hk, H⟩
  refine ⟨_, rfl, ?_⟩
  try simp only [List.eraseIdx] at H
  refine LW.v (r_mv) ?_
  refine LW.v (r_ext) ?_
  refine LW.v (r_ext) ?_
  refine LW.new (r_al H) ?_; intro g12 w H
  refine LW.sto (r_stW H (vs := vI (fromF D xs lt 4096).1) (hy := rfl) (h1 := vI_one _) (hs := by rw [vI_size, hbl0.1])) ?_; intro w H
  have hbl := hbl0
  refine LW.v (r_as) ?_
  refine LW.nil ?_
  refine TW.seq ?_
  refine TW.region ?_
  refine LW.v (r_ldW (cs := vI (fromF D xs lt 4096).1) H (hp := by rw [vI_size, hbl.1])) ?_
  refine LW.v (r_ldW (cs := vI (fromF D xs lt 4096).1) H (hp := by rw [vI_size, hbl.1])) ?_
  refine LW.v (r_eqAt (fromF D xs lt 4096).1 (hxl := hbl.1)) ?_
  refine LW.v (r_mv) ?_
  refine LW.yes (by rfl) (by rfl) (by rfl) (by rfl) (by rfl) ?_
  refine LW.v (r_mv) ?_
  refine LW.yes (by rfl) (by rfl) (by rfl) (by rfl) (by rfl) ?_
  refine LW.v (r_mv) ?_
  refine LW.yes (by rfl) (by rfl) (by rfl) (by rfl) (by rfl) ?_
  refine LW.v (r_eqt) ?_
  refine LW.v (r_pick) ?_
  refine LW.v (r_mv) ?_
  refine LW.yes (by rfl) (by rfl) (by rfl) (by rfl) (by rfl) ?_
  refine LW.v (r_mv) ?_
  refine LW.yes (by rfl) (by rfl) (by rfl) (by rfl) (by rfl) ?_
  refine LW.v (r_mv) ?_
  have H : Hp B w0 w (c :: k :: Blk g12 32 (vI (fromF D xs lt 4096).1) :: Blk g10 32 (vI (fromF D xs lt 4096).1) :: Blk g4 32 (vI xs) :: L) := by
    have h2 := H.front 3 rfl
    simp only [List.eraseIdx] at h2
    have h3 := h2.front 2 rfl
    simp only [List.eraseIdx] at h3
    exact h3.swap
  refine LW.yes (by rfl) (by rfl) (by rfl) (by rfl) (by rfl) ?_
  refine LW.c r_c2 ((same_spec hc hk (by omega) H).mono ?_)
  rintro _ w ⟨rfl, H⟩
  refine ⟨_, rfl, ?_⟩
  refine LW.v (r_pick) ?_
  refine LW.v (r_mv) ?_
  refine LW.yes (by rfl) (by rfl) (by rfl) (by rfl) (by rfl) ?_
  refine LW.c r_c0 ((fixed_spec hB hG H).mono ?_)
  rintro _ w ⟨rfl, H⟩
  refine ⟨_, rfl, ?_⟩
  refine LW.v (r_pick) ?_
  refine LW.v (r_as) ?_
  refine LW.nil ?_
  refine TW.ret (ret1 (by rfl) rT ?_)
  exact ⟨rfl, H.drop.drop.drop.drop.drop⟩
end Wh
namespace Wh
open Go Go.ChangeShapes Go.WideShapes Go.Deep

/-- each number is of its kind -/
def KW : List IntKind → List Int → Prop
  | [], [] => True
  | k :: ks, n :: ns => (Lit.int k n).wf = true ∧ KW ks ns
  | _, _ => False
theorem KW.len : ∀ {ks : List IntKind} {ns : List Int}, KW ks ns → ns.length = ks.length
  | [], [], _ => rfl
  | _ :: _, _ :: _, h => by simp [KW.len h.2]
  | [], _ :: _, h => h.elim
  | _ :: _, [], h => h.elim
theorem KW.app : ∀ {ks ks' : List IntKind} {ns ns' : List Int}, KW ks ns → KW ks' ns' → KW (ks ++ ks') (ns ++ ns')
  | [], _, [], _, _, h' => h'
  | _ :: _, _, _ :: _, _, h, h' => ⟨h.1, KW.app h.2 h'⟩
  | [], _, _ :: _, _, h, _ => h.elim
  | _ :: _, _, [], _, h, _ => h.elim
theorem iv_app : ∀ {ks ks' : List IntKind} {ns ns' : List Int}, ns.length = ks.length → iv (ks ++ ks') (ns ++ ns') = iv ks ns ++ iv ks' ns'
  | [], _, [], _, _ => rfl
  | _ :: _, _, _ :: _, _, h => by
    simp only [List.length_cons, Nat.add_right_cancel_iff] at h
    simp [iv, iv_app h]
  | [], _, _ :: _, _, h => by simp at h
  | _ :: _, _, [], _, h => by simp at h
/-- the kinds of the cells of a type that holds whole numbers alone -/
def ikF (P : Program) (rec : TypeId → Option (List IntKind)) : Nat → List Field → Option (List IntKind)
  | _, [] => some []
  | off, f :: r => match rec f.type with
    | some ks => if f.offset == off && P.cellsOf f.type == ks.length then (ikF P rec (off + ks.length) r).map (ks ++ ·) else none
    | none => none
def ik (P : Program) : Nat → TypeId → Option (List IntKind)
  | 0, _ => none
  | m + 1, t => match P.underlying t with
    | some (.int k) => some [k]
    | some (.struct fs) => match ikF P (ik P m) 0 fs.toList with
      | some ks => if P.cellsOf t == ks.length then some ks else none
      | none => none
    | some (.array n e) => match ik P m e with
      | some ks => if P.cellsOf e == ks.length && P.cellsOf t == n * ks.length then some ((List.replicate n ks).flatten) else none
      | none => none
    | _ => none
section
variable {H : Type} {enc : TypeId × Value → H} {P : Program} {w : World} {base : Nat} {spare : Nat → Bool} {held : Bool}
theorem read_fields {rec : TypeId → Option (List IntKind)} (hrec : ∀ t ks fuel cs x, rec t = some ks → DataW.trod enc P w base spare held fuel t cs = some x → ∃ ns, cs = iv ks ns ∧ KW ks ns) (n : Nat) (cs : List Value) (xs : List (DataW H × List MemPlace)) :
    ∀ (fs : List Field) (i off : Nat) (ks : List IntKind), ikF P rec off fs = some ks → (∀ j f, fs[j]? = some f → i + j < xs.length ∧ DataW.trod enc P w base spare held n f.type ((cs.drop f.offset).take (P.cellsOf f.type)) = xs[i + j]?) →
    off + ks.length ≤ cs.length → ∃ ns, (cs.drop off).take ks.length = iv ks ns ∧ KW ks ns
  | [], _, _, ks, h, _, _ => by
    simp only [ikF, Option.some.injEq] at h
    subst h
    exact ⟨[], by simp [iv], trivial⟩
  | f :: r, i, off, ks, h, hx, hl => by
    simp only [ikF] at h
    split at h
    · rename_i k1 hk1
      split at h
      · rename_i hc
        simp only [Bool.and_eq_true, beq_iff_eq] at hc
        simp only [Option.map_eq_some_iff] at h
        obtain ⟨k2, hk2, rfl⟩ := h
        simp only [List.length_append] at hl
        obtain ⟨h00, h0⟩ := hx 0 f rfl
        rw [List.getElem?_eq_getElem h00, hc.1, hc.2] at h0
        obtain ⟨n1, e1, w1⟩ := hrec f.type k1 n _ _ hk1 h0
        obtain ⟨n2, e2, w2⟩ := read_fields hrec n cs xs r (i + 1) (off + k1.length) k2 hk2 (fun j g hg => by
          have := hx (j + 1) g (by simpa using hg)
          rw [show i + 1 + j = i + (j + 1) by omega]
          exact this) (by omega)
        refine ⟨n1 ++ n2, ?_, w1.app w2⟩
        rw [List.length_append, List.take_add, e1, List.drop_drop, e2, iv_app w1.len]
      · cases h
    · cases h
theorem read_elems {e : TypeId} {k1 : List IntKind} {m : Nat} (hrec : ∀ cs x, DataW.trod enc P w base spare held m e cs = some x → ∃ ns, cs = iv k1 ns ∧ KW k1 ns) (cs : List Value) (xs : List (DataW H × List MemPlace)) (hxs : ∀ i, i < xs.length → DataW.trod enc P w base spare held m e ((cs.drop (i * k1.length)).take k1.length) = xs[i]?) :
    ∀ (n i : Nat), i + n = xs.length → cs.length = xs.length * k1.length → ∃ ns, cs.drop (i * k1.length) = iv ((List.replicate n k1).flatten) ns ∧ KW ((List.replicate n k1).flatten) ns
  | 0, i, h, hl => ⟨[], by simp [iv]; rw [hl]; exact Nat.mul_le_mul_right _ (by omega), trivial⟩
  | n + 1, i, h, hl => by
    have h1 := hxs i (by omega)
    rw [List.getElem?_eq_getElem (by omega)] at h1
    obtain ⟨n1, e1, w1⟩ := hrec _ _ h1
    obtain ⟨n2, e2, w2⟩ := read_elems hrec cs xs hxs n (i + 1) (by omega) hl
    refine ⟨n1 ++ n2, ?_, by rw [List.replicate_succ, List.flatten_cons]; exact w1.app w2⟩
    rw [List.replicate_succ, List.flatten_cons, iv_app w1.len, ← e1, ← e2, Nat.add_mul, Nat.one_mul, ← List.drop_drop, List.take_append_drop]
theorem read_ik : ∀ (m : Nat) (t : TypeId) (ks : List IntKind) (fuel : Nat) (cs : List Value) (x : DataW H × List MemPlace), ik P m t = some ks → DataW.trod enc P w base spare held fuel t cs = some x → ∃ ns, cs = iv ks ns ∧ KW ks ns
  | 0, _, _, _, _, _, h, _ => by cases h
  | m + 1, t, ks, fuel, cs, x, h, ht => by
    unfold ik at h
    split at h
    · rename_i k hu
      obtain ⟨n, rfl, _, hw⟩ := DataW.trod_int hu ht
      cases h
      exact ⟨[n], rfl, hw, trivial⟩
    · rename_i fs hu
      split at h
      · rename_i k1 hk1
        split at h
        · rename_i hc
          cases h
          simp only [beq_iff_eq] at hc
          obtain ⟨xs, n, _, _, hcl, hxl, hf⟩ := DataW.trod_struct hu ht
          obtain ⟨ns, e, hw⟩ := read_fields (fun t ks fuel cs x => read_ik m t ks fuel cs x) n cs xs fs.toList 0 0 ks hk1 (fun j f hj => by
            have hj' : fs[j]? = some f := by simpa using hj
            have hjl : j < fs.size := (Array.getElem?_eq_some_iff.1 hj').1
            exact ⟨by omega, by rw [Nat.zero_add]; exact hf j f hj'⟩) (by omega)
          refine ⟨ns, ?_, hw⟩
          rw [← e, List.drop_zero, List.take_of_length_le (by omega)]
        · cases h
      · cases h
    · rename_i n e hu
      split at h
      · rename_i k1 hk1
        split at h
        · rename_i hc
          cases h
          simp only [Bool.and_eq_true, beq_iff_eq] at hc
          obtain ⟨xs, q, _, _, hcl, hxl, hf⟩ := DataW.trod_array hu ht
          obtain ⟨ns, e2, hw⟩ := read_elems (fun cs x => read_ik m e k1 q cs x hk1) cs xs (fun i hi => by
            have := hf i (by omega)
            rwa [hc.1] at this) n 0 (by omega) (by rw [hcl, hc.2, hxl])
          exact ⟨ns, by rw [← e2]; simp, hw⟩
        · cases h
      · cases h
    · cases h
/-- an argument that is a struct or an array of whole numbers -/
theorem open_ik {m : Nat} {t : TypeId} {ks : List IntKind} {r : Reach} {b0 : Nat} {v : Value} {d : DataW H} {p : List MemPlace} (hk : ik P m t = some ks) (ha : (match P.underlying t with | some (.struct _) => true | some (.array _ _) => true | _ => false) = true)
    (hv : Value.okWide P w r b0 t v) (h : DataW.Trod enc P w base spare held t v d p) : ∃ ns, v = .agg (iv ks ns).toArray ∧ KW ks ns := by
  have hagg : ∃ cs, v = .agg cs := by
    unfold Value.okWide at hv
    split at hv
    · obtain ⟨cs, h1, _⟩ := hv; exact ⟨cs, h1⟩
    · obtain ⟨cs, h1, _⟩ := hv; exact ⟨cs, h1⟩
    · rename_i h1 h2
      split at ha
      · rename_i fs e; exact absurd e (h1 fs)
      · rename_i n q e; exact absurd e (h2 n q)
      · cases ha
  obtain ⟨cs, rfl⟩ := hagg
  obtain ⟨fuel, hf⟩ := h
  obtain ⟨ns, e, hw⟩ := read_ik m t ks fuel _ _ hk hf
  refine ⟨ns, ?_, hw⟩
  simp only [Value.cells] at e
  rw [← e, Array.toArray_toList]
/-- a slice of such -/
theorem open_slik {m : Nat} {t e : TypeId} {ks : List IntKind} {r : Reach} {b0 : Nat} {v : Value} {d : DataW H} {p : List MemPlace} (ht : P.underlying t = some (.slice e)) (hk : ik P m e = some ks) (hc : P.cellsOf e = ks.length) (hks : ks ≠ [])
    (hv : Value.okWide P w r b0 t v) (h : DataW.Trod enc P w base spare held t v d p) :
    ∃ (a : Option Addr) (cap : Nat) (ls : List (List Int)), v = .slice a ls.length cap ∧ ls.length ≤ cap ∧ cap ≤ 9223372036854775807 ∧ (∀ ns ∈ ls, KW ks ns) ∧
      (ls = [] ∨ ∃ a', a = some a' ∧ a'.block < w.heap.size ∧ RowAt w a' (ls.flatMap (iv ks))) := by
  obtain ⟨a, len, cap, rfl⟩ := okWide_slice ht hv
  obtain ⟨fuel, hf⟩ := h
  rcases open_slice ht hf with ⟨h0, _⟩ | ⟨a', len', cap', mm, n, D, Pl, h0, _, hl, hcm, hm, _, hx⟩
  · simp [Value.cells] at h0
    obtain ⟨rfl, rfl, rfl⟩ := h0
    exact ⟨none, 0, [], rfl, Nat.zero_le _, by omega, by simp, .inl rfl⟩
  · simp [Value.cells] at h0
    obtain ⟨rfl, rfl, rfl⟩ := h0
    have hml : len ≤ mm := by rw [hm]; split <;> omega
    have hcm' : cap ≤ 9223372036854775807 := hcm
    rw [hc] at hx
    have key : ∀ i, i < len → ∃ ns, KW ks ns ∧ ∀ j, j < ks.length → w.cell? (a'.add (i * ks.length + j)) = (iv ks ns)[j]? := by
      intro i hi
      obtain ⟨cs, h1, h2⟩ := hx i (by omega)
      obtain ⟨ns, rfl, hw⟩ := read_ik m e ks n _ _ hk h2
      obtain ⟨_, _, hat⟩ := World.cells?_some h1
      exact ⟨ns, hw, fun j hj => by rw [← Addr.add_add]; exact hat j hj⟩
    have hls : ∀ q, q ≤ len → ∃ ls : List (List Int), ls.length = q ∧ (∀ ns ∈ ls, KW ks ns) ∧ RowAt w a' (ls.flatMap (iv ks)) := by
      intro q
      induction q with
      | zero => intro _; exact ⟨[], rfl, by simp, by intro j u hj; simp at hj⟩
      | succ q ih =>
        intro hq
        obtain ⟨ls, h1, h2, h3⟩ := ih (by omega)
        obtain ⟨ns, h4, h5⟩ := key q (by omega)
        refine ⟨ls ++ [ns], by simp [h1], ?_, ?_⟩
        · intro x hx
          rcases List.mem_append.1 hx with hx | hx
          · exact h2 x hx
          · simp at hx; subst hx; exact h4
        · have hlen : (ls.flatMap (iv ks)).length = q * ks.length := by
            have : ∀ ls : List (List Int), (∀ ns ∈ ls, KW ks ns) → (ls.flatMap (iv ks)).length = ls.length * ks.length := by
              intro ls
              induction ls with
              | nil => simp
              | cons x ls ih =>
                intro h
                rw [List.flatMap_cons, List.length_append, ih (fun ns hn => h ns (List.mem_cons_of_mem _ hn)), iv_length ks x (h x List.mem_cons_self).len, List.length_cons, Nat.add_mul]
                omega
            rw [this ls h2, h1]
          intro j u hj
          rw [List.flatMap_append] at hj
          simp only [List.flatMap_cons, List.flatMap_nil, List.append_nil] at hj
          rcases Nat.lt_or_ge j (q * ks.length) with hjl | hjl
          · rw [List.getElem?_append_left (by omega)] at hj
            exact h3 j u hj
          · rw [List.getElem?_append_right (by omega), hlen] at hj
            have hjk : j - q * ks.length < ks.length := by
              rcases Nat.lt_or_ge (j - q * ks.length) ks.length with h | h
              · exact h
              · rw [List.getElem?_eq_none (by rw [iv_length ks ns h4.len]; exact h)] at hj; cases hj
            have := h5 _ hjk
            rw [hj, show q * ks.length + (j - q * ks.length) = j by omega] at this
            exact this
    obtain ⟨ls, h1, h2, h3⟩ := hls len (Nat.le_refl _)
    refine ⟨some a', cap, ls, by rw [h1], by omega, hcm', h2, ?_⟩
    cases ls with
    | nil => exact .inl rfl
    | cons x ls =>
      refine .inr ⟨a', rfl, ?_, h3⟩
      have hk0 : 0 < ks.length := by cases ks with | nil => exact absurd rfl hks | cons _ _ => simp
      have hxl := iv_length ks x (h2 x List.mem_cons_self).len
      have hu : ((x :: ls).flatMap (iv ks))[0]? = some ((iv ks x)[0]'(by omega)) := by
        rw [List.flatMap_cons, List.getElem?_append_left (by omega), List.getElem?_eq_getElem]
      have := h3 0 _ hu
      rw [Addr.add_zero'] at this
      unfold World.cell? at this
      cases hh : w.heap[a'.block]? with
      | none => rw [hh] at this; simp at this
      | some o => exact (Array.getElem?_eq_some_iff.1 hh).1
end
/-- a table of numbers that lies as the text lays it -/
theorem laid_ints {H : Type} {enc : TypeId × Value → H} {P : Program} {w : World} {base : Nat} {spare : Nat → Bool} {held : Bool} {t e : TypeId} {n fuel : Nat} {k : IntKind} {cs : List Value} {ds : List Int} {p : List MemPlace} (ht : P.underlying t = some (.array n e)) (he : P.underlying e = some (.int k)) (hc : P.cellsOf e = 1) (hct : P.cellsOf t = n)
    (h : DataW.trod enc P w base spare held fuel t cs = some (.agg (ds.map fun i => .lit (.int k i)), p)) : cs = ds.map (Value.int k) := by
  obtain ⟨xs, m, _, hx, hl, hxl, hel⟩ := DataW.trod_array ht h
  simp only [Prod.mk.injEq, DataW.agg.injEq] at hx
  have hdl : ds.length = xs.length := by simpa using congrArg List.length hx.1
  apply List.ext_getElem
  · simp; omega
  · intro i h1 h2
    have h3 := hel i (by omega)
    rw [hc, Nat.mul_one, List.drop_eq_getElem_cons h1] at h3
    simp only [List.take_succ_cons, List.take_zero] at h3
    rw [List.getElem?_eq_getElem (by omega)] at h3
    obtain ⟨q, e1, e2, _⟩ := DataW.trod_int he h3
    simp only [List.cons.injEq, and_true] at e1
    have h4 := congrArg (fun l => l[i]?) hx.1
    simp only [List.getElem?_map, List.getElem?_eq_getElem (show i < ds.length by omega), List.getElem?_eq_getElem (show i < xs.length by omega), Option.map_some, Option.some.injEq] at h4
    rw [e2] at h4
    simp only [DataW.lit.injEq, Lit.int.injEq, true_and] at h4
    rw [e1, List.getElem_map, h4]
/-- instructions -/
theorem insts_of : ∀ {ls : List (List Int)}, (∀ ns ∈ ls, KW xks ns) → ∃ l : List X, ls = l.map X.nums ∧ ∀ x ∈ l, KW xks x.nums
  | [], _ => ⟨[], rfl, by simp⟩
  | ns :: ls, h => by
    obtain ⟨l, e, hl⟩ := insts_of (fun x hx => h x (List.mem_cons_of_mem _ hx))
    have h1 := h ns List.mem_cons_self
    have h2 := h1.len
    match ns, h2, h1 with
    | [a, b, c, d, f], _, h1 => exact ⟨⟨a, b, c, d, f⟩ :: l, by rw [e]; rfl, by
        intro x hx
        rcases List.mem_cons.1 hx with rfl | hx
        · exact h1
        · exact hl x hx⟩
theorem insts_row {w : World} {a : Option Addr} {l : List X} (h : l.map X.nums = [] ∨ ∃ a', a = some a' ∧ a'.block < w.heap.size ∧ RowAt w a' ((l.map X.nums).flatMap (iv xks))) : l = [] ∨ ∃ a', a = some a' ∧ a'.block < w.heap.size ∧ RowAt w a' (rowOf X.val l) := by
  rcases h with h | ⟨a', h1, h2, h3⟩
  · exact .inl (by simpa using h)
  · refine .inr ⟨a', h1, h2, ?_⟩
    have e : (l.map X.nums).flatMap (iv xks) = rowOf X.val l := by
      rw [List.flatMap_map]
      rfl
    rwa [e] at h3
/-- calls of a script: they have a term's fields -/
theorem ops_of : ∀ {ls : List (List Int)}, (∀ ns ∈ ls, KW tks ns) → ∃ l : List T, ls = l.map T.nums ∧ ∀ x ∈ l, KW tks x.nums
  | [], _ => ⟨[], rfl, by simp⟩
  | ns :: ls, h => by
    obtain ⟨l, e, hl⟩ := ops_of (fun x hx => h x (List.mem_cons_of_mem _ hx))
    have h1 := h ns List.mem_cons_self
    have h2 := h1.len
    match ns, h2, h1 with
    | [a, b, c, d, f], _, h1 => exact ⟨⟨a, b, c, d, f⟩ :: l, by rw [e]; rfl, by
        intro x hx
        rcases List.mem_cons.1 hx with rfl | hx
        · exact h1
        · exact hl x hx⟩
theorem ops_row {w : World} {a : Option Addr} {l : List T} (h : l.map T.nums = [] ∨ ∃ a', a = some a' ∧ a'.block < w.heap.size ∧ RowAt w a' ((l.map T.nums).flatMap (iv tks))) : l = [] ∨ ∃ a', a = some a' ∧ a'.block < w.heap.size ∧ RowAt w a' (rowOf T.val l) := by
  rcases h with h | ⟨a', h1, h2, h3⟩
  · exact .inl (by simpa using h)
  · refine .inr ⟨a', h1, h2, ?_⟩
    have e : (l.map T.nums).flatMap (iv tks) = rowOf T.val l := by
      rw [List.flatMap_map]
      rfl
    rwa [e] at h3
theorem ops_v {l : List T} (h : ∀ x ∈ l, KW tks x.nums) : ∀ o ∈ l, 0 ≤ o.v ∧ o.v < 4294967296 := by
  intro o ho
  have := bounds_u32 (h o ho).2.1
  omega
theorem rng_u32 (n : Nat) {ns : List Int} (h : KW (List.replicate n .u32) ns) : ∀ v ∈ ns, 0 ≤ v ∧ v < 4294967296 := by
  induction n generalizing ns with
  | zero => cases ns with
    | nil => simp
    | cons _ _ => exact h.elim
  | succ n ih => cases ns with
    | nil => simp
    | cons x ns =>
      intro v hv
      rcases List.mem_cons.1 hv with rfl | hv
      · have := bounds_u32 h.1
        omega
      · exact ih h.2 v hv
theorem iv_rep (k : IntKind) : ∀ (n : Nat) (ns : List Int), ns.length = n → iv (List.replicate n k) ns = ns.map (Value.int k)
  | 0, [], _ => rfl
  | n + 1, x :: ns, h => by
    simp only [List.length_cons, Nat.add_right_cancel_iff] at h
    simp [List.replicate_succ, iv, iv_rep k n ns h]
  | 0, _ :: _, h => by simp at h
  | n + 1, [], h => by simp at h
/-- what a run has left below -/
theorem Hp.bel {w w' : World} {L : List Ck} (H : Hp w.heap.size w w' L) : Go.RowKit.Below w.heap.size w w' := ⟨H.os, H.tape, H.out, H.le, H.old⟩
end Wh
