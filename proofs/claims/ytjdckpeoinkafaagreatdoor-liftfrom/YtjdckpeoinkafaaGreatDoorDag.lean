/- A part of the walk through the code: contracts of functions, printed by a program of the prover. -/
import Derived.Test.YtjdckpeoinkafaaGreatDoorSync
import Derived.Test.YtjdckpeoinkafaaGreatDoorSp
set_option linter.all false
namespace Wh
open Go Go.Proofs
set_option maxRecDepth 100000
/-- a Dag that has begun, laid open -/
def dagL (p m : Nat) (v : Value) (D : List T) : List Ck := [Blk p 90 #[v, .int .u32 1, .int .i32 0, .int .u32 0, .map (some m), .int .i64 D.length], MapC T.val i64v m (numb 0 D), Row 68 5 v D.length (D.flatMap T.cells)]
/-- a Dag -/
def DagC (p : Nat) (D : List T) (c : Ck) : Prop :=
  (D = [] ∧ c = Blk p 90 #[.slice none 0 0, .int .u32 0, .int .i32 0, .int .u32 0, .map none, .int .i64 0]) ∨ ∃ m v, c = Ck.all (dagL p m v D)

theorem once_first (B : Nat) (w0 w : World) (L : List Ck) (g gd gb : Nat) (x0 x3 x4 x5 mv : Value) (hmv : mv.oneCell' = true) (H : Hp B w0 w (Blk g 90 #[x0, .int .u32 0, .int .i32 0, x3, x4, x5] :: Blk gd 25 #[.pointer (some ⟨g, 0, none⟩)] :: Blk gb 85 #[mv] :: L)) : Calls Tryz.prog 79 #[.pointer (some ⟨g, 1, none⟩), .func (.func 80) #[] #[.pointer (some ⟨gb, 0, none⟩), .pointer (some ⟨gd, 0, none⟩)]] w fun e w' => e = .returned (.tuple #[]) ∧ Hp B w0 w' (Blk g 90 #[x0, .int .u32 1, .int .i32 0, x3, mv, x5] :: Blk gd 25 #[.pointer (some ⟨g, 0, none⟩)] :: Blk gb 85 #[mv] :: L) := by
  refine calls_go Tryz.func79 Tryz.ntmps79 rfl rfl ?_
  refine TW.seq ?_
  refine TW.region ?_
  refine LW.v (r_mv) ?_
  refine LW.v (r_nil) ?_
  refine LW.v (r_fa) ?_
  refine LW.c r_c1 ((boolLoad_spec _ _ _ _ _ _ _ _ _ _ 0 H).mono ?_)
  rintro _ w ⟨rfl, rfl⟩
  refine ⟨_, rfl, ?_⟩
  refine LW.v (r_not) ?_
  refine LW.nil ?_
  refine TW.c rfl (fun _ => ?_) (fun h => by cases h)
  refine TW.region ?_
  refine LW.v (r_mv) ?_
  refine LW.v (r_mv) ?_
  refine LW.c r_c2 ((doSlow_spec _ _ _ _ _ _ _ _ _ _ _ _ hmv H).mono ?_)
  rintro _ w ⟨rfl, H⟩
  refine ⟨_, rfl, ?_⟩
  refine LW.nil ?_
  refine TW.end_ (ret0 (hR := ?_))
  exact ⟨rfl, H⟩
theorem once_again (B : Nat) (w0 w : World) (L : List Ck) (g : Nat) (x0 x2 x3 x4 x5 fv : Value) (H : Hp B w0 w (Blk g 90 #[x0, .int .u32 1, x2, x3, x4, x5] :: L)) : Calls Tryz.prog 79 #[.pointer (some ⟨g, 1, none⟩), fv] w fun e w' => e = .returned (.tuple #[]) ∧ w' = w := by
  refine calls_go Tryz.func79 Tryz.ntmps79 rfl rfl ?_
  refine TW.seq ?_
  refine TW.region ?_
  refine LW.v (r_mv) ?_
  refine LW.v (r_nil) ?_
  refine LW.v (r_fa) ?_
  refine LW.c r_c1 ((boolLoad_spec _ _ _ _ _ _ _ _ _ _ 1 H).mono ?_)
  rintro _ w ⟨rfl, rfl⟩
  refine ⟨_, rfl, ?_⟩
  refine LW.v (r_not) ?_
  refine LW.nil ?_
  refine TW.c rfl (fun h => by cases h) (fun _ => ?_)
  refine TW.skip ?_
  refine TW.end_ (ret0 (hR := ?_))
  exact ⟨rfl, rfl⟩
theorem begun_spec (B : Nat) (w0 w : World) (L : List Ck) (p r : Nat) (D : List T) (c : Ck) (hc : DagC p D c) (H : Hp B w0 w (c :: MapC T.val i64v r [] :: L)) :
    Calls Tryz.prog 43 #[.pointer (some ⟨p, 0, none⟩), .map (some r)] w fun e w' => e = .returned (.tuple #[]) ∧ ∃ m v, Hp B w0 w' (dagL p m v D ++ L) := by
  rcases hc with ⟨rfl, rfl⟩ | ⟨m, v, rfl⟩
  · refine calls_go Tryz.func43 Tryz.ntmps43 rfl rfl ?_
    refine TW.seq ?_
    refine TW.region ?_
    refine LW.new (r_box H) ?_; intro g2 w H
    refine LW.new (r_box H) ?_; intro g3 w H
    refine LW.nil ?_
    refine TW.region ?_
    refine LW.v (r_ld H) ?_
    refine LW.v (r_nil) ?_
    refine LW.v (r_fa) ?_
    refine LW.v (r_fun (h1 := rfl) (h2 := rfl)) ?_
    refine LW.c r_c2 ((once_first _ _ _ _ _ _ _ _ _ _ _ (.map (some r)) rfl (H.perm (perm_front _ 2 _ rfl |>.trans (List.Perm.cons _ (List.Perm.swap _ _ _))))).mono ?_)
    rintro _ w ⟨rfl, H⟩
    refine ⟨_, rfl, ?_⟩
    refine LW.nil ?_
    refine TW.end_ (ret0 (hR := ?_))
    refine ⟨rfl, r, .slice none 0 0, ?_⟩
    have H := (H.dropAt 1).dropAt 1
    exact (H.new (c' := Row 68 5 (.slice none 0 0) 0 []) (Chg.refl _ _) (World.ownsRow_nil _ _ _ _) (by intro k hk; simp [Row, Value.ownBlock] at hk)).perm ((List.Perm.swap _ _ _).trans (List.Perm.cons _ (List.Perm.swap _ _ _)))
  · have H := H.of_all
    refine calls_go Tryz.func43 Tryz.ntmps43 rfl rfl ?_
    refine TW.seq ?_
    refine TW.region ?_
    refine LW.new (r_box H) ?_; intro g2 w H
    refine LW.new (r_box H) ?_; intro g3 w H
    refine LW.nil ?_
    refine TW.region ?_
    refine LW.v (r_ld H) ?_
    refine LW.v (r_nil) ?_
    refine LW.v (r_fa) ?_
    refine LW.v (r_fun (h1 := rfl) (h2 := rfl)) ?_
    refine LW.c r_c2 ((once_again _ _ _ _ _ _ _ _ _ _ _ (H.front 2 rfl)).mono ?_)
    rintro _ w ⟨rfl, rfl⟩
    refine ⟨_, rfl, ?_⟩
    refine LW.nil ?_
    refine TW.end_ (ret0 (hR := ?_))
    exact ⟨rfl, m, v, ((H.drop).drop).dropAt 3⟩
theorem add64_spec (B : Nat) (w0 w : World) (L : List Ck) (g : Nat) (x0 x1 x2 x3 x4 : Value) (a c s : Int) (hs : IntKind.i64.wrap (c + a) = s) (H : Hp B w0 w (Blk g 90 #[x0, x1, x2, x3, x4, .int .i64 c] :: L)) :
    Calls Tryz.prog 84 #[.pointer (some ⟨g, 5, none⟩), .int .i64 a] w fun e w' => e = .returned (.int .i64 s) ∧ Hp B w0 w' (Blk g 90 #[x0, x1, x2, x3, x4, .int .i64 s] :: L) := by
  subst hs
  refine calls_go Tryz.func84 Tryz.ntmps84 rfl rfl ?_
  refine TW.seq ?_
  refine TW.region ?_
  refine LW.v (r_as) ?_
  refine LW.nil ?_
  refine TW.seq ?_
  refine TW.region ?_
  refine LW.v (r_mv) ?_
  refine LW.v (r_nil) ?_
  refine LW.v (r_fa) ?_
  refine LW.v (r_mv) ?_
  refine LW.vm (r_xadd H) ?_; intro w H
  refine LW.v (r_as) ?_
  refine LW.nil ?_
  refine TW.ret (ret1 (by rfl) rT ?_)
  exact ⟨rfl, H⟩
theorem number_spec (B : Nat) (w0 w : World) (L : List Ck) (p : Nat) (D : List T) (t : T) (c : Ck) (hc : DagC p D c) (hlen : D.length < 1073741824) (H : Hp B w0 w (c :: L)) :
    Calls Tryz.prog 48 #[.pointer (some ⟨p, 0, none⟩), t.val] w fun e w' => e = .returned (.int .i64 (addT D t).1) ∧ ∃ c', DagC p (addT D t).2 c' ∧ Hp B w0 w' (c' :: L) := by
  have K := keyTerm (P := Tryz.prog) (t := 68) inferInstance
  cases hl : alook t (numb 0 D) with
  | some i =>
    refine calls_go Tryz.func48 Tryz.ntmps48 rfl rfl ?_
    refine TW.seq ?_
    refine TW.region ?_
    refine LW.new (r_box H) ?_; intro g3 w H
    refine LW.v (r_as) ?_
    refine LW.nil ?_
    refine TW.seq ?_
    refine TW.region ?_
    refine LW.v (r_mv) ?_
    refine LW.new (r_mm T.val i64v H) ?_; intro gm w H
    refine LW.c r_c2 ((begun_spec _ _ _ _ _ _ _ _ hc (H.perm (perm_front _ 2 _ rfl))).mono ?_)
    rintro _ w ⟨rfl, m, v, H⟩
    refine ⟨_, rfl, ?_⟩
    refine LW.nil ?_
    simp only [dagL, List.cons_append, List.nil_append, List.eraseIdx] at H
    refine TW.seq <| TW.seq ?_
    refine TW.draw [(0, some 0), (1, some 0), (2, some 0), (3, some 0), (4, some 0), (5, some 0), (6, some 0), (7, some 0), (8, some 0), (9, some 0), (10, some 0)] [] hmix (by kernel_rfl) (fun _ _ _ _ _ h => h) H (fun m w => (m = 0 → Hp _ _ w _)) (fun _ h _ => h) ?_
    intro w H
    refine DW.v (by rfl) (Quiet.y (fun _ _ => r_mv)) ?_
    refine DW.v (by rfl) (Quiet.y (fun _ _ => r_nil)) ?_
    refine DW.v (by rfl) (Quiet.y (fun _ _ => r_fa)) ?_
    refine DW.hm (by rfl) (Quiet.y (fun _ h => r_ld (h rfl))) ?_
    refine DW.hm (by rfl) (Quiet.y (fun _ h => r_ldW (h rfl))) ?_
    refine DW.hm (by rfl) (Quiet.y (fun _ h => r_lk2s (h rfl) K hl rfl)) ?_
    refine DW.v (by rfl) (Quiet.y (fun _ _ => r_mv)) ?_
    refine DW.v (by rfl) (Quiet.y (fun _ _ => r_ext)) ?_
    refine DW.v (by rfl) (Quiet.y (fun _ _ => r_ext)) ?_
    refine DW.v (by rfl) (Quiet.y (fun _ _ => r_as)) ?_
    refine DW.v (by rfl) (Quiet.y (fun _ _ => r_as)) ?_
    refine DW.nil (fun _ => ?_)
    refine TW.seq ?_
    refine TW.region ?_
    refine LW.v (r_mv) ?_
    refine LW.nil ?_
    refine TW.c rfl (fun _ => ?_) (fun h => by cases h)
    refine TW.seq ?_
    refine TW.region ?_
    refine LW.v (r_mv) ?_
    refine LW.v (r_as) ?_
    refine LW.nil ?_
    refine TW.ret (ret1 (by rfl) rT ?_)
    refine ⟨by simp [addT, hl, i64v], Ck.all (dagL p m v D), ?_, ?_⟩
    · simp only [addT, hl]; exact .inr ⟨m, v, rfl⟩
    · exact (H.dropAt 3).all_of
  | none =>
    refine calls_go Tryz.func48 Tryz.ntmps48 rfl rfl ?_
    refine TW.seq ?_
    refine TW.region ?_
    refine LW.new (r_box H) ?_; intro g3 w H
    refine LW.v (r_as) ?_
    refine LW.nil ?_
    refine TW.seq ?_
    refine TW.region ?_
    refine LW.v (r_mv) ?_
    refine LW.new (r_mm T.val i64v H) ?_; intro gm w H
    refine LW.c r_c2 ((begun_spec _ _ _ _ _ _ _ _ hc (H.perm (perm_front _ 2 _ rfl))).mono ?_)
    rintro _ w ⟨rfl, m, v, H⟩
    refine ⟨_, rfl, ?_⟩
    refine LW.nil ?_
    simp only [dagL, List.cons_append, List.nil_append, List.eraseIdx] at H
    refine TW.seq <| TW.seq ?_
    refine TW.draw [(0, some 0), (1, some 0), (2, some 0), (3, some 0), (4, some 0), (5, some 0), (6, some 0), (7, some 0), (8, some 0), (9, some 0), (10, some 0)] [] hmix (by kernel_rfl) (fun _ _ _ _ _ h => h) H (fun m w => (m = 0 → Hp _ _ w _)) (fun _ h _ => h) ?_
    intro w H
    refine DW.v (by rfl) (Quiet.y (fun _ _ => r_mv)) ?_
    refine DW.v (by rfl) (Quiet.y (fun _ _ => r_nil)) ?_
    refine DW.v (by rfl) (Quiet.y (fun _ _ => r_fa)) ?_
    refine DW.hm (by rfl) (Quiet.y (fun _ h => r_ld (h rfl))) ?_
    refine DW.hm (by rfl) (Quiet.y (fun _ h => r_ldW (h rfl))) ?_
    refine DW.hm (by rfl) (Quiet.y (fun _ h => r_lk2n (h rfl) K hl rfl)) ?_
    refine DW.v (by rfl) (Quiet.y (fun _ _ => r_mv)) ?_
    refine DW.v (by rfl) (Quiet.y (fun _ _ => r_ext)) ?_
    refine DW.v (by rfl) (Quiet.y (fun _ _ => r_ext)) ?_
    refine DW.v (by rfl) (Quiet.y (fun _ _ => r_as)) ?_
    refine DW.v (by rfl) (Quiet.y (fun _ _ => r_as)) ?_
    refine DW.nil (fun _ => ?_)
    refine TW.seq ?_
    refine TW.region ?_
    refine LW.v (r_mv) ?_
    refine LW.nil ?_
    refine TW.c rfl (fun h => by cases h) (fun _ => ?_)
    refine TW.skip <| TW.seq ?_
    refine TW.region ?_
    refine LW.v (r_mv) ?_
    refine LW.v (r_nil) ?_
    refine LW.v (r_fa) ?_
    refine LW.c r_c2 ((add64_spec _ _ _ _ _ _ _ _ _ _ 1 D.length (D.length + 1) (w64 (by omega) (by omega)) H).mono ?_)
    rintro _ w ⟨rfl, H⟩
    refine ⟨_, rfl, ?_⟩
    first | refine LW.v (r_sub (hk := w64 (by omega) (by omega))) ?_ | refine LW.v (r_bin) ?_
    refine LW.v (r_as) ?_
    refine LW.nil ?_
    refine TW.seq ?_
    refine TW.draw [(0, some 2), (1, some 1), (2, some 1), (3, some 1), (4, some 1), (5, some 0), (6, none), (7, none), (8, some 2), (9, some 2), (10, none)] [6, 7, 10] hmix (by kernel_rfl) (fun _ _ _ _ _ h => h) H (fun m w => (m ≤ 1 → Hp _ _ w _)) (fun _ h _ => h) ?_
    intro w H
    refine DW.v (by rfl) (Quiet.y (fun _ _ => r_mv)) ?_
    refine DW.v (by rfl) (Quiet.y (fun _ _ => r_mv)) ?_
    refine DW.v (by rfl) (Quiet.y (fun _ _ => r_nil)) ?_
    refine DW.v (by rfl) (Quiet.y (fun _ _ => r_fa)) ?_
    refine DW.mb (by rfl) (fun _ _ _ h2 h => h (by omega)) (Quiet.y (fun _ h => r_ld h)) ?_
    refine DW.mb (by rfl) (fun _ _ _ h2 h => h (by omega)) (Quiet.y (fun _ h => r_ldW h)) ?_
    refine DW.l (by rfl) ?_
    refine LW.new (r_bsl H [t.val] t.cells rfl rfl (hv := by simp [T.val, T.nums, iv, Value.cells])) ?_; intro gs w H
    refine LW.nil ⟨(fun _ => H.drop), ?_⟩
    refine DW.l (by rfl) ?_
    refine LW.newv (r_app H (hl := rfl) (news := t.cells) (hnews := news_of_blk H) (h1 := by simp [T.cells, T.nums, iv, Value.oneCell']) (hb := by omega) (hmax := by omega)) ?_; intro v' w H
    refine LW.nil ⟨(fun h => absurd h (by decide)), ?_⟩
    have ho := oneR (v := v') H
    refine DW.v (by rfl) (Quiet.y (fun _ _ => r_nil)) ?_
    refine DW.v (by rfl) (Quiet.y (fun _ _ => r_fa)) ?_
    refine DW.l (by rfl) ?_
    refine LW.sto (r_st (h1 := ho) H) ?_; intro w H
    refine LW.nil ⟨(fun h => absurd h (by decide)), ?_⟩
    refine DW.nil (fun _ => ?_)
    refine TW.seq ?_
    refine TW.draw [(0, some 0), (1, some 0), (2, some 0), (3, some 0), (4, some 0), (5, some 0), (6, none)] [6] hmix (by kernel_rfl) (fun _ _ _ _ _ h => h) H (fun m w => (m = 0 → Hp _ _ w _)) (fun _ h _ => h) ?_
    intro w H
    refine DW.v (by rfl) (Quiet.y (fun _ _ => r_mv)) ?_
    refine DW.v (by rfl) (Quiet.y (fun _ _ => r_nil)) ?_
    refine DW.v (by rfl) (Quiet.y (fun _ _ => r_fa)) ?_
    refine DW.hm (by rfl) (Quiet.y (fun _ h => r_ld (h rfl))) ?_
    refine DW.hm (by rfl) (Quiet.y (fun _ h => r_ldW (h rfl))) ?_
    refine DW.v (by rfl) (Quiet.y (fun _ _ => r_mv)) ?_
    refine DW.l (by rfl) ?_
    refine LW.sto (r_mu H K (a := t) (b := (D.length : Int)) (hz := by show Value.int .i64 ((D.length : Int) + 1 - 1) = _; simp [i64v])) ?_; intro w H
    refine LW.nil ⟨(fun h => nomatch h), ?_⟩
    refine DW.nil (fun _ => ?_)
    refine TW.seq ?_
    refine TW.region ?_
    refine LW.v (r_mv) ?_
    refine LW.v (r_as) ?_
    refine LW.nil ?_
    refine TW.ret (ret1 (by rfl) rT ?_)
    refine ⟨by simp [addT, hl], Ck.all (dagL p m v' (D ++ [t])), ?_, ?_⟩
    · simp only [addT, hl]; exact .inr ⟨m, v', rfl⟩
    · have e := numb_put 0 D t hl
      simp only [Nat.zero_add] at e
      have H2 := H.drop.dropAt 3
      simp only [e, List.eraseIdx] at H2
      refine Hp.all_of (l := dagL p m v' (D ++ [t])) ?_
      simpa [dagL, List.flatMap_append] using H2
end Wh
