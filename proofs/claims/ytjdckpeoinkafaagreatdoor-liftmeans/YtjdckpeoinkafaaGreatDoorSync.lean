/- A part of the walk through the code: contracts of functions, printed by a program of the prover. -/
import Derived.Test.YtjdckpeoinkafaaGreatDoorXf
set_option linter.all false
namespace Wh
open Go Go.Proofs
set_option maxRecDepth 100000
theorem b32_spec (w : World) (b : Bool) : Calls Tryz.prog 125 #[.bool b] w fun e w' => e = .returned (.int .u32 (if b then 1 else 0)) ∧ w' = w := by
  refine calls_go Tryz.func125 Tryz.ntmps125 rfl rfl ?_
  refine TW.seq ?_
  refine TW.region ?_
  refine LW.v (r_as) ?_
  refine LW.nil ?_
  refine TW.seq <| TW.seq ?_
  refine TW.region ?_
  refine LW.v (r_mv) ?_
  refine LW.nil ?_
  refine TW.c rfl (fun hb => ?_) (fun hb => ?_)
  · refine TW.seq ?_
    refine TW.region ?_
    refine LW.v (r_as) ?_
    refine LW.nil ?_
    refine TW.ret (ret1 (by rfl) rT ?_)
    subst hb; exact ⟨rfl, rfl⟩
  · refine TW.skip <| TW.seq ?_
    refine TW.region ?_
    refine LW.v (r_as) ?_
    refine LW.nil ?_
    refine TW.ret (ret1 (by rfl) rT ?_)
    subst hb; exact ⟨rfl, rfl⟩
theorem boolLoad_spec (B : Nat) (w0 w : World) (L : List Ck) (g : Nat) (x0 x2 x3 x4 x5 : Value) (d : Int) (H : Hp B w0 w (Blk g 90 #[x0, .int .u32 d, x2, x3, x4, x5] :: L)) : Calls Tryz.prog 94 #[.pointer (some ⟨g, 1, none⟩)] w fun e w' => e = .returned (.bool (d != 0)) ∧ w' = w := by
  refine calls_go Tryz.func94 Tryz.ntmps94 rfl rfl ?_
  refine TW.seq ?_
  refine TW.region ?_
  refine LW.v (r_as) ?_
  refine LW.nil ?_
  refine TW.seq ?_
  refine TW.region ?_
  refine LW.v (r_mv) ?_
  refine LW.v (r_nil) ?_
  refine LW.v (r_fa) ?_
  refine LW.v (r_xld H) ?_
  refine LW.v (r_bin) ?_
  refine LW.v (r_as) ?_
  refine LW.nil ?_
  refine TW.ret (ret1 (by rfl) rT ?_)
  exact ⟨rfl, rfl⟩
theorem boolStore_spec (B : Nat) (w0 w : World) (L : List Ck) (g : Nat) (x0 x2 x3 x4 x5 : Value) (d : Int) (H : Hp B w0 w (Blk g 90 #[x0, .int .u32 d, x2, x3, x4, x5] :: L)) : Calls Tryz.prog 107 #[.pointer (some ⟨g, 1, none⟩), .bool true] w fun e w' => e = .returned (.tuple #[]) ∧ Hp B w0 w' (Blk g 90 #[x0, .int .u32 1, x2, x3, x4, x5] :: L) := by
  refine calls_go Tryz.func107 Tryz.ntmps107 rfl rfl ?_
  refine TW.draw [(0, some 1), (1, some 1), (2, some 1), (3, some 0), (4, none), (5, none)] [4, 5] hmix (by kernel_rfl) (fun _ _ _ _ _ h => h) H (fun m w => (m = 0 → Hp _ _ w _)) (fun _ h _ => h) ?_
  intro w H
  refine DW.v (by rfl) (Quiet.y (fun _ _ => r_mv)) ?_
  refine DW.v (by rfl) (Quiet.y (fun _ _ => r_nil)) ?_
  refine DW.v (by rfl) (Quiet.y (fun _ _ => r_fa)) ?_
  refine DW.v (by rfl) (Quiet.y (fun _ _ => r_mv)) ?_
  refine DW.l (by rfl) ?_
  refine LW.c r_c1 ((b32_spec _ _).mono ?_)
  rintro _ w ⟨rfl, rfl⟩
  refine ⟨_, rfl, ?_⟩
  refine LW.nil ⟨(fun h => nomatch h), ?_⟩
  refine DW.l (by rfl) ?_
  refine LW.vm (r_xst H) ?_; intro w H
  refine LW.nil ⟨(fun h => nomatch h), ?_⟩
  refine DW.nil (fun _ => ?_)
  refine TW.end_ (ret0 (hR := ?_))
  exact ⟨rfl, H⟩
theorem ilock_spec (B : Nat) (w0 w : World) (L : List Ck) (g : Nat) (x0 x1 x3 x4 x5 : Value) (H : Hp B w0 w (Blk g 90 #[x0, x1, .int .i32 0, x3, x4, x5] :: L)) : Calls Tryz.prog 122 #[.pointer (some ⟨g, 2, none⟩)] w fun e w' => e = .returned (.tuple #[]) ∧ Hp B w0 w' (Blk g 90 #[x0, x1, .int .i32 1, x3, x4, x5] :: L) := by
  refine calls_go Tryz.func122 Tryz.ntmps122 rfl rfl ?_
  refine TW.seq ?_
  refine TW.region ?_
  refine LW.v (r_xm0) ?_
  refine LW.nil ?_
  refine TW.seq <| TW.seq ?_
  refine TW.region ?_
  refine LW.v (r_mv) ?_
  refine LW.v (r_nil) ?_
  refine LW.v (r_fa) ?_
  refine LW.vm (r_xcas H) ?_; intro w H
  refine LW.nil ?_
  refine TW.c rfl (fun _ => ?_) (fun h => by cases h)
  refine TW.seq ?_
  refine TW.c rfl (fun _ => ?_) (fun h => by cases h)
  refine TW.seq ?_
  refine TW.region ?_
  refine LW.v (r_xm0) ?_
  refine LW.nil ?_
  refine TW.region ?_
  refine LW.v (r_mv) ?_
  refine LW.v (r_cvu H) ?_
  refine LW.v (r_xm1) ?_
  refine LW.nil ?_
  refine TW.ret (ret0r (hR := ?_))
  exact ⟨rfl, H⟩
theorem lock_spec (B : Nat) (w0 w : World) (L : List Ck) (g : Nat) (x0 x1 x3 x4 x5 : Value) (H : Hp B w0 w (Blk g 90 #[x0, x1, .int .i32 0, x3, x4, x5] :: L)) : Calls Tryz.prog 105 #[.pointer (some ⟨g, 2, none⟩)] w fun e w' => e = .returned (.tuple #[]) ∧ Hp B w0 w' (Blk g 90 #[x0, x1, .int .i32 1, x3, x4, x5] :: L) := by
  refine calls_go Tryz.func105 Tryz.ntmps105 rfl rfl ?_
  refine TW.region ?_
  refine LW.v (r_mv) ?_
  refine LW.v (r_nil) ?_
  refine LW.v (r_fa) ?_
  refine LW.c r_c1 ((ilock_spec _ _ _ _ _ _ _ _ _ _ H).mono ?_)
  rintro _ w ⟨rfl, H⟩
  refine ⟨_, rfl, ?_⟩
  refine LW.nil ?_
  refine TW.end_ (ret0 (hR := ?_))
  exact ⟨rfl, H⟩
theorem iunlock_spec (B : Nat) (w0 w : World) (L : List Ck) (g : Nat) (x0 x1 x3 x4 x5 : Value) (H : Hp B w0 w (Blk g 90 #[x0, x1, .int .i32 1, x3, x4, x5] :: L)) : Calls Tryz.prog 123 #[.pointer (some ⟨g, 2, none⟩)] w fun e w' => e = .returned (.tuple #[]) ∧ Hp B w0 w' (Blk g 90 #[x0, x1, .int .i32 0, x3, x4, x5] :: L) := by
  refine calls_go Tryz.func123 Tryz.ntmps123 rfl rfl ?_
  refine TW.seq ?_
  refine TW.c rfl (fun _ => ?_) (fun h => by cases h)
  refine TW.seq ?_
  refine TW.region ?_
  refine LW.v (r_mv) ?_
  refine LW.v (r_nil) ?_
  refine LW.v (r_fa) ?_
  refine LW.v (r_ld H) ?_
  refine LW.nil ?_
  refine TW.seq ?_
  refine TW.region ?_
  refine LW.v (r_mv) ?_
  refine LW.v (r_cvu H) ?_
  refine LW.v (r_xm1) ?_
  refine LW.nil ?_
  refine TW.region ?_
  refine LW.v (r_xm0) ?_
  refine LW.nil ?_
  refine TW.seq ?_
  refine TW.region ?_
  refine LW.v (r_mv) ?_
  refine LW.v (r_nil) ?_
  refine LW.v (r_fa) ?_
  refine LW.vm (r_xadd H) ?_; intro w H
  refine LW.v (r_as) ?_
  refine LW.nil ?_
  refine TW.seq <| TW.seq ?_
  refine TW.region ?_
  refine LW.v (r_mv) ?_
  refine LW.v (r_bin) ?_
  refine LW.nil ?_
  refine TW.c rfl (fun h => by cases h) (fun _ => ?_)
  refine TW.skip ?_
  refine TW.region ?_
  refine LW.v (r_xm0) ?_
  refine LW.nil ?_
  refine TW.end_ (ret0 (hR := ?_))
  exact ⟨rfl, H⟩
theorem unlock_specD (B : Nat) (w0 w : World) (L : List Ck) (g : Nat) (x0 x1 x3 x4 x5 : Value) (H : Hp B w0 w (Blk g 90 #[x0, x1, .int .i32 1, x3, x4, x5] :: L)) : CallsD Tryz.prog 106 #[.pointer (some ⟨g, 2, none⟩)] .returning w fun e u w' => u = .returning ∧ e = .returned (.tuple #[]) ∧ Hp B w0 w' (Blk g 90 #[x0, x1, .int .i32 0, x3, x4, x5] :: L) := by
  refine callsD_go Tryz.func106 Tryz.ntmps106 rfl rfl ?_
  refine TW.region ?_
  refine LW.v (r_mv) ?_
  refine LW.v (r_nil) ?_
  refine LW.v (r_fa) ?_
  refine LW.c r_c1 ((iunlock_spec _ _ _ _ _ _ _ _ _ _ H).mono ?_)
  rintro _ w ⟨rfl, H⟩
  refine ⟨_, rfl, ?_⟩
  refine LW.nil ?_
  refine TW.end_ (ret0 (hR := ?_))
  exact ⟨rfl, H⟩
theorem boolStore_specD (B : Nat) (w0 w : World) (L : List Ck) (g : Nat) (x0 x2 x3 x4 x5 : Value) (d : Int) (H : Hp B w0 w (Blk g 90 #[x0, .int .u32 d, x2, x3, x4, x5] :: L)) : CallsD Tryz.prog 107 #[.pointer (some ⟨g, 1, none⟩), .bool true] .returning w fun e u w' => u = .returning ∧ e = .returned (.tuple #[]) ∧ Hp B w0 w' (Blk g 90 #[x0, .int .u32 1, x2, x3, x4, x5] :: L) := by
  refine callsD_go Tryz.func107 Tryz.ntmps107 rfl rfl ?_
  refine TW.draw [(0, some 1), (1, some 1), (2, some 1), (3, some 0), (4, none), (5, none)] [4, 5] hmix (by kernel_rfl) (fun _ _ _ _ _ h => h) H (fun m w => (m = 0 → Hp _ _ w _)) (fun _ h _ => h) ?_
  intro w H
  refine DW.v (by rfl) (Quiet.y (fun _ _ => r_mv)) ?_
  refine DW.v (by rfl) (Quiet.y (fun _ _ => r_nil)) ?_
  refine DW.v (by rfl) (Quiet.y (fun _ _ => r_fa)) ?_
  refine DW.v (by rfl) (Quiet.y (fun _ _ => r_mv)) ?_
  refine DW.l (by rfl) ?_
  refine LW.c r_c1 ((b32_spec _ _).mono ?_)
  rintro _ w ⟨rfl, rfl⟩
  refine ⟨_, rfl, ?_⟩
  refine LW.nil ⟨(fun h => nomatch h), ?_⟩
  refine DW.l (by rfl) ?_
  refine LW.vm (r_xst H) ?_; intro w H
  refine LW.nil ⟨(fun h => nomatch h), ?_⟩
  refine DW.nil (fun _ => ?_)
  refine TW.end_ (ret0 (hR := ?_))
  exact ⟨rfl, H⟩
theorem begun1_spec (B : Nat) (w0 w : World) (L : List Ck) (g gd gb : Nat) (x0 x1 x2 x3 x4 x5 mv : Value) (hmv : mv.oneCell' = true) (H : Hp B w0 w (Blk g 90 #[x0, x1, x2, x3, x4, x5] :: Blk gd 25 #[.pointer (some ⟨g, 0, none⟩)] :: Blk gb 85 #[mv] :: L)) : Calls Tryz.prog 80 #[.pointer (some ⟨gb, 0, none⟩), .pointer (some ⟨gd, 0, none⟩)] w fun e w' => e = .returned (.tuple #[]) ∧ Hp B w0 w' (Blk g 90 #[x0, x1, x2, x3, mv, x5] :: Blk gd 25 #[.pointer (some ⟨g, 0, none⟩)] :: Blk gb 85 #[mv] :: L) := by
  refine calls_go Tryz.func80 Tryz.ntmps80 rfl rfl ?_
  refine TW.region ?_
  refine LW.v (r_ld H) ?_
  refine LW.v (r_ld H) ?_
  refine LW.v (r_nil) ?_
  refine LW.v (r_fa) ?_
  refine LW.sto (r_st (h1 := hmv) H) ?_; intro w H
  refine LW.nil ?_
  refine TW.end_ (ret0 (hR := ?_))
  exact ⟨rfl, H⟩
theorem doSlow_spec (B : Nat) (w0 w : World) (L : List Ck) (g gd gb : Nat) (x0 x3 x4 x5 mv : Value) (hmv : mv.oneCell' = true) (H : Hp B w0 w (Blk g 90 #[x0, .int .u32 0, .int .i32 0, x3, x4, x5] :: Blk gd 25 #[.pointer (some ⟨g, 0, none⟩)] :: Blk gb 85 #[mv] :: L)) : Calls Tryz.prog 95 #[.pointer (some ⟨g, 1, none⟩), .func (.func 80) #[] #[.pointer (some ⟨gb, 0, none⟩), .pointer (some ⟨gd, 0, none⟩)]] w fun e w' => e = .returned (.tuple #[]) ∧ Hp B w0 w' (Blk g 90 #[x0, .int .u32 1, .int .i32 0, x3, mv, x5] :: Blk gd 25 #[.pointer (some ⟨g, 0, none⟩)] :: Blk gb 85 #[mv] :: L) := by
  refine calls_goD Tryz.func95 Tryz.ntmps95 rfl rfl ?_
  refine TW.seq ?_
  refine TW.region ?_
  refine LW.v (r_mv) ?_
  refine LW.v (r_nil) ?_
  refine LW.v (r_fa) ?_
  refine LW.c r_c1 ((lock_spec _ _ _ _ _ _ _ _ _ _ H).mono ?_)
  rintro _ w ⟨rfl, H⟩
  refine ⟨_, rfl, ?_⟩
  refine LW.nil ?_
  refine TW.seq ?_
  refine TW.region ?_
  refine LW.v (r_mv) ?_
  refine LW.v (r_nil) ?_
  refine LW.v (r_fa) ?_
  refine LW.dfr r_d1 ?_
  refine LW.nil ?_
  refine TW.seq ?_
  refine TW.region ?_
  refine LW.v (r_mv) ?_
  refine LW.v (r_nil) ?_
  refine LW.v (r_fa) ?_
  refine LW.c r_c1 ((boolLoad_spec _ _ _ _ _ _ _ _ _ _ 0 H).mono ?_)
  rintro _ w ⟨rfl, rfl⟩
  refine ⟨_, rfl, ?_⟩
  refine LW.v (r_not) ?_
  refine LW.nil ?_
  refine TW.c rfl (fun _ => ?_) (fun h => by cases h)
  refine TW.seq ?_
  refine TW.region ?_
  refine LW.v (r_mv) ?_
  refine LW.v (r_nil) ?_
  refine LW.v (r_fa) ?_
  refine LW.dfr r_d2 ?_
  refine LW.nil ?_
  refine TW.region ?_
  refine LW.v (r_mv) ?_
  -- the function itself
  refine LW.c r_k0 ((begun1_spec _ _ _ _ _ _ _ _ (.int .u32 0) (.int .i32 1) _ _ _ _ hmv H).mono ?_)
  rintro _ w ⟨rfl, H⟩
  refine ⟨_, rfl, ?_⟩
  refine LW.nil ?_
  refine TW.end_ (retD_end fun tmps hres => ?_)
  refine leaves_go ((boolStore_specD _ _ _ _ _ _ _ _ _ _ 0 H).mono ?_)
  rintro _ _ w ⟨rfl, rfl, H⟩
  refine ⟨rfl, _, rfl, ?_⟩
  refine leaves_go ((unlock_specD _ _ _ _ _ _ _ _ _ _ H).mono ?_)
  rintro _ _ w ⟨rfl, rfl, H⟩
  exact ⟨rfl, _, rfl, leaves_nil (hres _) ⟨rfl, H⟩⟩
end Wh
