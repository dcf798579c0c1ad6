/- A part of the walk through the code: contracts of functions, printed by a program of the prover. -/
import Derived.Test.YtjdckpeoinkafaaGreatDoorFwJ
import Derived.Test.YtjdckpeoinkafaaGreatDoorTy
set_option linter.all false
set_option maxRecDepth 100000
namespace Wh
open Go Go.Proofs
theorem hmix : Tryz.prog.follows .mixedOrders = true := by kernel_rfl
instance : XF Tryz.prog 104 (Extern.Atomic.loadT (.int .u32)) := ⟨_, Tryz.func104, by kernel_rfl, by kernel_rfl, by kernel_rfl, by kernel_rfl⟩
instance : XF Tryz.prog 83 (Extern.Atomic.loadT (.int .i64)) := ⟨_, Tryz.func83, by kernel_rfl, by kernel_rfl, by kernel_rfl, by kernel_rfl⟩
instance : XF Tryz.prog 124 (Extern.Atomic.storeT) := ⟨_, Tryz.func124, by kernel_rfl, by kernel_rfl, by kernel_rfl, by kernel_rfl⟩
instance : XF Tryz.prog 82 (Extern.Atomic.storeT) := ⟨_, Tryz.func82, by kernel_rfl, by kernel_rfl, by kernel_rfl, by kernel_rfl⟩
instance : XF Tryz.prog 96 (Extern.Atomic.update (Op.intArith .add) .i64 true) := ⟨_, Tryz.func96, by kernel_rfl, by kernel_rfl, by kernel_rfl, by kernel_rfl⟩
instance : XF Tryz.prog 138 (Extern.Atomic.update (Op.intArith .add) .i32 true) := ⟨_, Tryz.func138, by kernel_rfl, by kernel_rfl, by kernel_rfl, by kernel_rfl⟩
instance : XF Tryz.prog 133 (Extern.Atomic.casT (.int .i32)) := ⟨_, Tryz.func133, by kernel_rfl, by kernel_rfl, by kernel_rfl, by kernel_rfl⟩
instance : XF Tryz.prog 132 (fun _ => do mark .disable; pure Extern.Race.none_) := ⟨_, Tryz.func132, by kernel_rfl, by kernel_rfl, by kernel_rfl, by kernel_rfl⟩
instance : XF Tryz.prog 134 (fun _ => do mark .enable; pure Extern.Race.none_) := ⟨_, Tryz.func134, by kernel_rfl, by kernel_rfl, by kernel_rfl, by kernel_rfl⟩
instance : XF Tryz.prog 135 (Extern.Race.marked .acquire) := ⟨_, Tryz.func135, by kernel_rfl, by kernel_rfl, by kernel_rfl, by kernel_rfl⟩
instance : XF Tryz.prog 137 (Extern.Race.marked .releaseMerge) := ⟨_, Tryz.func137, by kernel_rfl, by kernel_rfl, by kernel_rfl, by kernel_rfl⟩
instance : SI Tryz.prog 68 [.i64, .u32, .i64, .i64, .i64] := ⟨by kernel_rfl, by kernel_rfl, by kernel_rfl⟩
instance : SI Tryz.prog 31 [.i64, .i64, .i64, .i64, .i64] := ⟨by kernel_rfl, by kernel_rfl, by kernel_rfl⟩
instance : BS Tryz.prog 68 [(0, 1), (1, 1), (2, 1), (3, 1), (4, 1)] := ⟨_, Tryz.underlying68, fun w => by kernel_rfl⟩
instance : BS Tryz.prog 31 [(0, 1), (1, 1), (2, 1), (3, 1), (4, 1)] := ⟨_, Tryz.underlying31, fun w => by kernel_rfl⟩
instance : BS Tryz.prog 110 [(0, 1), (1, 1), (2, 1), (3, 1)] := ⟨_, Tryz.underlying110, fun w => by kernel_rfl⟩
instance : UT Tryz.prog 184 .unsafePointer := ⟨by kernel_rfl⟩
end Wh
