/- A part of the walk through the code: contracts of functions, printed by a program of the prover. -/
import Derived.Test.YtjdckpeoinkafaaDoorFwJ
import Derived.Test.YtjdckpeoinkafaaDoorTy
set_option linter.all false
set_option maxRecDepth 100000
namespace Wh
open Go Go.Proofs
theorem hmix : Tryd.prog.follows .mixedOrders = true := by kernel_rfl
instance : XF Tryd.prog 76 (Extern.Atomic.loadT (.int .u32)) := ⟨_, Tryd.func76, by kernel_rfl, by kernel_rfl, by kernel_rfl, by kernel_rfl⟩
instance : XF Tryd.prog 83 (Extern.Atomic.storeT) := ⟨_, Tryd.func83, by kernel_rfl, by kernel_rfl, by kernel_rfl, by kernel_rfl⟩
instance : XF Tryd.prog 48 (Extern.Atomic.update (Op.intArith .add) .i64 true) := ⟨_, Tryd.func48, by kernel_rfl, by kernel_rfl, by kernel_rfl, by kernel_rfl⟩
instance : XF Tryd.prog 91 (Extern.Atomic.update (Op.intArith .add) .i32 true) := ⟨_, Tryd.func91, by kernel_rfl, by kernel_rfl, by kernel_rfl, by kernel_rfl⟩
instance : XF Tryd.prog 86 (Extern.Atomic.casT (.int .i32)) := ⟨_, Tryd.func86, by kernel_rfl, by kernel_rfl, by kernel_rfl, by kernel_rfl⟩
instance : XF Tryd.prog 85 (fun _ => do mark .disable; pure Extern.Race.none_) := ⟨_, Tryd.func85, by kernel_rfl, by kernel_rfl, by kernel_rfl, by kernel_rfl⟩
instance : XF Tryd.prog 87 (fun _ => do mark .enable; pure Extern.Race.none_) := ⟨_, Tryd.func87, by kernel_rfl, by kernel_rfl, by kernel_rfl, by kernel_rfl⟩
instance : XF Tryd.prog 88 (Extern.Race.marked .acquire) := ⟨_, Tryd.func88, by kernel_rfl, by kernel_rfl, by kernel_rfl, by kernel_rfl⟩
instance : XF Tryd.prog 90 (Extern.Race.marked .releaseMerge) := ⟨_, Tryd.func90, by kernel_rfl, by kernel_rfl, by kernel_rfl, by kernel_rfl⟩
instance : SI Tryd.prog 61 [.i64, .u32, .i64, .i64, .i64] := ⟨by kernel_rfl, by kernel_rfl, by kernel_rfl⟩
instance : SI Tryd.prog 35 [.i64, .i64, .i64, .i64, .i64] := ⟨by kernel_rfl, by kernel_rfl, by kernel_rfl⟩
instance : BS Tryd.prog 61 [(0, 1), (1, 1), (2, 1), (3, 1), (4, 1)] := ⟨_, Tryd.underlying61, fun w => by kernel_rfl⟩
instance : BS Tryd.prog 35 [(0, 1), (1, 1), (2, 1), (3, 1), (4, 1)] := ⟨_, Tryd.underlying35, fun w => by kernel_rfl⟩
instance : BS Tryd.prog 92 [(0, 1), (1, 1), (2, 1), (3, 1)] := ⟨_, Tryd.underlying92, fun w => by kernel_rfl⟩
instance : UT Tryd.prog 145 .unsafePointer := ⟨by kernel_rfl⟩
end Wh
