/- A part of the walk through the code: contracts of functions, printed by a program of the prover. -/
import Derived.Test.YtjdckpeoinkafaaGreatDoorFwC
import Derived.KernelRfl
import Derived.Test.YtjdckpeoinkafaaGreatDoorProg
import Derived.Test.YtjdckpeoinkafaaGreatDoorSp
set_option linter.all false
set_option maxRecDepth 100000
namespace Wh
open Go Go.Proofs
instance : TI Tryz.prog 0 1 (.tuple #[]) 0 := ⟨by kernel_rfl⟩
instance : TI Tryz.prog 1 1 (.nilFunc) 8 := ⟨by kernel_rfl⟩
instance : One Tryz.prog 1 := ⟨by kernel_rfl⟩
instance : UT Tryz.prog 2 (.int .i64) := ⟨Tryz.underlying2⟩
instance : TI Tryz.prog 2 1 (.int .i64 0) 8 := ⟨by kernel_rfl⟩
instance : One Tryz.prog 2 := ⟨by kernel_rfl⟩
instance : UT Tryz.prog 3 (.int .i64) := ⟨Tryz.underlying3⟩
instance : TI Tryz.prog 3 1 (.int .i64 0) 8 := ⟨by kernel_rfl⟩
instance : One Tryz.prog 3 := ⟨by kernel_rfl⟩
instance : UT Tryz.prog 4 .bool := ⟨Tryz.underlying4⟩
instance : TI Tryz.prog 4 1 (.bool false) 1 := ⟨by kernel_rfl⟩
instance : One Tryz.prog 4 := ⟨by kernel_rfl⟩
instance : UT Tryz.prog 5 (.int .u8) := ⟨Tryz.underlying5⟩
instance : TI Tryz.prog 5 1 (.int .u8 0) 1 := ⟨by kernel_rfl⟩
instance : One Tryz.prog 5 := ⟨by kernel_rfl⟩
instance : UT Tryz.prog 6 (.int .u8) := ⟨Tryz.underlying6⟩
instance : TI Tryz.prog 6 1 (.int .u8 0) 1 := ⟨by kernel_rfl⟩
instance : One Tryz.prog 6 := ⟨by kernel_rfl⟩
instance : TI Tryz.prog 7 4 (.agg #[.int .i64 0, .int .i64 0, .bool false, .int .u8 0]) 24 := ⟨by kernel_rfl⟩
instance : Agg Tryz.prog 7 := ⟨by kernel_rfl⟩
instance : FO Tryz.prog 7 0 0 2 := ⟨by kernel_rfl⟩
instance : FO Tryz.prog 7 1 1 3 := ⟨by kernel_rfl⟩
instance : FO Tryz.prog 7 2 2 4 := ⟨by kernel_rfl⟩
instance : FO Tryz.prog 7 3 3 6 := ⟨by kernel_rfl⟩
instance : TI Tryz.prog 8 4 (.agg #[.int .i64 0, .int .i64 0, .bool false, .int .u8 0]) 24 := ⟨by kernel_rfl⟩
instance : Agg Tryz.prog 8 := ⟨by kernel_rfl⟩
instance : FO Tryz.prog 8 0 0 2 := ⟨by kernel_rfl⟩
instance : FO Tryz.prog 8 1 1 3 := ⟨by kernel_rfl⟩
instance : FO Tryz.prog 8 2 2 4 := ⟨by kernel_rfl⟩
instance : FO Tryz.prog 8 3 3 6 := ⟨by kernel_rfl⟩
instance : UT Tryz.prog 9 .string := ⟨Tryz.underlying9⟩
instance : TI Tryz.prog 9 1 (.string ⟨#[]⟩) 16 := ⟨by kernel_rfl⟩
instance : One Tryz.prog 9 := ⟨by kernel_rfl⟩
instance : UT Tryz.prog 10 .string := ⟨Tryz.underlying10⟩
instance : TI Tryz.prog 10 1 (.string ⟨#[]⟩) 16 := ⟨by kernel_rfl⟩
instance : One Tryz.prog 10 := ⟨by kernel_rfl⟩
instance : UT Tryz.prog 11 .string := ⟨Tryz.underlying11⟩
instance : TI Tryz.prog 11 1 (.string ⟨#[]⟩) 16 := ⟨by kernel_rfl⟩
instance : One Tryz.prog 11 := ⟨by kernel_rfl⟩
instance : UT Tryz.prog 12 (.int .u64) := ⟨Tryz.underlying12⟩
instance : TI Tryz.prog 12 1 (.int .u64 0) 8 := ⟨by kernel_rfl⟩
instance : One Tryz.prog 12 := ⟨by kernel_rfl⟩
instance : TI Tryz.prog 13 2 (.agg #[.string ⟨#[]⟩, .int .u64 0]) 24 := ⟨by kernel_rfl⟩
instance : Agg Tryz.prog 13 := ⟨by kernel_rfl⟩
instance : FO Tryz.prog 13 0 0 9 := ⟨by kernel_rfl⟩
instance : FO Tryz.prog 13 1 1 12 := ⟨by kernel_rfl⟩
instance : TI Tryz.prog 14 2 (.agg #[.string ⟨#[]⟩, .int .u64 0]) 24 := ⟨by kernel_rfl⟩
instance : Agg Tryz.prog 14 := ⟨by kernel_rfl⟩
instance : FO Tryz.prog 14 0 0 9 := ⟨by kernel_rfl⟩
instance : FO Tryz.prog 14 1 1 12 := ⟨by kernel_rfl⟩
instance : UT Tryz.prog 15 (.pointer 193) := ⟨Tryz.underlying15⟩
instance : TI Tryz.prog 15 1 (.pointer none) 8 := ⟨by kernel_rfl⟩
instance : One Tryz.prog 15 := ⟨by kernel_rfl⟩
instance : UT Tryz.prog 16 (.pointer 196) := ⟨Tryz.underlying16⟩
instance : TI Tryz.prog 16 1 (.pointer none) 8 := ⟨by kernel_rfl⟩
instance : One Tryz.prog 16 := ⟨by kernel_rfl⟩
instance : UT Tryz.prog 17 (.pointer 204) := ⟨Tryz.underlying17⟩
instance : TI Tryz.prog 17 1 (.pointer none) 8 := ⟨by kernel_rfl⟩
instance : One Tryz.prog 17 := ⟨by kernel_rfl⟩
instance : TI Tryz.prog 18 1 (.agg #[.pointer none]) 8 := ⟨by kernel_rfl⟩
instance : Agg Tryz.prog 18 := ⟨by kernel_rfl⟩
instance : FO Tryz.prog 18 0 0 17 := ⟨by kernel_rfl⟩
instance : TI Tryz.prog 19 1 (.agg #[.pointer none]) 8 := ⟨by kernel_rfl⟩
instance : Agg Tryz.prog 19 := ⟨by kernel_rfl⟩
instance : FO Tryz.prog 19 0 0 17 := ⟨by kernel_rfl⟩
instance : TI Tryz.prog 20 1 (.nilIface) 16 := ⟨by kernel_rfl⟩
instance : One Tryz.prog 20 := ⟨by kernel_rfl⟩
instance : UT Tryz.prog 21 (.int .i32) := ⟨Tryz.underlying21⟩
instance : TI Tryz.prog 21 1 (.int .i32 0) 4 := ⟨by kernel_rfl⟩
instance : One Tryz.prog 21 := ⟨by kernel_rfl⟩
instance : UT Tryz.prog 22 (.slice 54) := ⟨Tryz.underlying22⟩
instance : TI Tryz.prog 22 1 (.slice none 0 0) 24 := ⟨by kernel_rfl⟩
instance : One Tryz.prog 22 := ⟨by kernel_rfl⟩
instance : UT Tryz.prog 23 (.slice 31) := ⟨Tryz.underlying23⟩
instance : TI Tryz.prog 23 1 (.slice none 0 0) 24 := ⟨by kernel_rfl⟩
instance : One Tryz.prog 23 := ⟨by kernel_rfl⟩
instance : UT Tryz.prog 24 (.int .u32) := ⟨Tryz.underlying24⟩
instance : TI Tryz.prog 24 1 (.int .u32 0) 4 := ⟨by kernel_rfl⟩
instance : One Tryz.prog 24 := ⟨by kernel_rfl⟩
instance : UT Tryz.prog 25 (.pointer 90) := ⟨Tryz.underlying25⟩
instance : TI Tryz.prog 25 1 (.pointer none) 8 := ⟨by kernel_rfl⟩
instance : One Tryz.prog 25 := ⟨by kernel_rfl⟩
instance : UT Tryz.prog 26 (.pointer 67) := ⟨Tryz.underlying26⟩
instance : TI Tryz.prog 26 1 (.pointer none) 8 := ⟨by kernel_rfl⟩
instance : One Tryz.prog 26 := ⟨by kernel_rfl⟩
instance : TI Tryz.prog 27 1 (.tuple #[.pointer none, .pointer none, .bool false]) 0 := ⟨by kernel_rfl⟩
instance : TI Tryz.prog 28 1 (.nilFunc) 8 := ⟨by kernel_rfl⟩
instance : One Tryz.prog 28 := ⟨by kernel_rfl⟩
instance : TI Tryz.prog 29 1 (.nilFunc) 8 := ⟨by kernel_rfl⟩
instance : One Tryz.prog 29 := ⟨by kernel_rfl⟩
instance : TI Tryz.prog 30 5 (.agg #[.int .i64 0, .int .i64 0, .int .i64 0, .int .i64 0, .int .i64 0]) 40 := ⟨by kernel_rfl⟩
instance : Agg Tryz.prog 30 := ⟨by kernel_rfl⟩
instance : FO Tryz.prog 30 0 0 3 := ⟨by kernel_rfl⟩
instance : FO Tryz.prog 30 1 1 3 := ⟨by kernel_rfl⟩
instance : FO Tryz.prog 30 2 2 3 := ⟨by kernel_rfl⟩
instance : FO Tryz.prog 30 3 3 3 := ⟨by kernel_rfl⟩
instance : FO Tryz.prog 30 4 4 3 := ⟨by kernel_rfl⟩
instance : TI Tryz.prog 31 5 (.agg #[.int .i64 0, .int .i64 0, .int .i64 0, .int .i64 0, .int .i64 0]) 40 := ⟨by kernel_rfl⟩
instance : Agg Tryz.prog 31 := ⟨by kernel_rfl⟩
instance : FO Tryz.prog 31 0 0 3 := ⟨by kernel_rfl⟩
instance : FO Tryz.prog 31 1 1 3 := ⟨by kernel_rfl⟩
instance : FO Tryz.prog 31 2 2 3 := ⟨by kernel_rfl⟩
instance : FO Tryz.prog 31 3 3 3 := ⟨by kernel_rfl⟩
instance : FO Tryz.prog 31 4 4 3 := ⟨by kernel_rfl⟩
instance : UT Tryz.prog 32 (.array 32 3) := ⟨Tryz.underlying32⟩
instance : TI Tryz.prog 32 32 (.agg #[.int .i64 0, .int .i64 0, .int .i64 0, .int .i64 0, .int .i64 0, .int .i64 0, .int .i64 0, .int .i64 0, .int .i64 0, .int .i64 0, .int .i64 0, .int .i64 0, .int .i64 0, .int .i64 0, .int .i64 0, .int .i64 0, .int .i64 0, .int .i64 0, .int .i64 0, .int .i64 0, .int .i64 0, .int .i64 0, .int .i64 0, .int .i64 0, .int .i64 0, .int .i64 0, .int .i64 0, .int .i64 0, .int .i64 0, .int .i64 0, .int .i64 0, .int .i64 0]) 256 := ⟨by kernel_rfl⟩
instance : Agg Tryz.prog 32 := ⟨by kernel_rfl⟩
instance : UT Tryz.prog 33 (.int .i64) := ⟨Tryz.underlying33⟩
instance : TI Tryz.prog 33 1 (.int .i64 0) 8 := ⟨by kernel_rfl⟩
instance : One Tryz.prog 33 := ⟨by kernel_rfl⟩
instance : TI Tryz.prog 34 1 (.tuple #[.agg #[.int .i64 0, .int .i64 0, .int .i64 0, .int .i64 0, .int .i64 0, .int .i64 0, .int .i64 0, .int .i64 0, .int .i64 0, .int .i64 0, .int .i64 0, .int .i64 0, .int .i64 0, .int .i64 0, .int .i64 0, .int .i64 0, .int .i64 0, .int .i64 0, .int .i64 0, .int .i64 0, .int .i64 0, .int .i64 0, .int .i64 0, .int .i64 0, .int .i64 0, .int .i64 0, .int .i64 0, .int .i64 0, .int .i64 0, .int .i64 0, .int .i64 0, .int .i64 0], .int .i64 0]) 0 := ⟨by kernel_rfl⟩
instance : TI Tryz.prog 35 1 (.nilFunc) 8 := ⟨by kernel_rfl⟩
instance : One Tryz.prog 35 := ⟨by kernel_rfl⟩
instance : TI Tryz.prog 36 1 (.nilFunc) 8 := ⟨by kernel_rfl⟩
instance : One Tryz.prog 36 := ⟨by kernel_rfl⟩
instance : TI Tryz.prog 37 1 (.nilFunc) 8 := ⟨by kernel_rfl⟩
instance : One Tryz.prog 37 := ⟨by kernel_rfl⟩
instance : TI Tryz.prog 38 1 (.nilFunc) 8 := ⟨by kernel_rfl⟩
instance : One Tryz.prog 38 := ⟨by kernel_rfl⟩
instance : TI Tryz.prog 39 1 (.nilFunc) 8 := ⟨by kernel_rfl⟩
instance : One Tryz.prog 39 := ⟨by kernel_rfl⟩
instance : TI Tryz.prog 40 1 (.nilFunc) 8 := ⟨by kernel_rfl⟩
instance : One Tryz.prog 40 := ⟨by kernel_rfl⟩
instance : TI Tryz.prog 41 1 (.nilFunc) 8 := ⟨by kernel_rfl⟩
instance : One Tryz.prog 41 := ⟨by kernel_rfl⟩
instance : TI Tryz.prog 42 1 (.nilFunc) 8 := ⟨by kernel_rfl⟩
instance : One Tryz.prog 42 := ⟨by kernel_rfl⟩
instance : UT Tryz.prog 43 (.array 32 24) := ⟨Tryz.underlying43⟩
instance : TI Tryz.prog 43 32 (.agg #[.int .u32 0, .int .u32 0, .int .u32 0, .int .u32 0, .int .u32 0, .int .u32 0, .int .u32 0, .int .u32 0, .int .u32 0, .int .u32 0, .int .u32 0, .int .u32 0, .int .u32 0, .int .u32 0, .int .u32 0, .int .u32 0, .int .u32 0, .int .u32 0, .int .u32 0, .int .u32 0, .int .u32 0, .int .u32 0, .int .u32 0, .int .u32 0, .int .u32 0, .int .u32 0, .int .u32 0, .int .u32 0, .int .u32 0, .int .u32 0, .int .u32 0, .int .u32 0]) 128 := ⟨by kernel_rfl⟩
instance : Agg Tryz.prog 43 := ⟨by kernel_rfl⟩
instance : TI Tryz.prog 44 33 (.agg #[.int .u32 0, .int .u32 0, .int .u32 0, .int .u32 0, .int .u32 0, .int .u32 0, .int .u32 0, .int .u32 0, .int .u32 0, .int .u32 0, .int .u32 0, .int .u32 0, .int .u32 0, .int .u32 0, .int .u32 0, .int .u32 0, .int .u32 0, .int .u32 0, .int .u32 0, .int .u32 0, .int .u32 0, .int .u32 0, .int .u32 0, .int .u32 0, .int .u32 0, .int .u32 0, .int .u32 0, .int .u32 0, .int .u32 0, .int .u32 0, .int .u32 0, .int .u32 0, .int .u32 0]) 132 := ⟨by kernel_rfl⟩
instance : Agg Tryz.prog 44 := ⟨by kernel_rfl⟩
instance : FO Tryz.prog 44 0 0 43 := ⟨by kernel_rfl⟩
instance : FO Tryz.prog 44 1 32 24 := ⟨by kernel_rfl⟩
instance : TI Tryz.prog 45 33 (.agg #[.int .u32 0, .int .u32 0, .int .u32 0, .int .u32 0, .int .u32 0, .int .u32 0, .int .u32 0, .int .u32 0, .int .u32 0, .int .u32 0, .int .u32 0, .int .u32 0, .int .u32 0, .int .u32 0, .int .u32 0, .int .u32 0, .int .u32 0, .int .u32 0, .int .u32 0, .int .u32 0, .int .u32 0, .int .u32 0, .int .u32 0, .int .u32 0, .int .u32 0, .int .u32 0, .int .u32 0, .int .u32 0, .int .u32 0, .int .u32 0, .int .u32 0, .int .u32 0, .int .u32 0]) 132 := ⟨by kernel_rfl⟩
instance : Agg Tryz.prog 45 := ⟨by kernel_rfl⟩
instance : FO Tryz.prog 45 0 0 43 := ⟨by kernel_rfl⟩
instance : FO Tryz.prog 45 1 32 24 := ⟨by kernel_rfl⟩
instance : TI Tryz.prog 46 1 (.nilFunc) 8 := ⟨by kernel_rfl⟩
instance : One Tryz.prog 46 := ⟨by kernel_rfl⟩
instance : TI Tryz.prog 47 1 (.tuple #[.agg #[.int .u32 0, .int .u32 0, .int .u32 0, .int .u32 0, .int .u32 0, .int .u32 0, .int .u32 0, .int .u32 0, .int .u32 0, .int .u32 0, .int .u32 0, .int .u32 0, .int .u32 0, .int .u32 0, .int .u32 0, .int .u32 0, .int .u32 0, .int .u32 0, .int .u32 0, .int .u32 0, .int .u32 0, .int .u32 0, .int .u32 0, .int .u32 0, .int .u32 0, .int .u32 0, .int .u32 0, .int .u32 0, .int .u32 0, .int .u32 0, .int .u32 0, .int .u32 0, .int .u32 0], .bool false]) 0 := ⟨by kernel_rfl⟩
instance : TI Tryz.prog 48 1 (.nilFunc) 8 := ⟨by kernel_rfl⟩
instance : One Tryz.prog 48 := ⟨by kernel_rfl⟩
instance : TI Tryz.prog 49 1 (.tuple #[.int .u32 0, .int .i64 0]) 0 := ⟨by kernel_rfl⟩
instance : TI Tryz.prog 50 1 (.nilFunc) 8 := ⟨by kernel_rfl⟩
instance : One Tryz.prog 50 := ⟨by kernel_rfl⟩
instance : TI Tryz.prog 51 1 (.nilFunc) 8 := ⟨by kernel_rfl⟩
instance : One Tryz.prog 51 := ⟨by kernel_rfl⟩
instance : TI Tryz.prog 52 1 (.nilFunc) 8 := ⟨by kernel_rfl⟩
instance : One Tryz.prog 52 := ⟨by kernel_rfl⟩
instance : TI Tryz.prog 53 5 (.agg #[.int .i64 0, .int .u32 0, .int .i64 0, .int .i64 0, .int .i64 0]) 40 := ⟨by kernel_rfl⟩
instance : Agg Tryz.prog 53 := ⟨by kernel_rfl⟩
instance : FO Tryz.prog 53 0 0 3 := ⟨by kernel_rfl⟩
instance : FO Tryz.prog 53 1 1 24 := ⟨by kernel_rfl⟩
instance : FO Tryz.prog 53 2 2 3 := ⟨by kernel_rfl⟩
instance : FO Tryz.prog 53 3 3 3 := ⟨by kernel_rfl⟩
instance : FO Tryz.prog 53 4 4 3 := ⟨by kernel_rfl⟩
instance : TI Tryz.prog 54 5 (.agg #[.int .i64 0, .int .u32 0, .int .i64 0, .int .i64 0, .int .i64 0]) 40 := ⟨by kernel_rfl⟩
instance : Agg Tryz.prog 54 := ⟨by kernel_rfl⟩
instance : FO Tryz.prog 54 0 0 3 := ⟨by kernel_rfl⟩
instance : FO Tryz.prog 54 1 1 24 := ⟨by kernel_rfl⟩
instance : FO Tryz.prog 54 2 2 3 := ⟨by kernel_rfl⟩
instance : FO Tryz.prog 54 3 3 3 := ⟨by kernel_rfl⟩
instance : FO Tryz.prog 54 4 4 3 := ⟨by kernel_rfl⟩
instance : TI Tryz.prog 55 1 (.nilFunc) 8 := ⟨by kernel_rfl⟩
instance : One Tryz.prog 55 := ⟨by kernel_rfl⟩
instance : TI Tryz.prog 56 1 (.nilFunc) 8 := ⟨by kernel_rfl⟩
instance : One Tryz.prog 56 := ⟨by kernel_rfl⟩
instance : TI Tryz.prog 57 1 (.tuple #[.int .i64 0, .bool false]) 0 := ⟨by kernel_rfl⟩
instance : TI Tryz.prog 58 1 (.nilFunc) 8 := ⟨by kernel_rfl⟩
instance : One Tryz.prog 58 := ⟨by kernel_rfl⟩
instance : TI Tryz.prog 59 1 (.nilFunc) 8 := ⟨by kernel_rfl⟩
instance : One Tryz.prog 59 := ⟨by kernel_rfl⟩
instance : TI Tryz.prog 60 1 (.nilFunc) 8 := ⟨by kernel_rfl⟩
instance : One Tryz.prog 60 := ⟨by kernel_rfl⟩
instance : TI Tryz.prog 61 1 (.nilFunc) 8 := ⟨by kernel_rfl⟩
instance : One Tryz.prog 61 := ⟨by kernel_rfl⟩
instance : TI Tryz.prog 62 1 (.nilFunc) 8 := ⟨by kernel_rfl⟩
instance : One Tryz.prog 62 := ⟨by kernel_rfl⟩
instance : TI Tryz.prog 63 1 (.nilFunc) 8 := ⟨by kernel_rfl⟩
instance : One Tryz.prog 63 := ⟨by kernel_rfl⟩
instance : TI Tryz.prog 64 1 (.nilFunc) 8 := ⟨by kernel_rfl⟩
instance : One Tryz.prog 64 := ⟨by kernel_rfl⟩
instance : UT Tryz.prog 65 (.slice 68) := ⟨Tryz.underlying65⟩
instance : TI Tryz.prog 65 1 (.slice none 0 0) 24 := ⟨by kernel_rfl⟩
instance : One Tryz.prog 65 := ⟨by kernel_rfl⟩
instance : TI Tryz.prog 66 1 (.agg #[.slice none 0 0]) 24 := ⟨by kernel_rfl⟩
instance : Agg Tryz.prog 66 := ⟨by kernel_rfl⟩
instance : FO Tryz.prog 66 0 0 65 := ⟨by kernel_rfl⟩
instance : TI Tryz.prog 67 1 (.agg #[.slice none 0 0]) 24 := ⟨by kernel_rfl⟩
instance : Agg Tryz.prog 67 := ⟨by kernel_rfl⟩
instance : FO Tryz.prog 67 0 0 65 := ⟨by kernel_rfl⟩
instance : TI Tryz.prog 68 5 (.agg #[.int .i64 0, .int .u32 0, .int .i64 0, .int .i64 0, .int .i64 0]) 40 := ⟨by kernel_rfl⟩
instance : Agg Tryz.prog 68 := ⟨by kernel_rfl⟩
instance : FO Tryz.prog 68 0 0 3 := ⟨by kernel_rfl⟩
instance : FO Tryz.prog 68 1 1 24 := ⟨by kernel_rfl⟩
instance : FO Tryz.prog 68 2 2 3 := ⟨by kernel_rfl⟩
instance : FO Tryz.prog 68 3 3 3 := ⟨by kernel_rfl⟩
instance : FO Tryz.prog 68 4 4 3 := ⟨by kernel_rfl⟩
instance : TI Tryz.prog 69 1 (.tuple #[.agg #[.int .i64 0, .int .u32 0, .int .i64 0, .int .i64 0, .int .i64 0], .int .i64 0]) 0 := ⟨by kernel_rfl⟩
instance : TI Tryz.prog 70 1 (.nilFunc) 8 := ⟨by kernel_rfl⟩
instance : One Tryz.prog 70 := ⟨by kernel_rfl⟩
instance : TI Tryz.prog 71 1 (.nilFunc) 8 := ⟨by kernel_rfl⟩
instance : One Tryz.prog 71 := ⟨by kernel_rfl⟩
instance : TI Tryz.prog 72 1 (.tuple #[.int .i64 0, .int .i64 0]) 0 := ⟨by kernel_rfl⟩
instance : TI Tryz.prog 73 1 (.nilFunc) 8 := ⟨by kernel_rfl⟩
instance : One Tryz.prog 73 := ⟨by kernel_rfl⟩
instance : TI Tryz.prog 74 0 (.agg #[]) 0 := ⟨by kernel_rfl⟩
instance : Agg Tryz.prog 74 := ⟨by kernel_rfl⟩
instance : TI Tryz.prog 75 0 (.agg #[]) 0 := ⟨by kernel_rfl⟩
instance : Agg Tryz.prog 75 := ⟨by kernel_rfl⟩
instance : TI Tryz.prog 76 0 (.agg #[]) 0 := ⟨by kernel_rfl⟩
instance : Agg Tryz.prog 76 := ⟨by kernel_rfl⟩
instance : TI Tryz.prog 77 1 (.agg #[.int .u32 0]) 4 := ⟨by kernel_rfl⟩
instance : Agg Tryz.prog 77 := ⟨by kernel_rfl⟩
instance : FO Tryz.prog 77 0 0 76 := ⟨by kernel_rfl⟩
instance : FO Tryz.prog 77 1 0 24 := ⟨by kernel_rfl⟩
instance : TI Tryz.prog 78 1 (.agg #[.int .u32 0]) 4 := ⟨by kernel_rfl⟩
instance : Agg Tryz.prog 78 := ⟨by kernel_rfl⟩
instance : FO Tryz.prog 78 0 0 76 := ⟨by kernel_rfl⟩
instance : FO Tryz.prog 78 1 0 24 := ⟨by kernel_rfl⟩
instance : TI Tryz.prog 79 2 (.agg #[.int .i32 0, .int .u32 0]) 8 := ⟨by kernel_rfl⟩
instance : Agg Tryz.prog 79 := ⟨by kernel_rfl⟩
instance : FO Tryz.prog 79 0 0 21 := ⟨by kernel_rfl⟩
instance : FO Tryz.prog 79 1 1 24 := ⟨by kernel_rfl⟩
instance : TI Tryz.prog 80 2 (.agg #[.int .i32 0, .int .u32 0]) 8 := ⟨by kernel_rfl⟩
instance : Agg Tryz.prog 80 := ⟨by kernel_rfl⟩
instance : FO Tryz.prog 80 0 0 21 := ⟨by kernel_rfl⟩
instance : FO Tryz.prog 80 1 1 24 := ⟨by kernel_rfl⟩
instance : TI Tryz.prog 81 2 (.agg #[.int .i32 0, .int .u32 0]) 8 := ⟨by kernel_rfl⟩
instance : Agg Tryz.prog 81 := ⟨by kernel_rfl⟩
instance : FO Tryz.prog 81 0 0 75 := ⟨by kernel_rfl⟩
instance : FO Tryz.prog 81 1 0 80 := ⟨by kernel_rfl⟩
instance : TI Tryz.prog 82 2 (.agg #[.int .i32 0, .int .u32 0]) 8 := ⟨by kernel_rfl⟩
instance : Agg Tryz.prog 82 := ⟨by kernel_rfl⟩
instance : FO Tryz.prog 82 0 0 75 := ⟨by kernel_rfl⟩
instance : FO Tryz.prog 82 1 0 80 := ⟨by kernel_rfl⟩
instance : TI Tryz.prog 83 3 (.agg #[.int .u32 0, .int .i32 0, .int .u32 0]) 12 := ⟨by kernel_rfl⟩
instance : Agg Tryz.prog 83 := ⟨by kernel_rfl⟩
instance : FO Tryz.prog 83 0 0 75 := ⟨by kernel_rfl⟩
instance : FO Tryz.prog 83 1 0 78 := ⟨by kernel_rfl⟩
instance : FO Tryz.prog 83 2 1 82 := ⟨by kernel_rfl⟩
instance : TI Tryz.prog 84 3 (.agg #[.int .u32 0, .int .i32 0, .int .u32 0]) 12 := ⟨by kernel_rfl⟩
instance : Agg Tryz.prog 84 := ⟨by kernel_rfl⟩
instance : FO Tryz.prog 84 0 0 75 := ⟨by kernel_rfl⟩
instance : FO Tryz.prog 84 1 0 78 := ⟨by kernel_rfl⟩
instance : FO Tryz.prog 84 2 1 82 := ⟨by kernel_rfl⟩
instance : UT Tryz.prog 85 (.map 68 3) := ⟨Tryz.underlying85⟩
instance : TI Tryz.prog 85 1 (.map none) 8 := ⟨by kernel_rfl⟩
instance : One Tryz.prog 85 := ⟨by kernel_rfl⟩
instance : TI Tryz.prog 86 0 (.agg #[]) 0 := ⟨by kernel_rfl⟩
instance : Agg Tryz.prog 86 := ⟨by kernel_rfl⟩
instance : TI Tryz.prog 87 1 (.agg #[.int .i64 0]) 8 := ⟨by kernel_rfl⟩
instance : Agg Tryz.prog 87 := ⟨by kernel_rfl⟩
instance : FO Tryz.prog 87 0 0 76 := ⟨by kernel_rfl⟩
instance : FO Tryz.prog 87 1 0 86 := ⟨by kernel_rfl⟩
instance : FO Tryz.prog 87 2 0 2 := ⟨by kernel_rfl⟩
instance : TI Tryz.prog 88 1 (.agg #[.int .i64 0]) 8 := ⟨by kernel_rfl⟩
instance : Agg Tryz.prog 88 := ⟨by kernel_rfl⟩
instance : FO Tryz.prog 88 0 0 76 := ⟨by kernel_rfl⟩
instance : FO Tryz.prog 88 1 0 86 := ⟨by kernel_rfl⟩
instance : FO Tryz.prog 88 2 0 2 := ⟨by kernel_rfl⟩
instance : TI Tryz.prog 89 6 (.agg #[.slice none 0 0, .int .u32 0, .int .i32 0, .int .u32 0, .map none, .int .i64 0]) 56 := ⟨by kernel_rfl⟩
instance : Agg Tryz.prog 89 := ⟨by kernel_rfl⟩
instance : FO Tryz.prog 89 0 0 65 := ⟨by kernel_rfl⟩
instance : FO Tryz.prog 89 1 1 84 := ⟨by kernel_rfl⟩
instance : FO Tryz.prog 89 2 4 85 := ⟨by kernel_rfl⟩
instance : FO Tryz.prog 89 3 5 88 := ⟨by kernel_rfl⟩
instance : TI Tryz.prog 90 6 (.agg #[.slice none 0 0, .int .u32 0, .int .i32 0, .int .u32 0, .map none, .int .i64 0]) 56 := ⟨by kernel_rfl⟩
instance : Agg Tryz.prog 90 := ⟨by kernel_rfl⟩
instance : FO Tryz.prog 90 0 0 65 := ⟨by kernel_rfl⟩
instance : FO Tryz.prog 90 1 1 84 := ⟨by kernel_rfl⟩
instance : FO Tryz.prog 90 2 4 85 := ⟨by kernel_rfl⟩
instance : FO Tryz.prog 90 3 5 88 := ⟨by kernel_rfl⟩
instance : TI Tryz.prog 91 1 (.nilFunc) 8 := ⟨by kernel_rfl⟩
instance : One Tryz.prog 91 := ⟨by kernel_rfl⟩
instance : TI Tryz.prog 92 1 (.nilFunc) 8 := ⟨by kernel_rfl⟩
instance : One Tryz.prog 92 := ⟨by kernel_rfl⟩
instance : TI Tryz.prog 93 1 (.nilFunc) 8 := ⟨by kernel_rfl⟩
instance : One Tryz.prog 93 := ⟨by kernel_rfl⟩
instance : UT Tryz.prog 94 (.map 3 24) := ⟨Tryz.underlying94⟩
instance : TI Tryz.prog 94 1 (.map none) 8 := ⟨by kernel_rfl⟩
instance : One Tryz.prog 94 := ⟨by kernel_rfl⟩
instance : UT Tryz.prog 95 (.slice 3) := ⟨Tryz.underlying95⟩
instance : TI Tryz.prog 95 1 (.slice none 0 0) 24 := ⟨by kernel_rfl⟩
instance : One Tryz.prog 95 := ⟨by kernel_rfl⟩
instance : TI Tryz.prog 96 1 (.nilFunc) 8 := ⟨by kernel_rfl⟩
instance : One Tryz.prog 96 := ⟨by kernel_rfl⟩
instance : TI Tryz.prog 97 1 (.nilFunc) 8 := ⟨by kernel_rfl⟩
instance : One Tryz.prog 97 := ⟨by kernel_rfl⟩
instance : TI Tryz.prog 98 1 (.nilFunc) 8 := ⟨by kernel_rfl⟩
instance : One Tryz.prog 98 := ⟨by kernel_rfl⟩
instance : TI Tryz.prog 99 1 (.nilFunc) 8 := ⟨by kernel_rfl⟩
instance : One Tryz.prog 99 := ⟨by kernel_rfl⟩
instance : TI Tryz.prog 100 1 (.nilFunc) 8 := ⟨by kernel_rfl⟩
instance : One Tryz.prog 100 := ⟨by kernel_rfl⟩
instance : TI Tryz.prog 101 1 (.nilFunc) 8 := ⟨by kernel_rfl⟩
instance : One Tryz.prog 101 := ⟨by kernel_rfl⟩
instance : TI Tryz.prog 102 1 (.nilFunc) 8 := ⟨by kernel_rfl⟩
instance : One Tryz.prog 102 := ⟨by kernel_rfl⟩
instance : TI Tryz.prog 103 1 (.nilFunc) 8 := ⟨by kernel_rfl⟩
instance : One Tryz.prog 103 := ⟨by kernel_rfl⟩
instance : TI Tryz.prog 104 1 (.nilFunc) 8 := ⟨by kernel_rfl⟩
instance : One Tryz.prog 104 := ⟨by kernel_rfl⟩
instance : TI Tryz.prog 105 1 (.tuple #[.bool false, .bool false, .bool false]) 0 := ⟨by kernel_rfl⟩
instance : TI Tryz.prog 106 1 (.nilFunc) 8 := ⟨by kernel_rfl⟩
instance : One Tryz.prog 106 := ⟨by kernel_rfl⟩
instance : TI Tryz.prog 107 1 (.nilFunc) 8 := ⟨by kernel_rfl⟩
instance : One Tryz.prog 107 := ⟨by kernel_rfl⟩
instance : TI Tryz.prog 108 1 (.nilFunc) 8 := ⟨by kernel_rfl⟩
instance : One Tryz.prog 108 := ⟨by kernel_rfl⟩
instance : TI Tryz.prog 109 4 (.agg #[.int .u8 0, .int .u32 0, .int .u32 0, .int .u32 0]) 16 := ⟨by kernel_rfl⟩
instance : Agg Tryz.prog 109 := ⟨by kernel_rfl⟩
instance : FO Tryz.prog 109 0 0 5 := ⟨by kernel_rfl⟩
instance : FO Tryz.prog 109 1 1 24 := ⟨by kernel_rfl⟩
instance : FO Tryz.prog 109 2 2 24 := ⟨by kernel_rfl⟩
instance : FO Tryz.prog 109 3 3 24 := ⟨by kernel_rfl⟩
instance : TI Tryz.prog 110 4 (.agg #[.int .u8 0, .int .u32 0, .int .u32 0, .int .u32 0]) 16 := ⟨by kernel_rfl⟩
instance : Agg Tryz.prog 110 := ⟨by kernel_rfl⟩
instance : FO Tryz.prog 110 0 0 5 := ⟨by kernel_rfl⟩
instance : FO Tryz.prog 110 1 1 24 := ⟨by kernel_rfl⟩
instance : FO Tryz.prog 110 2 2 24 := ⟨by kernel_rfl⟩
instance : FO Tryz.prog 110 3 3 24 := ⟨by kernel_rfl⟩
instance : UT Tryz.prog 111 (.array 47 110) := ⟨Tryz.underlying111⟩
instance : TI Tryz.prog 111 188 (.agg #[.int .u8 0, .int .u32 0, .int .u32 0, .int .u32 0, .int .u8 0, .int .u32 0, .int .u32 0, .int .u32 0, .int .u8 0, .int .u32 0, .int .u32 0, .int .u32 0, .int .u8 0, .int .u32 0, .int .u32 0, .int .u32 0, .int .u8 0, .int .u32 0, .int .u32 0, .int .u32 0, .int .u8 0, .int .u32 0, .int .u32 0, .int .u32 0, .int .u8 0, .int .u32 0, .int .u32 0, .int .u32 0, .int .u8 0, .int .u32 0, .int .u32 0, .int .u32 0, .int .u8 0, .int .u32 0, .int .u32 0, .int .u32 0, .int .u8 0, .int .u32 0, .int .u32 0, .int .u32 0, .int .u8 0, .int .u32 0, .int .u32 0, .int .u32 0, .int .u8 0, .int .u32 0, .int .u32 0, .int .u32 0, .int .u8 0, .int .u32 0, .int .u32 0, .int .u32 0, .int .u8 0, .int .u32 0, .int .u32 0, .int .u32 0, .int .u8 0, .int .u32 0, .int .u32 0, .int .u32 0, .int .u8 0, .int .u32 0, .int .u32 0, .int .u32 0, .int .u8 0, .int .u32 0, .int .u32 0, .int .u32 0, .int .u8 0, .int .u32 0, .int .u32 0, .int .u32 0, .int .u8 0, .int .u32 0, .int .u32 0, .int .u32 0, .int .u8 0, .int .u32 0, .int .u32 0, .int .u32 0, .int .u8 0, .int .u32 0, .int .u32 0, .int .u32 0, .int .u8 0, .int .u32 0, .int .u32 0, .int .u32 0, .int .u8 0, .int .u32 0, .int .u32 0, .int .u32 0, .int .u8 0, .int .u32 0, .int .u32 0, .int .u32 0, .int .u8 0, .int .u32 0, .int .u32 0, .int .u32 0, .int .u8 0, .int .u32 0, .int .u32 0, .int .u32 0, .int .u8 0, .int .u32 0, .int .u32 0, .int .u32 0, .int .u8 0, .int .u32 0, .int .u32 0, .int .u32 0, .int .u8 0, .int .u32 0, .int .u32 0, .int .u32 0, .int .u8 0, .int .u32 0, .int .u32 0, .int .u32 0, .int .u8 0, .int .u32 0, .int .u32 0, .int .u32 0, .int .u8 0, .int .u32 0, .int .u32 0, .int .u32 0, .int .u8 0, .int .u32 0, .int .u32 0, .int .u32 0, .int .u8 0, .int .u32 0, .int .u32 0, .int .u32 0, .int .u8 0, .int .u32 0, .int .u32 0, .int .u32 0, .int .u8 0, .int .u32 0, .int .u32 0, .int .u32 0, .int .u8 0, .int .u32 0, .int .u32 0, .int .u32 0, .int .u8 0, .int .u32 0, .int .u32 0, .int .u32 0, .int .u8 0, .int .u32 0, .int .u32 0, .int .u32 0, .int .u8 0, .int .u32 0, .int .u32 0, .int .u32 0, .int .u8 0, .int .u32 0, .int .u32 0, .int .u32 0, .int .u8 0, .int .u32 0, .int .u32 0, .int .u32 0, .int .u8 0, .int .u32 0, .int .u32 0, .int .u32 0, .int .u8 0, .int .u32 0, .int .u32 0, .int .u32 0, .int .u8 0, .int .u32 0, .int .u32 0, .int .u32 0, .int .u8 0, .int .u32 0, .int .u32 0, .int .u32 0, .int .u8 0, .int .u32 0, .int .u32 0, .int .u32 0]) 752 := ⟨by kernel_rfl⟩
instance : Agg Tryz.prog 111 := ⟨by kernel_rfl⟩
instance : TI Tryz.prog 112 1 (.nilFunc) 8 := ⟨by kernel_rfl⟩
instance : One Tryz.prog 112 := ⟨by kernel_rfl⟩
instance : TI Tryz.prog 113 1 (.tuple #[.int .i64 0, .int .i64 0, .int .i64 0]) 0 := ⟨by kernel_rfl⟩
instance : TI Tryz.prog 114 1 (.nilFunc) 8 := ⟨by kernel_rfl⟩
instance : One Tryz.prog 114 := ⟨by kernel_rfl⟩
instance : TI Tryz.prog 115 1 (.nilFunc) 8 := ⟨by kernel_rfl⟩
instance : One Tryz.prog 115 := ⟨by kernel_rfl⟩
instance : TI Tryz.prog 116 1 (.nilFunc) 8 := ⟨by kernel_rfl⟩
instance : One Tryz.prog 116 := ⟨by kernel_rfl⟩
instance : TI Tryz.prog 117 1 (.nilFunc) 8 := ⟨by kernel_rfl⟩
instance : One Tryz.prog 117 := ⟨by kernel_rfl⟩
instance : TI Tryz.prog 118 1 (.nilFunc) 8 := ⟨by kernel_rfl⟩
instance : One Tryz.prog 118 := ⟨by kernel_rfl⟩
instance : UT Tryz.prog 119 (.int .u64) := ⟨Tryz.underlying119⟩
instance : TI Tryz.prog 119 1 (.int .u64 0) 8 := ⟨by kernel_rfl⟩
instance : One Tryz.prog 119 := ⟨by kernel_rfl⟩
instance : TI Tryz.prog 120 1 (.nilFunc) 8 := ⟨by kernel_rfl⟩
instance : One Tryz.prog 120 := ⟨by kernel_rfl⟩
instance : TI Tryz.prog 121 1 (.nilFunc) 8 := ⟨by kernel_rfl⟩
instance : One Tryz.prog 121 := ⟨by kernel_rfl⟩
instance : TI Tryz.prog 122 1 (.nilFunc) 8 := ⟨by kernel_rfl⟩
instance : One Tryz.prog 122 := ⟨by kernel_rfl⟩
instance : TI Tryz.prog 123 1 (.nilFunc) 8 := ⟨by kernel_rfl⟩
instance : One Tryz.prog 123 := ⟨by kernel_rfl⟩
instance : TI Tryz.prog 124 1 (.nilFunc) 8 := ⟨by kernel_rfl⟩
instance : One Tryz.prog 124 := ⟨by kernel_rfl⟩
instance : TI Tryz.prog 125 1 (.nilFunc) 8 := ⟨by kernel_rfl⟩
instance : One Tryz.prog 125 := ⟨by kernel_rfl⟩
instance : TI Tryz.prog 126 1 (.nilFunc) 8 := ⟨by kernel_rfl⟩
instance : One Tryz.prog 126 := ⟨by kernel_rfl⟩
instance : TI Tryz.prog 127 1 (.nilFunc) 8 := ⟨by kernel_rfl⟩
instance : One Tryz.prog 127 := ⟨by kernel_rfl⟩
instance : UT Tryz.prog 128 (.map 3 4) := ⟨Tryz.underlying128⟩
instance : TI Tryz.prog 128 1 (.map none) 8 := ⟨by kernel_rfl⟩
instance : One Tryz.prog 128 := ⟨by kernel_rfl⟩
instance : TI Tryz.prog 129 1 (.nilFunc) 8 := ⟨by kernel_rfl⟩
instance : One Tryz.prog 129 := ⟨by kernel_rfl⟩
instance : TI Tryz.prog 130 1 (.nilFunc) 8 := ⟨by kernel_rfl⟩
instance : One Tryz.prog 130 := ⟨by kernel_rfl⟩
instance : TI Tryz.prog 131 1 (.nilFunc) 8 := ⟨by kernel_rfl⟩
instance : One Tryz.prog 131 := ⟨by kernel_rfl⟩
instance : TI Tryz.prog 132 1 (.nilFunc) 8 := ⟨by kernel_rfl⟩
instance : One Tryz.prog 132 := ⟨by kernel_rfl⟩
instance : TI Tryz.prog 133 1 (.nilFunc) 8 := ⟨by kernel_rfl⟩
instance : One Tryz.prog 133 := ⟨by kernel_rfl⟩
instance : TI Tryz.prog 134 1 (.nilFunc) 8 := ⟨by kernel_rfl⟩
instance : One Tryz.prog 134 := ⟨by kernel_rfl⟩
instance : UT Tryz.prog 135 (.pointer 88) := ⟨Tryz.underlying135⟩
instance : TI Tryz.prog 135 1 (.pointer none) 8 := ⟨by kernel_rfl⟩
instance : One Tryz.prog 135 := ⟨by kernel_rfl⟩
instance : TI Tryz.prog 136 1 (.nilFunc) 8 := ⟨by kernel_rfl⟩
instance : One Tryz.prog 136 := ⟨by kernel_rfl⟩
instance : UT Tryz.prog 137 (.pointer 2) := ⟨Tryz.underlying137⟩
instance : TI Tryz.prog 137 1 (.pointer none) 8 := ⟨by kernel_rfl⟩
instance : One Tryz.prog 137 := ⟨by kernel_rfl⟩
instance : TI Tryz.prog 138 1 (.nilFunc) 8 := ⟨by kernel_rfl⟩
instance : One Tryz.prog 138 := ⟨by kernel_rfl⟩
instance : TI Tryz.prog 139 1 (.nilFunc) 8 := ⟨by kernel_rfl⟩
instance : One Tryz.prog 139 := ⟨by kernel_rfl⟩
instance : TI Tryz.prog 140 1 (.nilFunc) 8 := ⟨by kernel_rfl⟩
instance : One Tryz.prog 140 := ⟨by kernel_rfl⟩
instance : TI Tryz.prog 141 1 (.nilFunc) 8 := ⟨by kernel_rfl⟩
instance : One Tryz.prog 141 := ⟨by kernel_rfl⟩
instance : UT Tryz.prog 142 (.slice 24) := ⟨Tryz.underlying142⟩
instance : TI Tryz.prog 142 1 (.slice none 0 0) 24 := ⟨by kernel_rfl⟩
instance : One Tryz.prog 142 := ⟨by kernel_rfl⟩
instance : TI Tryz.prog 143 1 (.nilFunc) 8 := ⟨by kernel_rfl⟩
instance : One Tryz.prog 143 := ⟨by kernel_rfl⟩
instance : TI Tryz.prog 144 1 (.nilFunc) 8 := ⟨by kernel_rfl⟩
instance : One Tryz.prog 144 := ⟨by kernel_rfl⟩
instance : TI Tryz.prog 145 1 (.nilFunc) 8 := ⟨by kernel_rfl⟩
instance : One Tryz.prog 145 := ⟨by kernel_rfl⟩
instance : UT Tryz.prog 146 (.int .u64) := ⟨Tryz.underlying146⟩
instance : TI Tryz.prog 146 1 (.int .u64 0) 8 := ⟨by kernel_rfl⟩
instance : One Tryz.prog 146 := ⟨by kernel_rfl⟩
instance : UT Tryz.prog 147 (.pointer 84) := ⟨Tryz.underlying147⟩
instance : TI Tryz.prog 147 1 (.pointer none) 8 := ⟨by kernel_rfl⟩
instance : One Tryz.prog 147 := ⟨by kernel_rfl⟩
instance : TI Tryz.prog 148 1 (.nilFunc) 8 := ⟨by kernel_rfl⟩
instance : One Tryz.prog 148 := ⟨by kernel_rfl⟩
instance : TI Tryz.prog 149 1 (.tuple #[.int .u32 0, .bool false]) 0 := ⟨by kernel_rfl⟩
instance : TI Tryz.prog 150 1 (.nilFunc) 8 := ⟨by kernel_rfl⟩
instance : One Tryz.prog 150 := ⟨by kernel_rfl⟩
instance : TI Tryz.prog 151 1 (.nilFunc) 8 := ⟨by kernel_rfl⟩
instance : One Tryz.prog 151 := ⟨by kernel_rfl⟩
instance : TI Tryz.prog 152 1 (.nilFunc) 8 := ⟨by kernel_rfl⟩
instance : One Tryz.prog 152 := ⟨by kernel_rfl⟩
instance : TI Tryz.prog 153 1 (.nilFunc) 8 := ⟨by kernel_rfl⟩
instance : One Tryz.prog 153 := ⟨by kernel_rfl⟩
instance : TI Tryz.prog 154 1 (.nilFunc) 8 := ⟨by kernel_rfl⟩
instance : One Tryz.prog 154 := ⟨by kernel_rfl⟩
instance : TI Tryz.prog 155 1 (.nilFunc) 8 := ⟨by kernel_rfl⟩
instance : One Tryz.prog 155 := ⟨by kernel_rfl⟩
instance : TI Tryz.prog 156 1 (.nilFunc) 8 := ⟨by kernel_rfl⟩
instance : One Tryz.prog 156 := ⟨by kernel_rfl⟩
instance : UT Tryz.prog 157 (.pointer 78) := ⟨Tryz.underlying157⟩
instance : TI Tryz.prog 157 1 (.pointer none) 8 := ⟨by kernel_rfl⟩
instance : One Tryz.prog 157 := ⟨by kernel_rfl⟩
instance : TI Tryz.prog 158 1 (.nilFunc) 8 := ⟨by kernel_rfl⟩
instance : One Tryz.prog 158 := ⟨by kernel_rfl⟩
instance : UT Tryz.prog 159 (.pointer 24) := ⟨Tryz.underlying159⟩
instance : TI Tryz.prog 159 1 (.pointer none) 8 := ⟨by kernel_rfl⟩
instance : One Tryz.prog 159 := ⟨by kernel_rfl⟩
instance : TI Tryz.prog 160 1 (.nilFunc) 8 := ⟨by kernel_rfl⟩
instance : One Tryz.prog 160 := ⟨by kernel_rfl⟩
instance : TI Tryz.prog 161 1 (.nilFunc) 8 := ⟨by kernel_rfl⟩
instance : One Tryz.prog 161 := ⟨by kernel_rfl⟩
instance : TI Tryz.prog 162 1 (.nilFunc) 8 := ⟨by kernel_rfl⟩
instance : One Tryz.prog 162 := ⟨by kernel_rfl⟩
instance : UT Tryz.prog 163 (.int .i64) := ⟨Tryz.underlying163⟩
instance : TI Tryz.prog 163 1 (.int .i64 0) 8 := ⟨by kernel_rfl⟩
instance : One Tryz.prog 163 := ⟨by kernel_rfl⟩
instance : TI Tryz.prog 164 1 (.tuple #[.int .i64 0, .int .i64 0]) 0 := ⟨by kernel_rfl⟩
instance : TI Tryz.prog 165 1 (.nilFunc) 8 := ⟨by kernel_rfl⟩
instance : One Tryz.prog 165 := ⟨by kernel_rfl⟩
instance : TI Tryz.prog 166 1 (.nilFunc) 8 := ⟨by kernel_rfl⟩
instance : One Tryz.prog 166 := ⟨by kernel_rfl⟩
instance : TI Tryz.prog 167 1 (.nilFunc) 8 := ⟨by kernel_rfl⟩
instance : One Tryz.prog 167 := ⟨by kernel_rfl⟩
instance : TI Tryz.prog 168 1 (.nilFunc) 8 := ⟨by kernel_rfl⟩
instance : One Tryz.prog 168 := ⟨by kernel_rfl⟩
instance : TI Tryz.prog 169 1 (.nilFunc) 8 := ⟨by kernel_rfl⟩
instance : One Tryz.prog 169 := ⟨by kernel_rfl⟩
instance : TI Tryz.prog 170 1 (.nilFunc) 8 := ⟨by kernel_rfl⟩
instance : One Tryz.prog 170 := ⟨by kernel_rfl⟩
instance : UT Tryz.prog 171 (.pointer 82) := ⟨Tryz.underlying171⟩
instance : TI Tryz.prog 171 1 (.pointer none) 8 := ⟨by kernel_rfl⟩
instance : One Tryz.prog 171 := ⟨by kernel_rfl⟩
instance : TI Tryz.prog 172 1 (.nilFunc) 8 := ⟨by kernel_rfl⟩
instance : One Tryz.prog 172 := ⟨by kernel_rfl⟩
instance : UT Tryz.prog 173 (.array 32 5) := ⟨Tryz.underlying173⟩
instance : TI Tryz.prog 173 32 (.agg #[.int .u8 0, .int .u8 0, .int .u8 0, .int .u8 0, .int .u8 0, .int .u8 0, .int .u8 0, .int .u8 0, .int .u8 0, .int .u8 0, .int .u8 0, .int .u8 0, .int .u8 0, .int .u8 0, .int .u8 0, .int .u8 0, .int .u8 0, .int .u8 0, .int .u8 0, .int .u8 0, .int .u8 0, .int .u8 0, .int .u8 0, .int .u8 0, .int .u8 0, .int .u8 0, .int .u8 0, .int .u8 0, .int .u8 0, .int .u8 0, .int .u8 0, .int .u8 0]) 32 := ⟨by kernel_rfl⟩
instance : Agg Tryz.prog 173 := ⟨by kernel_rfl⟩
instance : UT Tryz.prog 174 (.int .u64) := ⟨Tryz.underlying174⟩
instance : TI Tryz.prog 174 1 (.int .u64 0) 8 := ⟨by kernel_rfl⟩
instance : One Tryz.prog 174 := ⟨by kernel_rfl⟩
instance : TI Tryz.prog 175 1 (.nilFunc) 8 := ⟨by kernel_rfl⟩
instance : One Tryz.prog 175 := ⟨by kernel_rfl⟩
instance : TI Tryz.prog 176 1 (.nilFunc) 8 := ⟨by kernel_rfl⟩
instance : One Tryz.prog 176 := ⟨by kernel_rfl⟩
instance : TI Tryz.prog 177 1 (.nilFunc) 8 := ⟨by kernel_rfl⟩
instance : One Tryz.prog 177 := ⟨by kernel_rfl⟩
instance : UT Tryz.prog 178 (.pointer 3) := ⟨Tryz.underlying178⟩
instance : TI Tryz.prog 178 1 (.pointer none) 8 := ⟨by kernel_rfl⟩
instance : One Tryz.prog 178 := ⟨by kernel_rfl⟩
instance : TI Tryz.prog 179 1 (.nilFunc) 8 := ⟨by kernel_rfl⟩
instance : One Tryz.prog 179 := ⟨by kernel_rfl⟩
instance : UT Tryz.prog 180 (.pointer 80) := ⟨Tryz.underlying180⟩
instance : TI Tryz.prog 180 1 (.pointer none) 8 := ⟨by kernel_rfl⟩
instance : One Tryz.prog 180 := ⟨by kernel_rfl⟩
instance : TI Tryz.prog 181 1 (.nilFunc) 8 := ⟨by kernel_rfl⟩
instance : One Tryz.prog 181 := ⟨by kernel_rfl⟩
instance : UT Tryz.prog 182 (.pointer 21) := ⟨Tryz.underlying182⟩
instance : TI Tryz.prog 182 1 (.pointer none) 8 := ⟨by kernel_rfl⟩
instance : One Tryz.prog 182 := ⟨by kernel_rfl⟩
instance : TI Tryz.prog 183 1 (.nilFunc) 8 := ⟨by kernel_rfl⟩
instance : One Tryz.prog 183 := ⟨by kernel_rfl⟩
instance : TI Tryz.prog 184 1 (.pointer none) 8 := ⟨by kernel_rfl⟩
instance : One Tryz.prog 184 := ⟨by kernel_rfl⟩
instance : TI Tryz.prog 185 1 (.nilFunc) 8 := ⟨by kernel_rfl⟩
instance : One Tryz.prog 185 := ⟨by kernel_rfl⟩
instance : TI Tryz.prog 186 1 (.nilFunc) 8 := ⟨by kernel_rfl⟩
instance : One Tryz.prog 186 := ⟨by kernel_rfl⟩
instance : UT Tryz.prog 187 (.pointer 174) := ⟨Tryz.underlying187⟩
instance : TI Tryz.prog 187 1 (.pointer none) 8 := ⟨by kernel_rfl⟩
instance : One Tryz.prog 187 := ⟨by kernel_rfl⟩
instance : TI Tryz.prog 188 1 (.tuple #[.int .i64 0, .int .i64 0]) 0 := ⟨by kernel_rfl⟩
instance : TI Tryz.prog 189 1 (.nilFunc) 8 := ⟨by kernel_rfl⟩
instance : One Tryz.prog 189 := ⟨by kernel_rfl⟩
instance : TI Tryz.prog 190 1 (.nilFunc) 8 := ⟨by kernel_rfl⟩
instance : One Tryz.prog 190 := ⟨by kernel_rfl⟩
instance : TI Tryz.prog 191 1 (.nilFunc) 8 := ⟨by kernel_rfl⟩
instance : One Tryz.prog 191 := ⟨by kernel_rfl⟩
instance : TI Tryz.prog 192 4 (.agg #[.pointer none, .pointer none, .pointer none, .string ⟨#[]⟩]) 40 := ⟨by kernel_rfl⟩
instance : Agg Tryz.prog 192 := ⟨by kernel_rfl⟩
instance : FO Tryz.prog 192 0 0 17 := ⟨by kernel_rfl⟩
instance : FO Tryz.prog 192 1 1 17 := ⟨by kernel_rfl⟩
instance : FO Tryz.prog 192 2 2 17 := ⟨by kernel_rfl⟩
instance : FO Tryz.prog 192 3 3 9 := ⟨by kernel_rfl⟩
instance : TI Tryz.prog 193 4 (.agg #[.pointer none, .pointer none, .pointer none, .string ⟨#[]⟩]) 40 := ⟨by kernel_rfl⟩
instance : Agg Tryz.prog 193 := ⟨by kernel_rfl⟩
instance : FO Tryz.prog 193 0 0 17 := ⟨by kernel_rfl⟩
instance : FO Tryz.prog 193 1 1 17 := ⟨by kernel_rfl⟩
instance : FO Tryz.prog 193 2 2 17 := ⟨by kernel_rfl⟩
instance : FO Tryz.prog 193 3 3 9 := ⟨by kernel_rfl⟩
instance : UT Tryz.prog 194 (.array 0 16) := ⟨Tryz.underlying194⟩
instance : TI Tryz.prog 194 0 (.agg #[]) 0 := ⟨by kernel_rfl⟩
instance : Agg Tryz.prog 194 := ⟨by kernel_rfl⟩
instance : TI Tryz.prog 195 0 (.agg #[]) 0 := ⟨by kernel_rfl⟩
instance : Agg Tryz.prog 195 := ⟨by kernel_rfl⟩
instance : FO Tryz.prog 195 0 0 194 := ⟨by kernel_rfl⟩
instance : TI Tryz.prog 196 0 (.agg #[]) 0 := ⟨by kernel_rfl⟩
instance : Agg Tryz.prog 196 := ⟨by kernel_rfl⟩
instance : FO Tryz.prog 196 0 0 194 := ⟨by kernel_rfl⟩
instance : UT Tryz.prog 197 (.int .u8) := ⟨Tryz.underlying197⟩
instance : TI Tryz.prog 197 1 (.int .u8 0) 1 := ⟨by kernel_rfl⟩
instance : One Tryz.prog 197 := ⟨by kernel_rfl⟩
instance : UT Tryz.prog 198 (.int .u8) := ⟨Tryz.underlying198⟩
instance : TI Tryz.prog 198 1 (.int .u8 0) 1 := ⟨by kernel_rfl⟩
instance : One Tryz.prog 198 := ⟨by kernel_rfl⟩
instance : TI Tryz.prog 199 1 (.nilFunc) 8 := ⟨by kernel_rfl⟩
instance : One Tryz.prog 199 := ⟨by kernel_rfl⟩
instance : UT Tryz.prog 200 (.pointer 5) := ⟨Tryz.underlying200⟩
instance : TI Tryz.prog 200 1 (.pointer none) 8 := ⟨by kernel_rfl⟩
instance : One Tryz.prog 200 := ⟨by kernel_rfl⟩
instance : UT Tryz.prog 201 (.int .i32) := ⟨Tryz.underlying201⟩
instance : TI Tryz.prog 201 1 (.int .i32 0) 4 := ⟨by kernel_rfl⟩
instance : One Tryz.prog 201 := ⟨by kernel_rfl⟩
instance : UT Tryz.prog 202 (.int .i32) := ⟨Tryz.underlying202⟩
instance : TI Tryz.prog 202 1 (.int .i32 0) 4 := ⟨by kernel_rfl⟩
instance : One Tryz.prog 202 := ⟨by kernel_rfl⟩
instance : TI Tryz.prog 203 11 (.agg #[.int .u64 0, .int .u64 0, .int .u32 0, .int .u8 0, .int .u8 0, .int .u8 0, .int .u8 0, .nilFunc, .pointer none, .int .i32 0, .int .i32 0]) 48 := ⟨by kernel_rfl⟩
instance : Agg Tryz.prog 203 := ⟨by kernel_rfl⟩
instance : FO Tryz.prog 203 0 0 12 := ⟨by kernel_rfl⟩
instance : FO Tryz.prog 203 1 1 12 := ⟨by kernel_rfl⟩
instance : FO Tryz.prog 203 2 2 24 := ⟨by kernel_rfl⟩
instance : FO Tryz.prog 203 3 3 197 := ⟨by kernel_rfl⟩
instance : FO Tryz.prog 203 4 4 5 := ⟨by kernel_rfl⟩
instance : FO Tryz.prog 203 5 5 5 := ⟨by kernel_rfl⟩
instance : FO Tryz.prog 203 6 6 198 := ⟨by kernel_rfl⟩
instance : FO Tryz.prog 203 7 7 199 := ⟨by kernel_rfl⟩
instance : FO Tryz.prog 203 8 8 200 := ⟨by kernel_rfl⟩
instance : FO Tryz.prog 203 9 9 201 := ⟨by kernel_rfl⟩
instance : FO Tryz.prog 203 10 10 202 := ⟨by kernel_rfl⟩
instance : TI Tryz.prog 204 11 (.agg #[.int .u64 0, .int .u64 0, .int .u32 0, .int .u8 0, .int .u8 0, .int .u8 0, .int .u8 0, .nilFunc, .pointer none, .int .i32 0, .int .i32 0]) 48 := ⟨by kernel_rfl⟩
instance : Agg Tryz.prog 204 := ⟨by kernel_rfl⟩
instance : FO Tryz.prog 204 0 0 12 := ⟨by kernel_rfl⟩
instance : FO Tryz.prog 204 1 1 12 := ⟨by kernel_rfl⟩
instance : FO Tryz.prog 204 2 2 24 := ⟨by kernel_rfl⟩
instance : FO Tryz.prog 204 3 3 197 := ⟨by kernel_rfl⟩
instance : FO Tryz.prog 204 4 4 5 := ⟨by kernel_rfl⟩
instance : FO Tryz.prog 204 5 5 5 := ⟨by kernel_rfl⟩
instance : FO Tryz.prog 204 6 6 198 := ⟨by kernel_rfl⟩
instance : FO Tryz.prog 204 7 7 199 := ⟨by kernel_rfl⟩
instance : FO Tryz.prog 204 8 8 200 := ⟨by kernel_rfl⟩
instance : FO Tryz.prog 204 9 9 201 := ⟨by kernel_rfl⟩
instance : FO Tryz.prog 204 10 10 202 := ⟨by kernel_rfl⟩
instance : FN Tryz.prog 2 := ⟨by kernel_rfl⟩
instance : FN Tryz.prog 3 := ⟨by kernel_rfl⟩
instance : FN Tryz.prog 4 := ⟨by kernel_rfl⟩
instance : FN Tryz.prog 5 := ⟨by kernel_rfl⟩
instance : FN Tryz.prog 6 := ⟨by kernel_rfl⟩
instance : FN Tryz.prog 7 := ⟨by kernel_rfl⟩
instance : FN Tryz.prog 8 := ⟨by kernel_rfl⟩
instance : FN Tryz.prog 9 := ⟨by kernel_rfl⟩
instance : FN Tryz.prog 10 := ⟨by kernel_rfl⟩
instance : FN Tryz.prog 11 := ⟨by kernel_rfl⟩
instance : FN Tryz.prog 12 := ⟨by kernel_rfl⟩
instance : FN Tryz.prog 13 := ⟨by kernel_rfl⟩
instance : FN Tryz.prog 14 := ⟨by kernel_rfl⟩
instance : FN Tryz.prog 15 := ⟨by kernel_rfl⟩
instance : FN Tryz.prog 16 := ⟨by kernel_rfl⟩
instance : FN Tryz.prog 17 := ⟨by kernel_rfl⟩
instance : FN Tryz.prog 18 := ⟨by kernel_rfl⟩
instance : FN Tryz.prog 19 := ⟨by kernel_rfl⟩
instance : FN Tryz.prog 20 := ⟨by kernel_rfl⟩
instance : FN Tryz.prog 21 := ⟨by kernel_rfl⟩
instance : FN Tryz.prog 22 := ⟨by kernel_rfl⟩
instance : FN Tryz.prog 23 := ⟨by kernel_rfl⟩
instance : FN Tryz.prog 24 := ⟨by kernel_rfl⟩
instance : FN Tryz.prog 25 := ⟨by kernel_rfl⟩
instance : FN Tryz.prog 26 := ⟨by kernel_rfl⟩
instance : FN Tryz.prog 27 := ⟨by kernel_rfl⟩
instance : FN Tryz.prog 28 := ⟨by kernel_rfl⟩
instance : FN Tryz.prog 29 := ⟨by kernel_rfl⟩
instance : FN Tryz.prog 30 := ⟨by kernel_rfl⟩
instance : FN Tryz.prog 31 := ⟨by kernel_rfl⟩
instance : FN Tryz.prog 32 := ⟨by kernel_rfl⟩
instance : FN Tryz.prog 33 := ⟨by kernel_rfl⟩
instance : FN Tryz.prog 34 := ⟨by kernel_rfl⟩
instance : FN Tryz.prog 35 := ⟨by kernel_rfl⟩
instance : FN Tryz.prog 36 := ⟨by kernel_rfl⟩
instance : FN Tryz.prog 37 := ⟨by kernel_rfl⟩
instance : FN Tryz.prog 38 := ⟨by kernel_rfl⟩
instance : FN Tryz.prog 39 := ⟨by kernel_rfl⟩
instance : FN Tryz.prog 40 := ⟨by kernel_rfl⟩
instance : FN Tryz.prog 41 := ⟨by kernel_rfl⟩
instance : FN Tryz.prog 42 := ⟨by kernel_rfl⟩
instance : FN Tryz.prog 43 := ⟨by kernel_rfl⟩
instance : FN Tryz.prog 44 := ⟨by kernel_rfl⟩
instance : FN Tryz.prog 45 := ⟨by kernel_rfl⟩
instance : FN Tryz.prog 46 := ⟨by kernel_rfl⟩
instance : FN Tryz.prog 47 := ⟨by kernel_rfl⟩
instance : FN Tryz.prog 48 := ⟨by kernel_rfl⟩
instance : FN Tryz.prog 49 := ⟨by kernel_rfl⟩
instance : FN Tryz.prog 50 := ⟨by kernel_rfl⟩
instance : FN Tryz.prog 51 := ⟨by kernel_rfl⟩
instance : FN Tryz.prog 52 := ⟨by kernel_rfl⟩
instance : FN Tryz.prog 53 := ⟨by kernel_rfl⟩
instance : FN Tryz.prog 54 := ⟨by kernel_rfl⟩
instance : FN Tryz.prog 55 := ⟨by kernel_rfl⟩
instance : FN Tryz.prog 56 := ⟨by kernel_rfl⟩
instance : FN Tryz.prog 57 := ⟨by kernel_rfl⟩
instance : FN Tryz.prog 58 := ⟨by kernel_rfl⟩
instance : FN Tryz.prog 59 := ⟨by kernel_rfl⟩
instance : FN Tryz.prog 60 := ⟨by kernel_rfl⟩
instance : FN Tryz.prog 61 := ⟨by kernel_rfl⟩
instance : FN Tryz.prog 62 := ⟨by kernel_rfl⟩
instance : FN Tryz.prog 63 := ⟨by kernel_rfl⟩
instance : FN Tryz.prog 64 := ⟨by kernel_rfl⟩
instance : FN Tryz.prog 65 := ⟨by kernel_rfl⟩
instance : FN Tryz.prog 66 := ⟨by kernel_rfl⟩
instance : FN Tryz.prog 67 := ⟨by kernel_rfl⟩
instance : FN Tryz.prog 68 := ⟨by kernel_rfl⟩
instance : FN Tryz.prog 69 := ⟨by kernel_rfl⟩
instance : FN Tryz.prog 70 := ⟨by kernel_rfl⟩
instance : FN Tryz.prog 71 := ⟨by kernel_rfl⟩
instance : FN Tryz.prog 72 := ⟨by kernel_rfl⟩
instance : FN Tryz.prog 73 := ⟨by kernel_rfl⟩
instance : FN Tryz.prog 74 := ⟨by kernel_rfl⟩
instance : FN Tryz.prog 75 := ⟨by kernel_rfl⟩
instance : FN Tryz.prog 76 := ⟨by kernel_rfl⟩
instance : FN Tryz.prog 77 := ⟨by kernel_rfl⟩
instance : FN Tryz.prog 78 := ⟨by kernel_rfl⟩
instance : FN Tryz.prog 79 := ⟨by kernel_rfl⟩
instance : FN Tryz.prog 80 := ⟨by kernel_rfl⟩
instance : FN Tryz.prog 84 := ⟨by kernel_rfl⟩
instance : FN Tryz.prog 85 := ⟨by kernel_rfl⟩
instance : FN Tryz.prog 86 := ⟨by kernel_rfl⟩
instance : FN Tryz.prog 87 := ⟨by kernel_rfl⟩
instance : FN Tryz.prog 88 := ⟨by kernel_rfl⟩
instance : FN Tryz.prog 89 := ⟨by kernel_rfl⟩
instance : FN Tryz.prog 90 := ⟨by kernel_rfl⟩
instance : FN Tryz.prog 91 := ⟨by kernel_rfl⟩
instance : FN Tryz.prog 92 := ⟨by kernel_rfl⟩
instance : FN Tryz.prog 93 := ⟨by kernel_rfl⟩
instance : FN Tryz.prog 94 := ⟨by kernel_rfl⟩
instance : FN Tryz.prog 95 := ⟨by kernel_rfl⟩
instance : FN Tryz.prog 97 := ⟨by kernel_rfl⟩
instance : FN Tryz.prog 98 := ⟨by kernel_rfl⟩
instance : FN Tryz.prog 99 := ⟨by kernel_rfl⟩
instance : FN Tryz.prog 100 := ⟨by kernel_rfl⟩
instance : FN Tryz.prog 101 := ⟨by kernel_rfl⟩
instance : FN Tryz.prog 102 := ⟨by kernel_rfl⟩
instance : FN Tryz.prog 103 := ⟨by kernel_rfl⟩
instance : FN Tryz.prog 105 := ⟨by kernel_rfl⟩
instance : FN Tryz.prog 106 := ⟨by kernel_rfl⟩
instance : FN Tryz.prog 107 := ⟨by kernel_rfl⟩
instance : FN Tryz.prog 108 := ⟨by kernel_rfl⟩
instance : FN Tryz.prog 109 := ⟨by kernel_rfl⟩
instance : FN Tryz.prog 110 := ⟨by kernel_rfl⟩
instance : FN Tryz.prog 111 := ⟨by kernel_rfl⟩
instance : FN Tryz.prog 112 := ⟨by kernel_rfl⟩
instance : FN Tryz.prog 113 := ⟨by kernel_rfl⟩
instance : FN Tryz.prog 114 := ⟨by kernel_rfl⟩
instance : FN Tryz.prog 115 := ⟨by kernel_rfl⟩
instance : FN Tryz.prog 116 := ⟨by kernel_rfl⟩
instance : FN Tryz.prog 117 := ⟨by kernel_rfl⟩
instance : FN Tryz.prog 118 := ⟨by kernel_rfl⟩
instance : FN Tryz.prog 119 := ⟨by kernel_rfl⟩
instance : FN Tryz.prog 120 := ⟨by kernel_rfl⟩
instance : FN Tryz.prog 121 := ⟨by kernel_rfl⟩
instance : FN Tryz.prog 122 := ⟨by kernel_rfl⟩
instance : FN Tryz.prog 123 := ⟨by kernel_rfl⟩
instance : FN Tryz.prog 125 := ⟨by kernel_rfl⟩
instance : FN Tryz.prog 126 := ⟨by kernel_rfl⟩
instance : FN Tryz.prog 127 := ⟨by kernel_rfl⟩
instance : FN Tryz.prog 128 := ⟨by kernel_rfl⟩
instance : FN Tryz.prog 129 := ⟨by kernel_rfl⟩
instance : FN Tryz.prog 130 := ⟨by kernel_rfl⟩
instance : FN Tryz.prog 131 := ⟨by kernel_rfl⟩
instance : FN Tryz.prog 136 := ⟨by kernel_rfl⟩
instance : FN Tryz.prog 139 := ⟨by kernel_rfl⟩
instance : FN Tryz.prog 140 := ⟨by kernel_rfl⟩
instance : FN Tryz.prog 167 := ⟨by kernel_rfl⟩
end Wh
set_option maxRecDepth 100000
namespace Wh
open Go Go.Proofs
theorem hmix : Tryz.prog.follows .mixedOrders = true := by kernel_rfl
instance : XF Tryz.prog 104 (Extern.Atomic.loadT (.int .u32)) := ⟨_, Tryz.func104, by kernel_rfl, by kernel_rfl, by kernel_rfl, by kernel_rfl⟩
instance : XF Tryz.prog 83 (Extern.Atomic.loadT (.int .i64)) := ⟨_, Tryz.func83, by kernel_rfl, by kernel_rfl, by kernel_rfl, by kernel_rfl⟩
instance : XF Tryz.prog 124 (Extern.Atomic.storeT) := ⟨_, Tryz.func124, by kernel_rfl, by kernel_rfl, by kernel_rfl, by kernel_rfl⟩
instance : XF Tryz.prog 82 (Extern.Atomic.storeT) := ⟨_, Tryz.func82, by kernel_rfl, by kernel_rfl, by kernel_rfl, by kernel_rfl⟩
instance : XF Tryz.prog 96 (Extern.Atomic.update (Op.intArith .add) .i64 true) := ⟨_, Tryz.func96, by kernel_rfl, by kernel_rfl, by kernel_rfl, by kernel_rfl⟩
instance : XF Tryz.prog 138 (Extern.Atomic.update (Op.intArith .add) .i32 true) := ⟨_, Tryz.func138, by kernel_rfl, by kernel_rfl, by kernel_rfl, by kernel_rfl⟩
instance : XF Tryz.prog 133 (Extern.Atomic.casT (.int .i32)) := ⟨_, Tryz.func133, by kernel_rfl, by kernel_rfl, by kernel_rfl, by kernel_rfl⟩
instance : XF Tryz.prog 132 (fun _ => do mark .disable; pure Extern.Race.none_) := ⟨_, Tryz.func132, by kernel_rfl, by kernel_rfl, by kernel_rfl, by kernel_rfl⟩
instance : XF Tryz.prog 134 (fun _ => do mark .enable; pure Extern.Race.none_) := ⟨_, Tryz.func134, by kernel_rfl, by kernel_rfl, by kernel_rfl, by kernel_rfl⟩
instance : XF Tryz.prog 135 (Extern.Race.marked .acquire) := ⟨_, Tryz.func135, by kernel_rfl, by kernel_rfl, by kernel_rfl, by kernel_rfl⟩
instance : XF Tryz.prog 137 (Extern.Race.marked .releaseMerge) := ⟨_, Tryz.func137, by kernel_rfl, by kernel_rfl, by kernel_rfl, by kernel_rfl⟩
instance : XF Tryz.prog 81 Extern.MapsClone.clone := ⟨_, Tryz.func81, by kernel_rfl, by kernel_rfl, by kernel_rfl, by kernel_rfl⟩
instance : SI Tryz.prog 68 [.i64, .u32, .i64, .i64, .i64] := ⟨by kernel_rfl, by kernel_rfl, by kernel_rfl⟩
instance : SI Tryz.prog 31 [.i64, .i64, .i64, .i64, .i64] := ⟨by kernel_rfl, by kernel_rfl, by kernel_rfl⟩
instance : BS Tryz.prog 68 [(0, 1), (1, 1), (2, 1), (3, 1), (4, 1)] := ⟨_, Tryz.underlying68, fun w => by kernel_rfl⟩
instance : BS Tryz.prog 31 [(0, 1), (1, 1), (2, 1), (3, 1), (4, 1)] := ⟨_, Tryz.underlying31, fun w => by kernel_rfl⟩
instance : BS Tryz.prog 110 [(0, 1), (1, 1), (2, 1), (3, 1)] := ⟨_, Tryz.underlying110, fun w => by kernel_rfl⟩
instance : UT Tryz.prog 184 .unsafePointer := ⟨by kernel_rfl⟩
end Wh
namespace Wh
open Go Go.Proofs
set_option maxRecDepth 100000
theorem b32_spec (w : World) (b : Bool) : Calls Tryz.prog 125 #[.bool b] w fun e w' => e = .returned (.int .u32 (if b then 1 else 0)) ∧ w' = w := by
  refine calls_go Tryz.func125 Tryz.ntmps125 rfl rfl ?_
  refine TW.seq ?_
  refine TW.region ?_
  refine LW.v (r_as) ?_
  refine LW.nil ?_
  refine TW.seq <| TW.seq ?_
  refine TW.region ?_
  refine LW.v (r_mv) ?_
  refine LW.nil ?_
  refine TW.c rfl (fun hb => ?_) (fun hb => ?_)
  · refine TW.seq ?_
    refine TW.region ?_
    refine LW.v (r_as) ?_
    refine LW.nil ?_
    refine TW.ret (ret1 (by rfl) rT ?_)
    subst hb; exact ⟨rfl, rfl⟩
  · refine TW.skip <| TW.seq ?_
    refine TW.region ?_
    refine LW.v (r_as) ?_
    refine LW.nil ?_
    refine TW.ret (ret1 (by rfl) rT ?_)
    subst hb; exact ⟨rfl, rfl⟩
theorem boolLoad_spec (B : Nat) (w0 w : World) (L : List Ck) (g : Nat) (x0 x2 x3 x4 x5 : Value) (d : Int) (H : Hp B w0 w (Blk g 90 #[x0, .int .u32 d, x2, x3, x4, x5] :: L)) : Calls Tryz.prog 94 #[.pointer (some ⟨g, 1, none⟩)] w fun e w' => e = .returned (.bool (d != 0)) ∧ w' = w := by
  refine calls_go Tryz.func94 Tryz.ntmps94 rfl rfl ?_
  refine TW.seq ?_
  refine TW.region ?_
  refine LW.v (r_as) ?_
  refine LW.nil ?_
  refine TW.seq ?_
  refine TW.region ?_
  refine LW.v (r_mv) ?_
  refine LW.v (r_nil) ?_
  refine LW.v (r_fa) ?_
  refine LW.v (r_xld H) ?_
  refine LW.v (r_bin) ?_
  refine LW.v (r_as) ?_
  refine LW.nil ?_
  refine TW.ret (ret1 (by rfl) rT ?_)
  exact ⟨rfl, rfl⟩
theorem boolStore_spec (B : Nat) (w0 w : World) (L : List Ck) (g : Nat) (x0 x2 x3 x4 x5 : Value) (d : Int) (H : Hp B w0 w (Blk g 90 #[x0, .int .u32 d, x2, x3, x4, x5] :: L)) : Calls Tryz.prog 107 #[.pointer (some ⟨g, 1, none⟩), .bool true] w fun e w' => e = .returned (.tuple #[]) ∧ Hp B w0 w' (Blk g 90 #[x0, .int .u32 1, x2, x3, x4, x5] :: L) := by
  refine calls_go Tryz.func107 Tryz.ntmps107 rfl rfl ?_
  refine TW.draw [(0, some 1), (1, some 1), (2, some 1), (3, some 0), (4, none), (5, none)] [4, 5] hmix (by kernel_rfl) (fun _ _ _ _ _ h => h) H (fun m w => (m = 0 → Hp _ _ w _)) (fun _ h _ => h) ?_
  intro w H
  refine DW.v (by rfl) (Quiet.y (fun _ _ => r_mv)) ?_
  refine DW.v (by rfl) (Quiet.y (fun _ _ => r_nil)) ?_
  refine DW.v (by rfl) (Quiet.y (fun _ _ => r_fa)) ?_
  refine DW.v (by rfl) (Quiet.y (fun _ _ => r_mv)) ?_
  refine DW.l (by rfl) ?_
  refine LW.c r_c1 ((b32_spec _ _).mono ?_)
  rintro _ w ⟨rfl, rfl⟩
  refine ⟨_, rfl, ?_⟩
  refine LW.nil ⟨(fun h => nomatch h), ?_⟩
  refine DW.l (by rfl) ?_
  refine LW.vm (r_xst H) ?_; intro w H
  refine LW.nil ⟨(fun h => nomatch h), ?_⟩
  refine DW.nil (fun _ => ?_)
  refine TW.end_ (ret0 (hR := ?_))
  exact ⟨rfl, H⟩
theorem ilock_spec (B : Nat) (w0 w : World) (L : List Ck) (g : Nat) (x0 x1 x3 x4 x5 : Value) (H : Hp B w0 w (Blk g 90 #[x0, x1, .int .i32 0, x3, x4, x5] :: L)) : Calls Tryz.prog 122 #[.pointer (some ⟨g, 2, none⟩)] w fun e w' => e = .returned (.tuple #[]) ∧ Hp B w0 w' (Blk g 90 #[x0, x1, .int .i32 1, x3, x4, x5] :: L) := by
  refine calls_go Tryz.func122 Tryz.ntmps122 rfl rfl ?_
  refine TW.seq ?_
  refine TW.region ?_
  refine LW.v (r_xm0) ?_
  refine LW.nil ?_
  refine TW.seq <| TW.seq ?_
  refine TW.region ?_
  refine LW.v (r_mv) ?_
  refine LW.v (r_nil) ?_
  refine LW.v (r_fa) ?_
  refine LW.vm (r_xcas H) ?_; intro w H
  refine LW.nil ?_
  refine TW.c rfl (fun _ => ?_) (fun h => by cases h)
  refine TW.seq ?_
  refine TW.c rfl (fun _ => ?_) (fun h => by cases h)
  refine TW.seq ?_
  refine TW.region ?_
  refine LW.v (r_xm0) ?_
  refine LW.nil ?_
  refine TW.region ?_
  refine LW.v (r_mv) ?_
  refine LW.v (r_cvu H) ?_
  refine LW.v (r_xm1) ?_
  refine LW.nil ?_
  refine TW.ret (ret0r (hR := ?_))
  exact ⟨rfl, H⟩
theorem lock_spec (B : Nat) (w0 w : World) (L : List Ck) (g : Nat) (x0 x1 x3 x4 x5 : Value) (H : Hp B w0 w (Blk g 90 #[x0, x1, .int .i32 0, x3, x4, x5] :: L)) : Calls Tryz.prog 105 #[.pointer (some ⟨g, 2, none⟩)] w fun e w' => e = .returned (.tuple #[]) ∧ Hp B w0 w' (Blk g 90 #[x0, x1, .int .i32 1, x3, x4, x5] :: L) := by
  refine calls_go Tryz.func105 Tryz.ntmps105 rfl rfl ?_
  refine TW.region ?_
  refine LW.v (r_mv) ?_
  refine LW.v (r_nil) ?_
  refine LW.v (r_fa) ?_
  refine LW.c r_c1 ((ilock_spec _ _ _ _ _ _ _ _ _ _ H).mono ?_)
  rintro _ w ⟨rfl, H⟩
  refine ⟨_, rfl, ?_⟩
  refine LW.nil ?_
  refine TW.end_ (ret0 (hR := ?_))
  exact ⟨rfl, H⟩
theorem iunlock_spec (B : Nat) (w0 w : World) (L : List Ck) (g : Nat) (x0 x1 x3 x4 x5 : Value) (H : Hp B w0 w (Blk g 90 #[x0, x1, .int .i32 1, x3, x4, x5] :: L)) : Calls Tryz.prog 123 #[.pointer (some ⟨g, 2, none⟩)] w fun e w' => e = .returned (.tuple #[]) ∧ Hp B w0 w' (Blk g 90 #[x0, x1, .int .i32 0, x3, x4, x5] :: L) := by
  refine calls_go Tryz.func123 Tryz.ntmps123 rfl rfl ?_
  refine TW.seq ?_
  refine TW.c rfl (fun _ => ?_) (fun h => by cases h)
  refine TW.seq ?_
  refine TW.region ?_
  refine LW.v (r_mv) ?_
  refine LW.v (r_nil) ?_
  refine LW.v (r_fa) ?_
  refine LW.v (r_ld H) ?_
  refine LW.nil ?_
  refine TW.seq ?_
  refine TW.region ?_
  refine LW.v (r_mv) ?_
  refine LW.v (r_cvu H) ?_
  refine LW.v (r_xm1) ?_
  refine LW.nil ?_
  refine TW.region ?_
  refine LW.v (r_xm0) ?_
  refine LW.nil ?_
  refine TW.seq ?_
  refine TW.region ?_
  refine LW.v (r_mv) ?_
  refine LW.v (r_nil) ?_
  refine LW.v (r_fa) ?_
  refine LW.vm (r_xadd H) ?_; intro w H
  refine LW.v (r_as) ?_
  refine LW.nil ?_
  refine TW.seq <| TW.seq ?_
  refine TW.region ?_
  refine LW.v (r_mv) ?_
  refine LW.v (r_bin) ?_
  refine LW.nil ?_
  refine TW.c rfl (fun h => by cases h) (fun _ => ?_)
  refine TW.skip ?_
  refine TW.region ?_
  refine LW.v (r_xm0) ?_
  refine LW.nil ?_
  refine TW.end_ (ret0 (hR := ?_))
  exact ⟨rfl, H⟩
theorem unlock_specD (B : Nat) (w0 w : World) (L : List Ck) (g : Nat) (x0 x1 x3 x4 x5 : Value) (H : Hp B w0 w (Blk g 90 #[x0, x1, .int .i32 1, x3, x4, x5] :: L)) : CallsD Tryz.prog 106 #[.pointer (some ⟨g, 2, none⟩)] .returning w fun e u w' => u = .returning ∧ e = .returned (.tuple #[]) ∧ Hp B w0 w' (Blk g 90 #[x0, x1, .int .i32 0, x3, x4, x5] :: L) := by
  refine callsD_go Tryz.func106 Tryz.ntmps106 rfl rfl ?_
  refine TW.region ?_
  refine LW.v (r_mv) ?_
  refine LW.v (r_nil) ?_
  refine LW.v (r_fa) ?_
  refine LW.c r_c1 ((iunlock_spec _ _ _ _ _ _ _ _ _ _ H).mono ?_)
  rintro _ w ⟨rfl, H⟩
  refine ⟨_, rfl, ?_⟩
  refine LW.nil ?_
  refine TW.end_ (ret0 (hR := ?_))
  exact ⟨rfl, H⟩
theorem boolStore_specD (B : Nat) (w0 w : World) (L : List Ck) (g : Nat) (x0 x2 x3 x4 x5 : Value) (d : Int) (H : Hp B w0 w (Blk g 90 #[x0, .int .u32 d, x2, x3, x4, x5] :: L)) : CallsD Tryz.prog 107 #[.pointer (some ⟨g, 1, none⟩), .bool true] .returning w fun e u w' => u = .returning ∧ e = .returned (.tuple #[]) ∧ Hp B w0 w' (Blk g 90 #[x0, .int .u32 1, x2, x3, x4, x5] :: L) := by
  refine callsD_go Tryz.func107 Tryz.ntmps107 rfl rfl ?_
  refine TW.draw [(0, some 1), (1, some 1), (2, some 1), (3, some 0), (4, none), (5, none)] [4, 5] hmix (by kernel_rfl) (fun _ _ _ _ _ h => h) H (fun m w => (m = 0 → Hp _ _ w _)) (fun _ h _ => h) ?_
  intro w H
  refine DW.v (by rfl) (Quiet.y (fun _ _ => r_mv)) ?_
  refine DW.v (by rfl) (Quiet.y (fun _ _ => r_nil)) ?_
  refine DW.v (by rfl) (Quiet.y (fun _ _ => r_fa)) ?_
  refine DW.v (by rfl) (Quiet.y (fun _ _ => r_mv)) ?_
  refine DW.l (by rfl) ?_
  refine LW.c r_c1 ((b32_spec _ _).mono ?_)
  rintro _ w ⟨rfl, rfl⟩
  refine ⟨_, rfl, ?_⟩
  refine LW.nil ⟨(fun h => nomatch h), ?_⟩
  refine DW.l (by rfl) ?_
  refine LW.vm (r_xst H) ?_; intro w H
  refine LW.nil ⟨(fun h => nomatch h), ?_⟩
  refine DW.nil (fun _ => ?_)
  refine TW.end_ (ret0 (hR := ?_))
  exact ⟨rfl, H⟩
theorem begun1_spec (B : Nat) (w0 w : World) (L : List Ck) (g gd gb : Nat) (x0 x1 x2 x3 x4 x5 mv : Value) (hmv : mv.oneCell' = true) (H : Hp B w0 w (Blk g 90 #[x0, x1, x2, x3, x4, x5] :: Blk gd 25 #[.pointer (some ⟨g, 0, none⟩)] :: Blk gb 85 #[mv] :: L)) : Calls Tryz.prog 80 #[.pointer (some ⟨gb, 0, none⟩), .pointer (some ⟨gd, 0, none⟩)] w fun e w' => e = .returned (.tuple #[]) ∧ Hp B w0 w' (Blk g 90 #[x0, x1, x2, x3, mv, x5] :: Blk gd 25 #[.pointer (some ⟨g, 0, none⟩)] :: Blk gb 85 #[mv] :: L) := by
  refine calls_go Tryz.func80 Tryz.ntmps80 rfl rfl ?_
  refine TW.region ?_
  refine LW.v (r_ld H) ?_
  refine LW.v (r_ld H) ?_
  refine LW.v (r_nil) ?_
  refine LW.v (r_fa) ?_
  refine LW.sto (r_st (h1 := hmv) H) ?_; intro w H
  refine LW.nil ?_
  refine TW.end_ (ret0 (hR := ?_))
  exact ⟨rfl, H⟩
theorem doSlow_spec (B : Nat) (w0 w : World) (L : List Ck) (g gd gb : Nat) (x0 x3 x4 x5 mv : Value) (hmv : mv.oneCell' = true) (H : Hp B w0 w (Blk g 90 #[x0, .int .u32 0, .int .i32 0, x3, x4, x5] :: Blk gd 25 #[.pointer (some ⟨g, 0, none⟩)] :: Blk gb 85 #[mv] :: L)) : Calls Tryz.prog 95 #[.pointer (some ⟨g, 1, none⟩), .func (.func 80) #[] #[.pointer (some ⟨gb, 0, none⟩), .pointer (some ⟨gd, 0, none⟩)]] w fun e w' => e = .returned (.tuple #[]) ∧ Hp B w0 w' (Blk g 90 #[x0, .int .u32 1, .int .i32 0, x3, mv, x5] :: Blk gd 25 #[.pointer (some ⟨g, 0, none⟩)] :: Blk gb 85 #[mv] :: L) := by
  refine calls_goD Tryz.func95 Tryz.ntmps95 rfl rfl ?_
  refine TW.seq ?_
  refine TW.region ?_
  refine LW.v (r_mv) ?_
  refine LW.v (r_nil) ?_
  refine LW.v (r_fa) ?_
  refine LW.c r_c1 ((lock_spec _ _ _ _ _ _ _ _ _ _ H).mono ?_)
  rintro _ w ⟨rfl, H⟩
  refine ⟨_, rfl, ?_⟩
  refine LW.nil ?_
  refine TW.seq ?_
  refine TW.region ?_
  refine LW.v (r_mv) ?_
  refine LW.v (r_nil) ?_
  refine LW.v (r_fa) ?_
  refine LW.dfr r_d1 ?_
  refine LW.nil ?_
  refine TW.seq ?_
  refine TW.region ?_
  refine LW.v (r_mv) ?_
  refine LW.v (r_nil) ?_
  refine LW.v (r_fa) ?_
  refine LW.c r_c1 ((boolLoad_spec _ _ _ _ _ _ _ _ _ _ 0 H).mono ?_)
  rintro _ w ⟨rfl, rfl⟩
  refine ⟨_, rfl, ?_⟩
  refine LW.v (r_not) ?_
  refine LW.nil ?_
  refine TW.c rfl (fun _ => ?_) (fun h => by cases h)
  refine TW.seq ?_
  refine TW.region ?_
  refine LW.v (r_mv) ?_
  refine LW.v (r_nil) ?_
  refine LW.v (r_fa) ?_
  refine LW.dfr r_d2 ?_
  refine LW.nil ?_
  refine TW.region ?_
  refine LW.v (r_mv) ?_
  -- the function itself
  refine LW.c r_k0 ((begun1_spec _ _ _ _ _ _ _ _ (.int .u32 0) (.int .i32 1) _ _ _ _ hmv H).mono ?_)
  rintro _ w ⟨rfl, H⟩
  refine ⟨_, rfl, ?_⟩
  refine LW.nil ?_
  refine TW.end_ (retD_end fun tmps hres => ?_)
  refine leaves_go ((boolStore_specD _ _ _ _ _ _ _ _ _ _ 0 H).mono ?_)
  rintro _ _ w ⟨rfl, rfl, H⟩
  refine ⟨rfl, _, rfl, ?_⟩
  refine leaves_go ((unlock_specD _ _ _ _ _ _ _ _ _ _ H).mono ?_)
  rintro _ _ w ⟨rfl, rfl, H⟩
  exact ⟨rfl, _, rfl, leaves_nil (hres _) ⟨rfl, H⟩⟩
end Wh
