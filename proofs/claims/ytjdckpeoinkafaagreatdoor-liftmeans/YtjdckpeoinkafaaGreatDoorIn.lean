/- Instructions: what the functions of inst answer, plainly. -/
import Derived.Test.YtjdckpeoinkafaaGreatDoorFwI
set_option linter.all false
namespace Wh
open Go
/-- an instruction -/
structure X where
  op : Int
  rd : Int
  rs1 : Int
  rs2 : Int
  imm : Int
  deriving DecidableEq
def X.nums (x : X) : List Int := [x.op, x.rd, x.rs1, x.rs2, x.imm]
abbrev xks : List IntKind := [.i64, .i64, .i64, .i64, .i64]
def X.cells (x : X) : List Value := iv xks x.nums
def X.val (x : X) : Value := .agg (iv xks x.nums).toArray
namespace WhI
def plain (op : Int) : Int × Bool :=
  if op = 18 then (27, true) else if op = 19 then (30, true) else if op = 20 then (31, true) else if op = 21 then (32, true) else if op = 22 then (35, true)
  else if op = 23 then (36, true) else if op = 24 then (29, true) else if op = 25 then (33, true) else if op = 26 then (34, true) else (0, false)
def formN (n : Nat) : Int := (([85,85,74,73,66,66,66,66,66,66,73,73,73,73,73,83,83,83,73,73,73,73,73,73,72,72,72,82,82,82,82,82,82,82,82,82,82,82,82,82,82,82,82,82,82,69,69] : List Int)[n]?).getD 0
def form (op : Int) : Int := if op < 0 ∨ 47 ≤ op then 0 else formN op.toNat
def has (f : Int) : Bool × Bool × Bool :=
  if f = 85 ∨ f = 74 then (true, false, false) else if f = 73 ∨ f = 72 then (true, true, false) else if f = 66 ∨ f = 83 then (false, true, true) else if f = 82 then (true, true, true) else (false, false, false)
def between (n lo hi : Int) : Bool := decide (lo ≤ n) && decide (n ≤ hi)
def register (b : Bool) (n : Int) : Bool := (b && between n 0 31) || decide (n = 0)
def number (f n : Int) : Bool :=
  if f = 85 then between n 0 1048575 else if f = 74 then between n (-1048576) 1048574 && decide (n.tmod 2 = 0) else if f = 73 ∨ f = 83 then between n (-2048) 2047
  else if f = 66 then between n (-4096) 4094 && decide (n.tmod 2 = 0) else if f = 72 then between n 0 31 else decide (n = 0)
def right (x : X) : Bool :=
  decide (form x.op ≠ 0) && register (has (form x.op)).1 x.rd && register (has (form x.op)).2.1 x.rs1 && register (has (form x.op)).2.2 x.rs2 && number (form x.op) x.imm
/-- what lift.Plain answers -/
def lplain (x : X) : Bool := right x && ((plain x.op).2 || decide (x.op = 0) || decide (x.op = 1) || decide (form x.op = 82))
end WhI
end Wh
