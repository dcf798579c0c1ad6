/- word.Do and what it calls, on numbers. -/
import Derived.Test.YtjdckpeoinkafaaGreatDoorFwC
set_option linter.all false
namespace Wh.WhI
open Go
def flag (b : Bool) : Int := if b then 1 else 0
abbrev i32 (a : Int) : Int := IntKind.i32.wrap a
abbrev u32 (a : Int) : Int := IntKind.u32.wrap a
def high (op a b : Int) : Int :=
  if op = 40 then u32 ((IntKind.u64.wrap (IntKind.u64.wrap a * IntKind.u64.wrap b)).fdiv (2 ^ 32))
  else
    let x := if op = 38 then IntKind.i64.wrap (i32 a) else if op = 39 then IntKind.i64.wrap (i32 a) else IntKind.i64.wrap a
    let y := if op = 38 then IntKind.i64.wrap (i32 b) else IntKind.i64.wrap b
    u32 ((IntKind.i64.wrap (x * y)).fdiv (2 ^ 32))
def divided (op a b : Int) : Int :=
  let rest := op = 43 ∨ op = 44
  if b = 0 then if rest then a else 4294967295
  else if op = 42 then u32 (a.tdiv b)
  else if op = 44 then a.tmod b
  else if a = 2147483648 ∧ b = 4294967295 then if rest then 0 else a
  else if rest then u32 ((i32 a).tmod (i32 b)) else u32 (i32 ((i32 a).tdiv (i32 b)))
/-- word.Do -/
def wdo (op a b : Int) : Int × Int :=
  if op = 27 then (u32 (a + b), 0) else if op = 28 then (u32 (a - b), 0) else if op = 36 then (bits .and .u32 a b, 0) else if op = 35 then (bits .or .u32 a b, 0) else if op = 32 then (bits .xor .u32 a b, 0)
  else if op = 29 then (u32 (a * 2 ^ min (bits .and .u32 b 31).toNat 32), 0)
  else if op = 33 then (a.fdiv (2 ^ min (bits .and .u32 b 31).toNat 32), 0)
  else if op = 34 then (u32 ((i32 a).fdiv (2 ^ min (bits .and .u32 b 31).toNat 32)), 0)
  else if op = 30 then (flag (decide (i32 a < i32 b)), 0) else if op = 31 then (flag (decide (a < b)), 0)
  else if op = 37 then (u32 (a * b), 0)
  else if op = 38 ∨ op = 40 ∨ op = 39 then (high op a b, 0)
  else if op = 41 ∨ op = 42 ∨ op = 43 ∨ op = 44 then (divided op a b, 0)
  else (0, 1)
theorem u32_nn (a : Int) : 0 ≤ IntKind.u32.wrap a := by
  have h : (2 : Int) ^ 32 = 4294967296 := by decide
  simp only [IntKind.wrap, IntKind.bits, IntKind.signed, h, Bool.false_and]
  simp
  omega
theorem bits_nn (op : BinOp) (a b : Int) : 0 ≤ bits op .u32 a b := by
  cases op <;> first | exact u32_nn _ | exact Int.le_refl 0
theorem wrap_ne {b : Int} (h0 : 0 ≤ b) (h1 : b < 4294967296) (h2 : ¬ b = 0) : IntKind.i32.wrap b ≠ 0 := by
  have h : (2 : Int) ^ 32 = 4294967296 := by decide
  simp only [IntKind.wrap, IntKind.bits, h, Int.emod_eq_of_lt h0 h1]
  split <;> omega
end Wh.WhI
