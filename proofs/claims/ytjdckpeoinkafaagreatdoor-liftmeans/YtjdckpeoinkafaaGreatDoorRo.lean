/- The document's reckonings on words, as its code has them. -/
import Derived.Test.YtjdckpeoinkafaaGreatDoorWd
set_option linter.all false
namespace Wh.WhR
open Go
abbrev u32 (a : Int) : Int := IntKind.u32.wrap a
abbrev u64 (a : Int) : Int := IntKind.u64.wrap a
abbrev i64 (a : Int) : Int := IntKind.i64.wrap a
def bit (w k : Int) : Int := if k < 0 ∨ 31 < k then 0 else bits .and .u32 (w.fdiv (2 ^ min k.toNat 32)) 1
def ofL (l : List Int) : Int := l.foldr (fun b w => u32 (u32 (w * 2) + b)) 0
def num (w : Int) : Int := if 2147483648 ≤ w then i64 (i64 w - 4294967296) else i64 w
def shiftL (a s above : Int) : List Int := (List.range 32).map fun (i : Nat) => if 31 < (i : Int) - s then above else bit a ((i : Int) - s)
def shift (a s above : Int) : Int := ofL (shiftL a s above)
def bitOp (op x y : Int) : Int := if op = 36 then u32 (x * y) else if op = 35 then u32 (u32 (x + y) - u32 (x * y)) else if op = 32 then (u32 (x + y)).tmod 2 else 0
def bitsL (op a b : Int) : List Int := (List.range 32).map fun (i : Nat) => bitOp op (bit a i) (bit b i)
def bitsF (op a b : Int) : Int := ofL (bitsL op a b)
def one (b : Bool) : Int := if b then 1 else 0
def halves (a b : Int) : Int :=
  let al := u64 (a.tmod 65536); let ah := u64 (u32 (a.tdiv 65536)); let bl := u64 (b.tmod 65536); let bh := u64 (u32 (b.tdiv 65536))
  let mid := u64 (u64 (u64 ((u64 (al * bl)).tdiv 65536) + (u64 (ah * bl)).tmod 65536) + (u64 (al * bh)).tmod 65536)
  u32 (u64 (u64 (u64 (u64 (ah * bh) + u64 ((u64 (ah * bl)).tdiv 65536)) + u64 ((u64 (al * bh)).tdiv 65536)) + u64 (mid.tdiv 65536)))
def high (op a b : Int) : Int :=
  let h := halves a b
  let h := if op ≠ 40 ∧ 2147483648 ≤ a then u32 (h - b) else h
  if op = 38 ∧ 2147483648 ≤ b then u32 (h - a) else h
def div (op a b : Int) : Int :=
  let rest := op = 43 ∨ op = 44
  if b = 0 then if rest then a else 4294967295
  else
    let x := if op = 41 ∨ op = 43 then num a else i64 a
    let y := if op = 41 ∨ op = 43 then num b else i64 b
    if rest then u32 (i64 (x - i64 (i64 (x.tdiv y) * y))) else u32 (i64 (x.tdiv y))
def rdo (op a b : Int) : Int × Int :=
  let s := i64 (b.tmod 32)
  if op = 27 then (u32 (a + b), 0) else if op = 28 then (u32 (a - b), 0) else if op = 36 ∨ op = 35 ∨ op = 32 then (bitsF op a b, 0)
  else if op = 29 then (shift a s 0, 0) else if op = 33 then (shift a (i64 (0 - s)) 0, 0) else if op = 34 then (shift a (i64 (0 - s)) (bit a 31), 0)
  else if op = 30 then (one (decide (num a < num b)), 0) else if op = 31 then (one (decide (a < b)), 0) else if op = 37 then (u32 (a * b), 0)
  else if op = 38 ∨ op = 39 ∨ op = 40 then (high op a b, 0) else if op = 41 ∨ op = 42 ∨ op = 43 ∨ op = 44 then (div op a b, 0) else (0, 1)
theorem u32_id {n : Int} (h0 : 0 ≤ n) (h1 : n < 4294967296) : IntKind.u32.wrap n = n := by
  have e : (2 : Int) ^ 32 = 4294967296 := by decide
  simp only [IntKind.wrap, IntKind.bits, IntKind.signed, e, Bool.false_and]
  simp
  omega
theorem u64_id {n : Int} (h0 : 0 ≤ n) (h1 : n < 18446744073709551616) : IntKind.u64.wrap n = n := by
  have e : (2 : Int) ^ 64 = 18446744073709551616 := by decide
  simp only [IntKind.wrap, IntKind.bits, IntKind.signed, e, Bool.false_and]
  simp
  omega
theorem i64_id {n : Int} (h0 : -9223372036854775808 ≤ n) (h1 : n < 9223372036854775808) : IntKind.i64.wrap n = n := IntWalk.i64_in n ⟨h0, by omega⟩
theorem num_ne {b : Int} (h0 : 0 ≤ b) (h1 : b < 4294967296) (h2 : ¬ b = 0) : num b ≠ 0 := by
  unfold num i64
  split
  · rw [i64_id (n := b) (by omega) (by omega), i64_id (by omega) (by omega)]; omega
  · rw [i64_id (by omega) (by omega)]; exact h2
end Wh.WhR
