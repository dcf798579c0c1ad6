/- Bits of words that are told as numbers. -/
import Derived.Test.YtjdckpeoinkafaaGreatDoorFwC
set_option linter.all false
namespace Wh.WhB
open Go
theorem wrap_nat {n : Nat} (h : n < 4294967296) : IntKind.u32.wrap (n : Int) = n := by
  have e : (2 : Int) ^ 32 = 4294967296 := by decide
  simp only [IntKind.wrap, IntKind.bits, IntKind.signed, e, Bool.false_and]
  simp
  omega
theorem ofInt_nat (n : Nat) : BitVec.ofInt 32 (n : Int) = BitVec.ofNat 32 n := by simp
theorem toNat_ofNat {n : Nat} (h : n < 4294967296) : (BitVec.ofNat 32 n).toNat = n := by
  simp only [BitVec.toNat_ofNat]
  exact Nat.mod_eq_of_lt h
theorem or_nat {a b : Nat} (ha : a < 4294967296) (hb : b < 4294967296) : bits .or .u32 a b = ((a ||| b : Nat) : Int) := by
  have h1 : a ||| b < 2 ^ 32 := Nat.or_lt_two_pow ha hb
  show IntKind.u32.wrap (((BitVec.ofInt 32 (a : Int) ||| BitVec.ofInt 32 (b : Int)).toNat : Nat) : Int) = _
  rw [ofInt_nat, ofInt_nat, BitVec.toNat_or, toNat_ofNat ha, toNat_ofNat hb, wrap_nat h1]
theorem and_nat {a b : Nat} (ha : a < 4294967296) (hb : b < 4294967296) : bits .and .u32 a b = ((a &&& b : Nat) : Int) := by
  have h1 : a &&& b < 2 ^ 32 := Nat.and_lt_two_pow a hb
  show IntKind.u32.wrap (((BitVec.ofInt 32 (a : Int) &&& BitVec.ofInt 32 (b : Int)).toNat : Nat) : Int) = _
  rw [ofInt_nat, ofInt_nat, BitVec.toNat_and, toNat_ofNat ha, toNat_ofNat hb, wrap_nat h1]
theorem and31 : ∀ n : Nat, n < 32 → bits .and .i64 (n : Int) 31 = n := by decide
/-- one more bit -/
def setStep (s : Int) (rd : Int) : Int := bits .or .u32 s (IntKind.u32.wrap (1 * 2 ^ min (bits .and .i64 rd 31).toNat 32))
theorem setStep_nat {s k : Nat} (hs : s < 4294967296) (hk : k < 32) : setStep (s : Int) (k : Int) = ((s ||| 2 ^ k : Nat) : Int) := by
  have h2 : 2 ^ k < 4294967296 := Nat.pow_lt_pow_right (by decide) (m := k) (n := 32) hk
  unfold setStep
  rw [and31 k hk]
  have e : IntKind.u32.wrap (1 * 2 ^ min ((k : Int)).toNat 32) = ((2 ^ k : Nat) : Int) := by
    have h3 : min ((k : Int)).toNat 32 = k := by simp; omega
    rw [h3, Int.one_mul, ← wrap_nat h2]
    simp
  rw [e, or_nat hs h2]
/-- a bit that is read -/
theorem bit_nat {s r : Nat} (hs : s < 4294967296) (hr : r < 32) : bits .and .u32 ((s : Int).fdiv (2 ^ min ((r : Int)).toNat 32)) 1 = if s.testBit r then 1 else 0 := by
  have h3 : min ((r : Int)).toNat 32 = r := by simp; omega
  have e : ((s : Int).fdiv (2 ^ min ((r : Int)).toNat 32)) = ((s / 2 ^ r : Nat) : Int) := by
    rw [h3, Int.fdiv_eq_ediv_of_nonneg _ (Int.le_of_lt (Int.pow_pos (by decide)))]
    simp
  have hlt : s / 2 ^ r < 4294967296 := Nat.lt_of_le_of_lt (Nat.div_le_self _ _) hs
  rw [e, show (1 : Int) = ((1 : Nat) : Int) from rfl, and_nat hlt (by decide), Nat.and_one_is_mod, Nat.testBit_eq_decide_div_mod_eq]
  have : s / 2 ^ r % 2 = 0 ∨ s / 2 ^ r % 2 = 1 := by omega
  rcases this with h | h <;> simp [h]
theorem and31_nn {a : Int} (h0 : 0 ≤ a) (h1 : a ≤ 31) : 0 ≤ bits .and .i64 a 31 := by
  have := and31 a.toNat (by omega)
  rw [show ((a.toNat : Nat) : Int) = a by omega] at this
  rw [this]
  exact h0
end Wh.WhB
