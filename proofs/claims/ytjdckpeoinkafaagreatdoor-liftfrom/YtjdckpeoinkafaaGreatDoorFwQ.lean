/- The document's reckonings on words are the code's. -/
import Derived.Test.YtjdckpeoinkafaaGreatDoorRo
import Derived.Test.YtjdckpeoinkafaaGreatDoorFwI
import Derived.ChangeKeysEq
import Derived.Laws.StructEq
import Derived.MapKept
set_option linter.all false
namespace Wh.WhR
open Go WhB
theorem u32_mod (n : Int) : IntKind.u32.wrap n = n % 4294967296 := by
  have e : (2 : Int) ^ 32 = 4294967296 := by decide
  simp only [IntKind.wrap, IntKind.bits, IntKind.signed, e, Bool.false_and]
  simp
theorem i32_eq {a : Int} (h0 : 0 ≤ a) (h1 : a < 4294967296) : IntKind.i32.wrap a = if 2147483648 ≤ a then a - 4294967296 else a := by
  have e : (2 : Int) ^ 32 = 4294967296 := by decide
  have e2 : (2 : Int) ^ 31 = 2147483648 := by decide
  simp only [IntKind.wrap, IntKind.bits, IntKind.signed, e, Bool.true_and]
  simp
  split <;> split <;> omega
theorem num_eq {a : Int} (h0 : 0 ≤ a) (h1 : a < 4294967296) : num a = IntKind.i32.wrap a := by
  rw [i32_eq h0 h1]
  unfold num i64
  split
  · rw [i64_id (n := a) (by omega) (by omega), i64_id (by omega) (by omega)]
  · rw [i64_id (by omega) (by omega)]
theorem one_eq (b : Bool) : one b = WhI.flag b := rfl
/-- a number of its bits -/
def ofB : List Bool → Nat
  | [] => 0
  | b :: l => (if b then 1 else 0) + 2 * ofB l
theorem ofB_lt : ∀ l : List Bool, ofB l < 2 ^ l.length
  | [] => by simp [ofB]
  | b :: l => by
    have := ofB_lt l
    simp only [ofB, List.length_cons, Nat.pow_succ]
    split <;> omega
theorem ofB_bit : ∀ (l : List Bool) (i : Nat), (ofB l).testBit i = (l[i]?).getD false
  | [], i => by simp [ofB]
  | b :: l, 0 => by
    simp only [ofB, Nat.testBit_zero, List.getElem?_cons_zero, Option.getD_some]
    cases b <;> simp <;> omega
  | b :: l, i + 1 => by
    have h := ofB_bit l i
    rw [List.getElem?_cons_succ, ← h, Nat.testBit_succ]
    congr 1
    simp only [ofB]
    split <;> omega
def bI (b : Bool) : Int := if b then 1 else 0
theorem ofL_ofB : ∀ l : List Bool, l.length ≤ 32 → ofL (l.map bI) = (ofB l : Nat)
  | [], _ => rfl
  | b :: l, h => by
    simp only [List.length_cons] at h
    have ih := ofL_ofB l (by omega)
    have hlt := ofB_lt (b :: l)
    have h32 : 2 ^ (b :: l).length ≤ 2 ^ 32 := Nat.pow_le_pow_right (by decide) (by simpa using h)
    have e32 : 2 ^ 32 = 4294967296 := by decide
    have hs : ofL ((b :: l).map bI) = u32 (u32 (ofL (l.map bI) * 2) + bI b) := rfl
    rw [hs, ih]
    unfold u32
    simp only [ofB] at hlt ⊢
    have hb : bI b = ((if b then 1 else 0 : Nat) : Int) := by cases b <;> rfl
    rw [u32_id (n := (ofB l : Int) * 2) (by omega) (by split at hlt <;> omega), hb, u32_id (by split <;> omega) (by split at hlt <;> simp_all <;> omega)]
    split <;> omega
/-- what a list of bits comes to -/
theorem ofL_nat {l : List Int} {N : Nat} (hN : N < 4294967296) (h : l = (List.range 32).map fun i => bI (N.testBit i)) : ofL l = N := by
  have h2 : l = ((List.range 32).map fun i => N.testBit i).map bI := by rw [h, List.map_map]; rfl
  have h3 : ofB ((List.range 32).map fun i => N.testBit i) = N := by
    apply Nat.eq_of_testBit_eq
    intro i
    rw [ofB_bit]
    rcases Nat.lt_or_ge i 32 with hi | hi
    · rw [List.getElem?_eq_getElem (by simpa using hi), List.getElem_map, List.getElem_range]
      rfl
    · have e32 : (4294967296 : Nat) = 2 ^ 32 := by decide
      have : N.testBit i = false := Nat.testBit_lt_two_pow (Nat.lt_of_lt_of_le (e32 ▸ hN) (Nat.pow_le_pow_right (by decide) hi))
      rw [this, List.getElem?_eq_none (by simpa using hi)]
      rfl
  rw [h2, ofL_ofB _ (by simp), h3]
theorem bit_nat' {n k : Nat} (hn : n < 4294967296) (hk : k < 32) : bit (n : Int) (k : Int) = bI (n.testBit k) := by
  unfold bit
  rw [if_neg (by omega), WhB.bit_nat hn hk]
  rfl
theorem xor_nat {a b : Nat} (ha : a < 4294967296) (hb : b < 4294967296) : bits .xor .u32 a b = ((a ^^^ b : Nat) : Int) := by
  have h1 : a ^^^ b < 2 ^ 32 := Nat.xor_lt_two_pow ha hb
  show IntKind.u32.wrap (((BitVec.ofInt 32 (a : Int) ^^^ BitVec.ofInt 32 (b : Int)).toNat : Nat) : Int) = _
  rw [ofInt_nat, ofInt_nat, BitVec.toNat_xor, toNat_ofNat ha, toNat_ofNat hb, wrap_nat h1]
theorem bitsL_nat {op : Int} {a b N : Nat} (ha : a < 4294967296) (hb : b < 4294967296) (hN : N < 4294967296) (h : ∀ i, i < 32 → bitOp op (bI (a.testBit i)) (bI (b.testBit i)) = bI (N.testBit i)) : bitsF op a b = N := by
  refine ofL_nat hN ?_
  unfold bitsL
  apply List.map_congr_left
  intro i hi
  have hi := List.mem_range.1 hi
  rw [bit_nat' ha hi, bit_nat' hb hi, h i hi]
theorem bitOp_and (x y : Bool) : bitOp 36 (bI x) (bI y) = bI (x && y) := by cases x <;> cases y <;> decide
theorem bitOp_or (x y : Bool) : bitOp 35 (bI x) (bI y) = bI (x || y) := by cases x <;> cases y <;> decide
theorem bitOp_xor (x y : Bool) : bitOp 32 (bI x) (bI y) = bI (x ^^ y) := by cases x <;> cases y <;> decide
theorem shift_nat {a N : Nat} {s ab : Int} (ha : a < 4294967296) (hN : N < 4294967296) (h : ∀ i : Nat, i < 32 → (if 31 < (i : Int) - s then ab else bit (a : Int) ((i : Int) - s)) = bI (N.testBit i)) : shift a s ab = N := by
  refine ofL_nat hN ?_
  unfold shiftL
  apply List.map_congr_left
  intro i hi
  exact h i (List.mem_range.1 hi)
theorem bit_neg {a k : Int} (h : k < 0) : bit a k = 0 := by unfold bit; rw [if_pos (.inl h)]
theorem sll_nat {a k : Nat} (ha : a < 4294967296) (hk : k < 32) : shift a (k : Int) 0 = ((a * 2 ^ k % 4294967296 : Nat) : Int) := by
  have e : 4294967296 = 2 ^ 32 := by decide
  refine shift_nat ha (Nat.mod_lt _ (by decide)) fun i hi => ?_
  rw [if_neg (by omega), e, Nat.testBit_mod_two_pow, Nat.mul_comm, Nat.testBit_two_pow_mul]
  rcases Nat.lt_or_ge i k with h | h
  · rw [bit_neg (by omega)]
    simp [Nat.not_le.2 h, bI]
  · have : (i : Int) - k = ((i - k : Nat) : Int) := by omega
    rw [this, bit_nat' ha (by omega)]
    simp [hi, h]
theorem srl_nat {a k : Nat} {ab : Int} (ha : a < 4294967296) (hk : k < 32) (N : Nat) (hN : N < 4294967296) (hb : ∀ i : Nat, i < 32 → N.testBit i = if 31 < i + k then decide (ab = 1) else a.testBit (i + k)) (hab : ab = 0 ∨ ab = 1) : shift a (-(k : Int)) ab = N := by
  refine shift_nat ha hN fun i hi => ?_
  rw [hb i hi]
  have e : (i : Int) - -(k : Int) = ((i + k : Nat) : Int) := by omega
  rw [e]
  by_cases h : 31 < i + k
  · rw [if_pos (by omega), if_pos h]
    rcases hab with rfl | rfl <;> rfl
  · rw [if_neg (by omega), if_neg h, bit_nat' ha (by omega)]
theorem and31_nat {b : Nat} (hb : b < 4294967296) : bits .and .u32 (b : Int) 31 = ((b % 32 : Nat) : Int) := by
  rw [show (31 : Int) = ((31 : Nat) : Int) from rfl, WhB.and_nat hb (by decide)]
  congr 1
  exact Nat.and_two_pow_sub_one_eq_mod b 5
theorem halves_nat {a b : Nat} (ha : a < 4294967296) (hb : b < 4294967296) : halves a b = ((a * b / 4294967296 : Nat) : Int) := by
  have key : ∀ al ah bl bh : Nat, al < 65536 → ah < 65536 → bl < 65536 → bh < 65536 →
      al * bl < 4294967296 ∧ ah * bl < 4294967296 ∧ al * bh < 4294967296 ∧ ah * bh ≤ 4294836225 := by
    intro al ah bl bh h1 h2 h3 h4
    have e : ∀ x y : Nat, x < 65536 → y < 65536 → x * y ≤ 65535 * 65535 := fun x y hx hy => Nat.mul_le_mul (by omega) (by omega)
    have := e _ _ h1 h3; have := e _ _ h2 h3; have := e _ _ h1 h4; have := e _ _ h2 h4
    omega
  obtain ⟨q1, q2, q3, q4⟩ := key (a % 65536) (a / 65536) (b % 65536) (b / 65536) (by omega) (by omega) (by omega) (by omega)
  have hab : a * b = (a / 65536 * (b / 65536)) * 4294967296 + ((a / 65536) * (b % 65536) + (a % 65536) * (b / 65536)) * 65536 + (a % 65536) * (b % 65536) := by
    have e1 : a = 65536 * (a / 65536) + a % 65536 := (Nat.div_add_mod a 65536).symm
    have e2 : b = 65536 * (b / 65536) + b % 65536 := (Nat.div_add_mod b 65536).symm
    generalize a / 65536 = x at *
    generalize a % 65536 = y at *
    generalize b / 65536 = z at *
    generalize b % 65536 = t at *
    subst e1 e2
    simp only [Nat.mul_add, Nat.add_mul]
    have h1 : 65536 * x * (65536 * z) = x * z * 4294967296 := by
      rw [Nat.mul_assoc, Nat.mul_comm x, Nat.mul_assoc 65536 z x, ← Nat.mul_assoc, Nat.mul_comm z x]
      omega
    have h2 : 65536 * x * t = x * t * 65536 := by rw [Nat.mul_assoc, Nat.mul_comm]
    have h3 : y * (65536 * z) = y * z * 65536 := by rw [← Nat.mul_assoc, Nat.mul_comm y, Nat.mul_assoc, Nat.mul_comm]
    omega
  have c1 : ((a : Int).tmod 65536) = ((a % 65536 : Nat) : Int) := by rw [Int.tmod_eq_emod_of_nonneg (by omega)]; omega
  have c2 : ((a : Int).tdiv 65536) = ((a / 65536 : Nat) : Int) := by rw [Int.tdiv_eq_ediv_of_nonneg (by omega)]; omega
  have c3 : ((b : Int).tmod 65536) = ((b % 65536 : Nat) : Int) := by rw [Int.tmod_eq_emod_of_nonneg (by omega)]; omega
  have c4 : ((b : Int).tdiv 65536) = ((b / 65536 : Nat) : Int) := by rw [Int.tdiv_eq_ediv_of_nonneg (by omega)]; omega
  simp only [halves, c1, c2, c3, c4, u64, u32]
  have w1 : ∀ n : Nat, n < 18446744073709551616 → IntKind.u64.wrap (n : Int) = n := fun n h => u64_id (by omega) (by omega)
  have w2 : ∀ n : Nat, n < 4294967296 → IntKind.u32.wrap (n : Int) = n := fun n h => u32_id (by omega) (by omega)
  have td : ∀ n m : Nat, ((n : Int).tdiv (m : Int)) = ((n / m : Nat) : Int) := fun n m => by rw [Int.tdiv_eq_ediv_of_nonneg (by omega)]; simp
  have tm : ∀ n m : Nat, ((n : Int).tmod (m : Int)) = ((n % m : Nat) : Int) := fun n m => by rw [Int.tmod_eq_emod_of_nonneg (by omega)]; simp
  have c65 : (65536 : Int) = ((65536 : Nat) : Int) := rfl
  have hlt : a * b < 18446744073709551616 := by have := Nat.mul_lt_mul'' ha hb; omega
  rw [hab] at hlt ⊢
  generalize hx : a / 65536 = x at *
  generalize hy : a % 65536 = y at *
  generalize hz : b / 65536 = z at *
  generalize ht : b % 65536 = t at *
  rw [w2 x (by omega), w2 z (by omega), w1 x (by omega), w1 y (by omega), w1 z (by omega), w1 t (by omega)]
  rw [← Int.natCast_mul, ← Int.natCast_mul, ← Int.natCast_mul, ← Int.natCast_mul]
  generalize y * t = p4 at *
  generalize x * t = p2 at *
  generalize y * z = p3 at *
  generalize x * z = p1 at *
  rw [w1 p4 (by omega), w1 p2 (by omega), w1 p3 (by omega), w1 p1 (by omega), c65]
  simp (disch := omega) only [w1, w2, td, tm, ← Int.natCast_add]
  congr 1
  omega
theorem bit_srl {a k : Nat} (ha : a < 4294967296) (hk : k < 32) : shift a (-(k : Int)) 0 = ((a / 2 ^ k : Nat) : Int) := by
  have hl : a / 2 ^ k < 4294967296 := Nat.lt_of_le_of_lt (Nat.div_le_self _ _) ha
  refine srl_nat ha hk _ hl (fun i hi => ?_) (.inl rfl)
  rw [Nat.testBit_div_two_pow]
  split
  · have e32 : (4294967296 : Nat) = 2 ^ 32 := by decide
    rw [Nat.add_comm]
    exact Nat.testBit_lt_two_pow (Nat.lt_of_lt_of_le (e32 ▸ ha) (Nat.pow_le_pow_right (by decide) (by omega)))
  · rw [Nat.add_comm]
theorem fdiv_nat (a k : Nat) : ((a : Int).fdiv (2 ^ k)) = ((a / 2 ^ k : Nat) : Int) := by
  rw [Int.fdiv_eq_ediv_of_nonneg _ (Int.le_of_lt (Int.pow_pos (by decide)))]
  simp
theorem bit31 {a : Nat} (ha : a < 4294967296) : bit (a : Int) 31 = if 2147483648 ≤ a then 1 else 0 := by
  rw [show (31 : Int) = ((31 : Nat) : Int) from rfl, bit_nat' ha (by decide), Nat.testBit_eq_decide_div_mod_eq]
  have e : 2 ^ 31 = 2147483648 := by decide
  rw [e]
  unfold bI
  split <;> split <;> simp_all <;> omega
theorem sra_nat {a k : Nat} (ha : a < 4294967296) (hk : k < 32) : shift a (-(k : Int)) (bit a 31) = IntKind.u32.wrap ((IntKind.i32.wrap (a : Int)).fdiv (2 ^ k)) := by
  have hp : (0 : Int) < 2 ^ k := Int.pow_pos (by decide)
  rw [i32_eq (by omega) (by omega), bit31 ha, u32_mod]
  by_cases h : 2147483648 ≤ a
  · rw [if_pos h, if_pos (by omega)]
    have hpk : 0 < 2 ^ k := Nat.two_pow_pos k
    have hs : 2 ^ k * 2 ^ (32 - k) = 4294967296 := by rw [← Nat.pow_add, show k + (32 - k) = 32 by omega]
    have hd : a / 2 ^ k < 2 ^ (32 - k) := Nat.div_lt_of_lt_mul (by rw [hs]; exact ha)
    have hm : (2 ^ k - 1) * 2 ^ (32 - k) + 2 ^ (32 - k) = 4294967296 := by
      rw [← hs, Nat.sub_mul, Nat.one_mul]
      have : 2 ^ (32 - k) ≤ 2 ^ k * 2 ^ (32 - k) := Nat.le_mul_of_pos_left _ hpk
      omega
    have hN : 2 ^ (32 - k) * (2 ^ k - 1) + a / 2 ^ k < 4294967296 := by rw [Nat.mul_comm]; omega
    have hfd : ((a : Int) - 4294967296).fdiv (2 ^ k) = ((a / 2 ^ k : Nat) : Int) - ((2 ^ (32 - k) : Nat) : Int) := by
      rw [Int.fdiv_eq_ediv_of_nonneg _ (Int.le_of_lt hp)]
      have e : ((a : Int) - 4294967296) = (a : Int) + (2 ^ k) * (-((2 ^ (32 - k) : Nat) : Int)) := by
        have : ((2 ^ k : Nat) : Int) * ((2 ^ (32 - k) : Nat) : Int) = 4294967296 := by rw [← Int.natCast_mul, hs]; rfl
        have e2 : ((2 ^ k : Nat) : Int) = (2 : Int) ^ k := by simp
        rw [e2] at this
        rw [Int.mul_neg, this]
        omega
      rw [e, Int.add_mul_ediv_left _ _ (by omega)]
      have e3 : (a : Int) / 2 ^ k = ((a / 2 ^ k : Nat) : Int) := by simp
      rw [e3]
      omega
    have hx := srl_nat (ab := 1) ha hk (2 ^ (32 - k) * (2 ^ k - 1) + a / 2 ^ k) hN (fun i hi => by
      rw [Nat.testBit_two_pow_mul_add _ hd]
      by_cases hi2 : i < 32 - k
      · rw [if_pos hi2, if_neg (by omega), Nat.testBit_div_two_pow, Nat.add_comm]
      · rw [if_neg hi2, if_pos (by omega), Nat.testBit_two_pow_sub_one]
        simp
        omega) (.inr rfl)
    rw [hx, hfd]
    have hm2 : 2 ^ (32 - k) * (2 ^ k - 1) + 2 ^ (32 - k) = 4294967296 := by rw [Nat.mul_comm]; exact hm
    clear hx hfd hm hs
    generalize a / 2 ^ k = q at *
    generalize 2 ^ (32 - k) * (2 ^ k - 1) = u at *
    generalize 2 ^ (32 - k) = r at *
    omega
  · rw [if_neg h, if_neg (by omega), bit_srl ha hk, fdiv_nat]
    have hl : a / 2 ^ k < 4294967296 := Nat.lt_of_le_of_lt (Nat.div_le_self _ _) ha
    generalize a / 2 ^ k = q at *
    omega
/-- what i32 tells -/
theorem i32_rng {a : Int} (h0 : 0 ≤ a) (h1 : a < 4294967296) : -2147483648 ≤ IntKind.i32.wrap a ∧ IntKind.i32.wrap a < 2147483648 := by
  rw [i32_eq h0 h1]
  split <;> omega
theorem mul_bnd {x y X Y : Int} (h1 : -X ≤ x) (h2 : x ≤ X) (h3 : -Y ≤ y) (h4 : y ≤ Y) : -(X * Y) ≤ x * y ∧ x * y ≤ X * Y := by
  have hX : 0 ≤ X := by omega
  have hY : 0 ≤ Y := by omega
  have h : (x * y).natAbs ≤ (X * Y).natAbs := by
    rw [Int.natAbs_mul, Int.natAbs_mul]
    exact Nat.mul_le_mul (by omega) (by omega)
  have : 0 ≤ X * Y := Int.mul_nonneg hX hY
  omega
theorem high_eq {op a b : Int} (ha : 0 ≤ a ∧ a < 4294967296) (hb : 0 ≤ b ∧ b < 4294967296) (ho : op = 38 ∨ op = 39 ∨ op = 40) : high op a b = WhI.high op a b := by
  obtain ⟨m, rfl⟩ : ∃ m : Nat, a = m := ⟨a.toNat, by omega⟩
  obtain ⟨n, rfl⟩ : ∃ n : Nat, b = n := ⟨b.toNat, by omega⟩
  have hm : m < 4294967296 := by omega
  have hn : n < 4294967296 := by omega
  have e32 : (2 : Int) ^ 32 = 4294967296 := by decide
  have hlt : m * n < 18446744073709551616 := by have := Nat.mul_lt_mul'' hm hn; omega
  unfold high WhI.high
  simp only [halves_nat hm hn, u32, WhI.i32, WhI.u32]
  rw [e32, i64_id (n := (m : Int)) (by omega) (by omega), i64_id (n := (n : Int)) (by omega) (by omega), u64_id (n := (m : Int)) (by omega) (by omega), u64_id (n := (n : Int)) (by omega) (by omega), ← Int.natCast_mul, u64_id (n := ((m * n : Nat) : Int)) (by omega) (by omega)]
  have hmr := i32_rng ha.1 ha.2
  have hnr := i32_rng hb.1 hb.2
  rw [i64_id (n := IntKind.i32.wrap (m : Int)) (by omega) (by omega), i64_id (n := IntKind.i32.wrap (n : Int)) (by omega) (by omega)]
  have hfd : ∀ z : Int, z.fdiv 4294967296 = z / 4294967296 := fun z => Int.fdiv_eq_ediv_of_nonneg _ (by decide)
  simp only [hfd]
  have hmi := i32_eq ha.1 ha.2
  have hni := i32_eq hb.1 hb.2
  rcases ho with rfl | rfl | rfl
  · simp only [show ((38 : Int) = 40) = False by decide, show ((39 : Int) = 40) = False by decide, show ((39 : Int) = 38) = False by decide, show ((40 : Int) = 38) = False by decide, show ((40 : Int) = 39) = False by decide, show ((38 : Int) = 39) = False by decide, ne_eq, not_false_eq_true, not_true_eq_false, true_and, false_and, if_true, if_false]
    have hb1 := mul_bnd (x := IntKind.i32.wrap (m : Int)) (y := IntKind.i32.wrap (n : Int)) (X := 2147483648) (Y := 2147483648) (by omega) (by omega) (by omega) (by omega)
    rw [i64_id (by omega) (by omega), u32_mod]
    rw [hmi, hni]
    simp only [u32_mod]
    by_cases h1 : 2147483648 ≤ (m : Int) <;> by_cases h2 : 2147483648 ≤ (n : Int)
    · rw [if_pos h1, if_pos h1, if_pos h2, if_pos h2]
      have e : ((m : Int) - 4294967296) * ((n : Int) - 4294967296) = ((m * n : Nat) : Int) + 4294967296 * (4294967296 - m - n) := by
        rw [Int.natCast_mul]; simp only [Int.sub_mul, Int.mul_sub]; omega
      rw [e]
      generalize m * n = q at *
      omega
    · rw [if_pos h1, if_pos h1, if_neg h2, if_neg h2]
      have e : ((m : Int) - 4294967296) * (n : Int) = ((m * n : Nat) : Int) + 4294967296 * (-n) := by
        rw [Int.natCast_mul]; simp only [Int.sub_mul]; omega
      rw [e]
      generalize m * n = q at *
      omega
    · rw [if_neg h1, if_neg h1, if_pos h2, if_pos h2]
      have e : (m : Int) * ((n : Int) - 4294967296) = ((m * n : Nat) : Int) + 4294967296 * (-m) := by
        rw [Int.natCast_mul]; simp only [Int.mul_sub]; omega
      rw [e]
      generalize m * n = q at *
      omega
    · rw [if_neg h1, if_neg h1, if_neg h2, if_neg h2, ← Int.natCast_mul]
      generalize m * n = q at *
      omega
  · simp only [show ((38 : Int) = 40) = False by decide, show ((39 : Int) = 40) = False by decide, show ((39 : Int) = 38) = False by decide, show ((40 : Int) = 38) = False by decide, show ((40 : Int) = 39) = False by decide, show ((38 : Int) = 39) = False by decide, ne_eq, not_false_eq_true, not_true_eq_false, true_and, false_and, if_true, if_false]
    have hb1 := mul_bnd (x := IntKind.i32.wrap (m : Int)) (y := (n : Int)) (X := 2147483648) (Y := 4294967295) (by omega) (by omega) (by omega) (by omega)
    rw [i64_id (by omega) (by omega), u32_mod]
    rw [hmi]
    simp only [u32_mod]
    by_cases h1 : 2147483648 ≤ (m : Int)
    · rw [if_pos h1, if_pos h1]
      have e : ((m : Int) - 4294967296) * (n : Int) = ((m * n : Nat) : Int) + 4294967296 * (-n) := by
        rw [Int.natCast_mul]; simp only [Int.sub_mul]; omega
      rw [e]
      generalize m * n = q at *
      omega
    · rw [if_neg h1, if_neg h1, ← Int.natCast_mul]
      generalize m * n = q at *
      omega
  · simp only [show ((38 : Int) = 40) = False by decide, show ((39 : Int) = 40) = False by decide, show ((39 : Int) = 38) = False by decide, show ((40 : Int) = 38) = False by decide, show ((40 : Int) = 39) = False by decide, show ((38 : Int) = 39) = False by decide, ne_eq, not_false_eq_true, not_true_eq_false, true_and, false_and, if_true, if_false]
    rw [u32_mod]
    generalize m * n = q at *
    omega
theorem div_eq {op a b : Int} (ha : 0 ≤ a ∧ a < 4294967296) (hb : 0 ≤ b ∧ b < 4294967296) (ho : op = 41 ∨ op = 42 ∨ op = 43 ∨ op = 44) : div op a b = WhI.divided op a b := by
  unfold div WhI.divided
  by_cases h0 : b = 0
  · simp only [h0, if_true]
  simp only [if_neg h0]
  have hma := i32_rng ha.1 ha.2
  have hmb := i32_rng hb.1 hb.2
  have hb0 : IntKind.i32.wrap b ≠ 0 := WhI.wrap_ne hb.1 hb.2 h0
  have hq : ∀ x y : Int, x.tdiv y * y = x - x.tmod y := fun x y => by have := Int.tmod_add_tdiv_mul x y; omega
  have hqa : ∀ x y : Int, (x.tdiv y).natAbs ≤ x.natAbs := fun x y => by rw [Int.natAbs_tdiv]; exact Nat.div_le_self _ _
  have hra : ∀ x y : Int, (x.tmod y).natAbs ≤ x.natAbs := fun x y => by rw [Int.natAbs_tmod]; exact Nat.mod_le _ _
  have hub : ∀ x y : Int, -4294967296 < x → x < 4294967296 → -4294967296 < y → y < 4294967296 → i64 (x - i64 (i64 (x.tdiv y) * y)) = x.tmod y ∧ i64 (x.tdiv y) = x.tdiv y := by
    intro x y h1 h2 h3 h4
    have h5 := hqa x y
    have h6 := hra x y
    have e1 : i64 (x.tdiv y) = x.tdiv y := i64_id (by omega) (by omega)
    have e2 : i64 (x.tdiv y * y) = x - x.tmod y := by rw [hq]; exact i64_id (by omega) (by omega)
    rw [e1, e2]
    refine ⟨?_, rfl⟩
    rw [show x - (x - x.tmod y) = x.tmod y by omega]
    exact i64_id (by omega) (by omega)
  have e64 : i64 a = a := i64_id (by omega) (by omega)
  have f64 : i64 b = b := i64_id (by omega) (by omega)
  have wtm : ∀ x y : Int, IntKind.u32.wrap (x.tmod y) = IntKind.u32.wrap (x.tmod y) := fun _ _ => rfl
  have hspec : a = 2147483648 ∧ b = 4294967295 → IntKind.i32.wrap a = -2147483648 ∧ IntKind.i32.wrap b = -1 := by
    rintro ⟨rfl, rfl⟩
    exact ⟨by decide, by decide⟩
  rcases ho with rfl | rfl | rfl | rfl
  · simp only [num_eq ha.1 ha.2, num_eq hb.1 hb.2, u32, WhI.i32, WhI.u32]
    simp
    rw [(hub _ _ (by omega) (by omega) (by omega) (by omega)).2]
    split
    · rename_i h
      obtain ⟨e1, e2⟩ := hspec h
      rw [e1, e2, h.1]
      decide
    · rename_i h
      have h5 := hqa (IntKind.i32.wrap a) (IntKind.i32.wrap b)
      simp only [u32_mod]
      have : ∀ z : Int, (IntKind.i32.wrap z) % 4294967296 = z % 4294967296 := by
        intro z
        have e : (2 : Int) ^ 32 = 4294967296 := by decide
        have e2 : (2 : Int) ^ 31 = 2147483648 := by decide
        simp only [IntKind.wrap, IntKind.bits, IntKind.signed, e, Bool.true_and]
        simp
        split <;> omega
      rw [this]
  · simp only [u32, WhI.i32, WhI.u32]
    simp
    rw [e64, f64, (hub _ _ (by omega) (by omega) (by omega) (by omega)).2]
  · simp only [num_eq ha.1 ha.2, num_eq hb.1 hb.2, u32, WhI.i32, WhI.u32]
    simp
    rw [(hub _ _ (by omega) (by omega) (by omega) (by omega)).1]
    split
    · rename_i h
      obtain ⟨e1, e2⟩ := hspec h
      rw [e1, e2]
      decide
    · rfl
  · simp only [u32, WhI.i32, WhI.u32]
    simp
    rw [e64, f64, (hub _ _ (by omega) (by omega) (by omega) (by omega)).1, u32_mod]
    have h6 : 0 ≤ a.tmod b := Int.tmod_nonneg _ ha.1
    have h7 := hra a b
    omega
/-- the document's reckoning is the code's -/
theorem rdo_wdo {op a b : Int} (ha : 0 ≤ a ∧ a < 4294967296) (hb : 0 ≤ b ∧ b < 4294967296) : rdo op a b = WhI.wdo op a b := by
  obtain ⟨m, rfl⟩ : ∃ m : Nat, a = m := ⟨a.toNat, by omega⟩
  obtain ⟨n, rfl⟩ : ∃ n : Nat, b = n := ⟨b.toNat, by omega⟩
  have hm : m < 4294967296 := by omega
  have hn : n < 4294967296 := by omega
  have hs : i64 ((n : Int).tmod 32) = ((n % 32 : Nat) : Int) := by
    rw [Int.tmod_eq_emod_of_nonneg (by omega)]
    show IntKind.i64.wrap _ = _
    rw [i64_id (by omega) (by omega)]
    omega
  have hns : i64 (0 - ((n % 32 : Nat) : Int)) = -((n % 32 : Nat) : Int) := by
    show IntKind.i64.wrap _ = _
    rw [i64_id (by omega) (by omega)]
    omega
  have hk : n % 32 < 32 := Nat.mod_lt _ (by decide)
  have hmin : min ((n % 32 : Nat) : Int).toNat 32 = n % 32 := by simp; omega
  unfold rdo WhI.wdo
  simp only [hs, hns, and31_nat hn, hmin]
  by_cases h27 : op = 27
  · simp [h27]
  by_cases h28 : op = 28
  · simp [h28]
  by_cases h36 : op = 36
  · have := bitsL_nat (op := 36) hm hn (Nat.and_lt_two_pow m hn : m &&& n < 2 ^ 32) (fun i _ => by rw [bitOp_and, Nat.testBit_and])
    simp [h36, this, WhB.and_nat hm hn]
  by_cases h35 : op = 35
  · have := bitsL_nat (op := 35) hm hn (Nat.or_lt_two_pow hm hn : m ||| n < 2 ^ 32) (fun i _ => by rw [bitOp_or, Nat.testBit_or])
    simp [h35, this, WhB.or_nat hm hn]
  by_cases h32 : op = 32
  · have := bitsL_nat (op := 32) hm hn (Nat.xor_lt_two_pow hm hn : m ^^^ n < 2 ^ 32) (fun i _ => by rw [bitOp_xor, Nat.testBit_xor])
    simp [h32, this, xor_nat hm hn]
  rw [if_neg h27, if_neg h28, if_neg (by omega), if_neg h27, if_neg h28, if_neg h36, if_neg h35, if_neg h32]
  by_cases h29 : op = 29
  · rw [if_pos h29, if_pos h29, sll_nat hm hk]
    have : ((2 ^ (n % 32) : Nat) : Int) = (2 : Int) ^ (n % 32) := by simp
    rw [WhI.u32, u32_mod, ← this, ← Int.natCast_mul]
    simp
  by_cases h33 : op = 33
  · rw [if_neg h29, if_pos h33, if_neg h29, if_pos h33, bit_srl hm hk, fdiv_nat]
  by_cases h34 : op = 34
  · rw [if_neg h29, if_neg h33, if_pos h34, if_neg h29, if_neg h33, if_pos h34, sra_nat hm hk]
  rw [if_neg h29, if_neg h33, if_neg h34, if_neg h29, if_neg h33, if_neg h34]
  by_cases h30 : op = 30
  · rw [if_pos h30, if_pos h30, num_eq ha.1 ha.2, num_eq hb.1 hb.2]
    rfl
  by_cases h31 : op = 31
  · rw [if_neg h30, if_pos h31, if_neg h30, if_pos h31]
    rfl
  by_cases h37 : op = 37
  · rw [if_neg h30, if_neg h31, if_pos h37, if_neg h30, if_neg h31, if_pos h37]
  rw [if_neg h30, if_neg h31, if_neg h37, if_neg h30, if_neg h31, if_neg h37]
  by_cases hh : op = 38 ∨ op = 39 ∨ op = 40
  · have hh2 : op = 38 ∨ op = 40 ∨ op = 39 := by omega
    rw [if_pos hh, if_pos hh2, high_eq ha hb hh]
  have hh2 : ¬ (op = 38 ∨ op = 40 ∨ op = 39) := by omega
  rw [if_neg hh, if_neg hh2]
  by_cases hd : op = 41 ∨ op = 42 ∨ op = 43 ∨ op = 44
  · rw [if_pos hd, if_pos hd, div_eq ha hb hd]
  · rw [if_neg hd, if_neg hd]
end Wh.WhR
namespace Wh
open Go
section
variable {P : Program} {n : Nat} {f : Fr} {w : World} {o : Oper}
def kv (k : IntKind) (a : Int) : Value := .int k a
/-- an array of whole numbers -/
class AI (P : Program) (t : TypeId) (len : outParam Nat) (k : outParam IntKind) : Prop where
  eq : (match P.underlying t with | some (.array m e) => m == len && P.cellsOf e == 1 && (match P.underlying e with | some (.int k') => k == k' | _ => false) && (P.info? e).isSome | _ => false) = true
  grd : P.eqGuardType P.depth t = false
theorem run_equalIn_AI (d : Nat) {t : TypeId} {len : Nat} {k : IntKind} (h : AI P t len k) (xs ys : List Int) (hx : xs.length = len) (hy : ys.length = len) :
    (Op.equalIn (d + 2) t (.agg (xs.map (kv k)).toArray) (.agg (ys.map (kv k)).toArray)).run P w = .ok (decide (xs = ys)) w := by
  have he := h.eq
  cases hu : P.underlying t with
  | none => rw [hu] at he; simp at he
  | some dd =>
    rw [hu] at he
    cases dd <;> simp only [Bool.false_eq_true] at he
    rename_i m e
    simp only [Bool.and_eq_true, beq_iff_eq, Option.isSome_iff_exists] at he
    obtain ⟨⟨⟨rfl, hc⟩, hk⟩, i, hi⟩ := he
    have hue : P.underlying e = some (.int k) := by
      cases hue : P.underlying e with
      | none => rw [hue] at hk; simp at hk
      | some de => rw [hue] at hk; cases de <;> simp at hk; subst hk; rfl
    rw [show d + 2 = (d + 1) + 1 from rfl, run_equalIn_array w (d + 1) _ _ hu hi, hc]
    have key : ∀ (q : Nat) (l : List Nat), (∀ j ∈ l, j < m) → (Op.eqItems (d + 1) e 1 (xs.map (kv k)).toArray (ys.map (kv k)).toArray l).run P w = .ok (l.all fun j => decide (xs[j]? = ys[j]?)) w := by
      intro q l
      induction l with
      | nil => intro _; simp [Op.eqItems]
      | cons j l ih =>
        intro hl
        have hj := hl j List.mem_cons_self
        have px : (part e (xs.map (kv k)).toArray (j * 1)).run P w = .ok (kv k (xs[j]'(by omega))) w := by
          simp [part, isAgg, run_underlying hue, List.getElem?_eq_getElem (show j < xs.length by omega)]
        have py : (part e (ys.map (kv k)).toArray (j * 1)).run P w = .ok (kv k (ys[j]'(by omega))) w := by
          simp [part, isAgg, run_underlying hue, List.getElem?_eq_getElem (show j < ys.length by omega)]
        have pe : (Op.equalIn (d + 1) e (kv k (xs[j]'(by omega))) (kv k (ys[j]'(by omega)))).run P w = .ok (decide (xs[j]? = ys[j]?)) w := by
          unfold kv
          rw [run_equalIn_int w d e k k _ _ hue]
          rw [List.getElem?_eq_getElem (show j < xs.length by omega), List.getElem?_eq_getElem (show j < ys.length by omega)]
          congr 1
          rw [Bool.eq_iff_iff]
          simp
        simp only [Op.eqItems, Sem.run_bind, px, py, pe, Result.andThen_ok, List.all_cons]
        cases hb : decide (xs[j]? = ys[j]?)
        · simp
        · simp only [Bool.true_and]
          have := ih (fun q hq => hl q (List.mem_cons_of_mem _ hq))
          simpa using this
    rw [key 0 (List.range m) (fun j hj => List.mem_range.1 hj)]
    congr 1
    rw [Bool.eq_iff_iff]
    simp only [List.all_eq_true, List.mem_range, decide_eq_true_eq]
    constructor
    · intro h2
      apply List.ext_getElem?
      intro j
      rcases Nat.lt_or_ge j m with hj | hj
      · exact h2 j hj
      · rw [List.getElem?_eq_none (by omega), List.getElem?_eq_none (by omega)]
    · intro h2 j _
      rw [h2]
theorem r_eqA {t t2 : TypeId} {x y : Operand} {len : Nat} {k : IntKind} {a b : Array Value} (xs ys : List Int) (ho : o.op = .binOp .eql t x y t2 := by rfl) (hx : ev n f x = .agg a := by rfl) (hy : ev n f y = .agg b := by rfl) (h : AI P t len k := by infer_instance) (hxl : xs.length = len) (hyl : ys.length = len) (ha : a = (xs.map (kv k)).toArray := by rfl) (hb : b = (ys.map (kv k)).toArray := by rfl) :
    (execOp (ev n f) o).run P w = .ok (.value (.bool (decide (xs = ys)))) w := by
  subst ha hb
  have hg := run_eqGuard_agg (P := P) (w := w) .eql t x y (xs.map (kv k)).toArray (ys.map (kv k)).toArray h.grd
  have hb := run_eql_struct (P := P) (w := w) t (xs.map (kv k)).toArray (ys.map (kv k)).toArray
  have he := run_equalIn_AI (P := P) (w := w) 9998 h xs ys hxl hyl
  simp only [execOp, ho, hx, hy, Sem.run_bind, hg, hb, he, Result.andThen_ok, Sem.run_pure]
theorem r_neA {t t2 : TypeId} {x y : Operand} {len : Nat} {k : IntKind} {a b : Array Value} (xs ys : List Int) (ho : o.op = .binOp .neq t x y t2 := by rfl) (hx : ev n f x = .agg a := by rfl) (hy : ev n f y = .agg b := by rfl) (h : AI P t len k := by infer_instance) (hxl : xs.length = len) (hyl : ys.length = len) (ha : a = (xs.map (kv k)).toArray := by rfl) (hb : b = (ys.map (kv k)).toArray := by rfl) :
    (execOp (ev n f) o).run P w = .ok (.value (.bool (!decide (xs = ys)))) w := by
  subst ha hb
  have hg := run_eqGuard_agg (P := P) (w := w) .neq t x y (xs.map (kv k)).toArray (ys.map (kv k)).toArray h.grd
  have hb := run_neq_struct (P := P) (w := w) t (xs.map (kv k)).toArray (ys.map (kv k)).toArray
  have he := run_equalIn_AI (P := P) (w := w) 9998 h xs ys hxl hyl
  simp only [execOp, ho, hx, hy, Sem.run_bind, hg, hb, he, Result.andThen_ok, Sem.run_pure]
end
end Wh
namespace Wh
open Go
structure Clo (ops : Array Oper) (listed : Array Bool) : Prop where
  size : listed.size = ops.size
  closed : ∀ j oj, ops[j]? = some oj → lit listed j = true → ∀ e ∈ oj.after, Region.binds .any e = true → lit listed e.on = true
theorem Clo.set {ops : Array Oper} {listed : Array Bool} (c : Clo ops listed) {j : Nat} (hr : j ∈ Region.ready .any ops listed) : Clo ops (listed.setIfInBounds j true) := by
  obtain ⟨hun, oj, hoj, hall⟩ := mem_ready.1 hr
  refine ⟨by simp [c.size], fun i oi hoi hl e he hb => ?_⟩
  by_cases hij : j = i
  · subst hij
    have e1 : oj = oi := Option.some.inj (hoj.symm.trans hoi)
    subst e1
    exact getD_set_true (hall e he hb)
  · unfold lit at hl
    rw [getD_set_ne false hij] at hl
    exact getD_set_true (c.closed i oi hoi hl e he hb)
theorem clo_un {ops : Array Oper} {listed : Array Bool} (c : Clo ops listed) : ∀ (q i e : Nat), reachB ops q i e = true → lit listed i = false → lit listed e = false
  | 0, _, _, h, _ => by simp [reachB] at h
  | q + 1, i, e, h, hi => by
    have direct : ∀ k, waitsB ops k i = true → lit listed k = false := by
      intro k hk
      obtain ⟨ok, hok, ed, hed, hb, hon⟩ := waitsB_spec hk
      cases hl : lit listed k with
      | false => rfl
      | true =>
        have := c.closed k ok hok hl ed hed hb
        rw [hon, hi] at this
        cases this
    simp only [reachB, Bool.or_eq_true, List.any_eq_true, Bool.and_eq_true] at h
    rcases h with h | ⟨k, _, hk, hr⟩
    · exact direct e h
    · exact clo_un c q k e hr (direct k hk)
/-- what is known of memory behind one operation and until another one: (from, until, what) -/
abbrev Fct := Option Nat × Option Nat × (World → Prop)
def Sat (SF : List Fct) (listed : Array Bool) (w : World) : Prop := ∀ p ∈ SF, (∀ e, p.1 = some e → lit listed e = true) → (∀ e, p.2.1 = some e → lit listed e = false) → p.2.2 w
def wpAnyL (P : Program) (ops : Array Oper) (Q : Exit → Act → World → Prop) (SF : List Fct) : Nat → Array Bool → Act → World → Prop
  | 0, listed, a, w => Region.ready .any ops listed = [] ∧ Q .normal a w
  | fuel + 1, listed, a, w =>
    (Region.ready .any ops listed = [] → Q .normal a w) ∧
    ∀ i ∈ Region.ready .any ops listed, wpOp P ops Q i (fun a' w' => Sat SF (listed.setIfInBounds i true) w' ∧ wpAnyL P ops Q SF fuel (listed.setIfInBounds i true) a' w') a w
theorem wpAny_of_L {P : Program} {ops : Array Oper} {Q : Exit → Act → World → Prop} {SF : List Fct} : ∀ (fuel : Nat) (listed : Array Bool) (a : Act) (w : World), wpAnyL P ops Q SF fuel listed a w → wpAny P .any ops Q fuel listed a w
  | 0, _, _, _, h => h
  | fuel + 1, _, _, _, h => ⟨h.1, fun i hi => wpOp_mono (fun a' w' h' => wpAny_of_L fuel _ a' w' h'.2) (h.2 i hi)⟩
theorem lit_set_ne {listed : Array Bool} {i e : Nat} (h : i ≠ e) : lit (listed.setIfInBounds i true) e = lit listed e := getD_set_ne false h
theorem Sat.unset {SF : List Fct} {listed : Array Bool} {w : World} {i : Nat} (hi : ∀ p ∈ SF, p.1 ≠ some i ∧ p.2.1 ≠ some i) (h : Sat SF (listed.setIfInBounds i true) w) : Sat SF listed w := by
  intro p hp h1 h2
  refine h p hp (fun e he => ?_) (fun e he => ?_)
  · rw [lit_set_ne (fun x => (hi p hp).1 (by rw [he, x]))]; exact h1 e he
  · rw [lit_set_ne (fun x => (hi p hp).2 (by rw [he, x]))]; exact h2 e he
theorem Sat.set {SF : List Fct} {listed : Array Bool} {w : World} {i : Nat} (hi : ∀ p ∈ SF, p.1 ≠ some i ∧ p.2.1 ≠ some i) (h : Sat SF listed w) : Sat SF (listed.setIfInBounds i true) w := by
  intro p hp h1 h2
  refine h p hp (fun e he => ?_) (fun e he => ?_)
  · have := h1 e he; rwa [lit_set_ne (fun x => (hi p hp).1 (by rw [he, x]))] at this
  · have := h2 e he; rwa [lit_set_ne (fun x => (hi p hp).2 (by rw [he, x]))] at this
/-- a quiet operation may be taken first -/
theorem wpAnyL_first {P : Program} {ops : Array Oper} {Q : Exit → Act → World → Prop} {SF : List Fct} {i : Nat} {oi : Oper} {v : Value} {S' : World → Prop} (hi : ops[i]? = some oi)
    (hsel : ∀ (j : Nat) (o : Oper) cs b, ops[j]? = some o → o.op ≠ .select cs b) (hQ : ∀ c a w, Q (.panic c) (a.put oi.dst v) w → Q (.panic c) a w) (hnf : ∀ p ∈ SF, p.1 ≠ some i ∧ p.2.1 ≠ some i) :
    ∀ (fuel : Nat) (listed : Array Bool) (a : Act) (w : World), Clo ops listed → (∀ l w, Clo ops l → (∀ e, lit listed e = true → lit l e = true) → lit l i = false → Sat SF l w → S' w) →
      (∀ j oj, ops[j]? = some oj → j ≠ i → listed.getD j true = false → (∀ e ∈ oj.after, Region.binds .any e = true → e.on ≠ i) → oi.apart ops oj = true) →
      i ∈ Region.ready .any ops listed → YieldsIf P ops S' oi v a → Sat SF listed w →
      wpAnyL P ops Q SF fuel (listed.setIfInBounds i true) (a.put oi.dst v) w → wpAnyL P ops Q SF (fuel + 1) listed a w := by
  intro fuel
  induction fuel with
  | zero =>
    intro listed a w clo hSS _ hr hy hS H
    refine ⟨fun h => (by rw [h] at hr; cases hr), fun j hj => ?_⟩
    by_cases hji : j = i
    · subst hji
      exact hy.wpOp hi (hSS listed w clo (fun _ h => h) (lit_of_unready (mem_ready.1 hr).1) hS) ⟨hS.set hnf, H⟩
    · have := ready_mono hj hji
      rw [H.1] at this
      cases this
  | succ fuel ih =>
    intro listed a w clo hSS hfree hr hy hS H
    refine ⟨fun h => (by rw [h] at hr; cases hr), fun j hj => ?_⟩
    by_cases hji : j = i
    · subst hji
      exact hy.wpOp hi (hSS listed w clo (fun _ h => h) (lit_of_unready (mem_ready.1 hr).1) hS) ⟨hS.set hnf, H⟩
    · have h1 := H.2 j (ready_mono hj hji)
      obtain ⟨hjun, oj, hoj, hall⟩ := mem_ready.1 hj
      have hiun := lit_of_unready (mem_ready.1 hr).1
      have hnot : ∀ e ∈ oj.after, Region.binds .any e = true → e.on ≠ i := fun e he hb heq => by
        have h1 := hall e he hb
        rw [heq] at h1
        unfold lit at hiun
        rw [hiun] at h1
        cases h1
      have h2 := wpOp_putIf hoj (hfree j oj hoj hji hjun hnot) (fun cs b => hsel i oi cs b hi) (fun cs b => hsel j oj cs b hoj) hQ hy h1
      have hfree' : ∀ k ok, ops[k]? = some ok → k ≠ i → (listed.setIfInBounds j true).getD k true = false →
          (∀ e ∈ ok.after, Region.binds .any e = true → e.on ≠ i) → oi.apart ops ok = true := fun k ok hk hki hun hno => by
        refine hfree k ok hk hki ?_ hno
        by_cases hjk : j = k
        · subst hjk; exact hjun
        · rw [getD_set_ne true hjk] at hun; exact hun
      refine wpOp_mono (fun a' w' h3 => ?_) h2
      have hsj : Sat SF (listed.setIfInBounds j true) w' := Sat.unset hnf (by rw [Array.setIfInBounds_comm _ _ (Ne.symm hji)] at *; exact h3.2.1)
      refine ⟨hsj, ih (listed.setIfInBounds j true) a' w' (clo.set hj) (fun l w hc hle hl hs => hSS l w hc (fun e he => ?_) hl hs) hfree' (ready_mono hr (Ne.symm hji)) h3.1 hsj ?_⟩
      · exact hle e (getD_set_true he)
      · rw [Array.setIfInBounds_comm _ _ hji]
        exact h3.2.2
section
variable {P : Program} {n : Nat} {Q : Post} {k : List Item} {f : Fr} {ds : List Deferred} {w : World}
variable {ops : Array Oper} {K : Fr → List Deferred → World → Prop} {o : Oper} {B : Nat} {w0 : World} {L : List Ck}
def EW (P : Program) (n : Nat) (ops : Array Oper) (K : Fr → List Deferred → World → Prop) (Q : Post) (SF : List Fct) (listed : Array Bool) (f : Fr) (ds : List Deferred) (w : World) : Prop :=
  Region.noSelect ops = true → (∀ ch f f' ds w, Q (.panic ch) f ds w → Q (.panic ch) f' ds w) → Clo ops listed → Sat SF listed w → ∀ fuel, (listed.toList.filter (!·)).length ≤ fuel → ∀ a, Rep a n f ds → wpAnyL P ops (postOf K Q n) SF fuel listed a w
variable {SF : List Fct} {listed : Array Bool}
theorem left_set {l : List Bool} {i : Nat} (h : l[i]? = some false) : ((l.set i true).filter (!·)).length + 1 = (l.filter (!·)).length := by
  induction l generalizing i with
  | nil => simp at h
  | cons b l ih =>
    cases i with
    | zero =>
      simp only [List.getElem?_cons_zero, Option.some.injEq] at h
      subst h
      simp
    | succ i =>
      simp only [List.getElem?_cons_succ] at h
      have := ih h
      simp only [List.set_cons_succ, List.filter_cons]
      cases b <;> simp <;> omega
theorem left_ready {i : Nat} (hr : i ∈ Region.ready .any ops listed) {fuel : Nat} (h : (listed.toList.filter (!·)).length ≤ fuel) : ∃ m, fuel = m + 1 ∧ ((listed.setIfInBounds i true).toList.filter (!·)).length ≤ m := by
  have h1 := (mem_ready.1 hr).1
  have hi : listed.toList[i]? = some false := by
    rcases Nat.lt_or_ge i listed.size with h' | h'
    · simp [h'] at h1 ⊢; exact h1
    · simp [Array.getElem?_eq_none h'] at h1
  have := left_set hi
  refine ⟨fuel - 1, by omega, ?_⟩
  rw [Array.toList_setIfInBounds]
  omega
theorem EW.nil (hr : (Region.ready .any ops listed == []) = true) (h : Sat SF listed w → K f ds w) : EW P n ops K Q SF listed f ds w := by
  intro _ _ _ hS fuel _ a ha
  have hr' : Region.ready .any ops listed = [] := by simpa using hr
  have hn : postOf K Q n .normal a w := ⟨f, ds, ha, h hS⟩
  cases fuel with
  | zero => exact ⟨hr', hn⟩
  | succ fuel => exact ⟨fun _ => hn, by rw [hr']; simp⟩
def okQ (ops : Array Oper) (listed : Array Bool) (i : Nat) : Bool := (Region.ready .any ops listed).contains i && Region.free .any ops listed i
def noF (SF : List Fct) (i : Nat) : Bool := SF.all fun p => p.1 != some i && p.2.1 != some i
theorem EW.q {i : Nat} {v : Value} {S' : World → Prop} (hok : okQ ops listed i = true) (hi : ops[i]? = some o) (hnf : noF SF i = true) (hSS : ∀ l w, Clo ops l → (∀ e, lit listed e = true → lit l e = true) → lit l i = false → Sat SF l w → S' w) (hy : Quiet P n ops S' o f v)
    (h : EW P n ops K Q SF (listed.setIfInBounds i true) (updO f o.dst v) ds w) : EW P n ops K Q SF listed f ds w := by
  intro hsel hq clo hS fuel hfuel a ha
  simp only [okQ, Bool.and_eq_true] at hok
  have hri : i ∈ Region.ready .any ops listed := by simpa using hok.1
  obtain ⟨m, rfl, hm⟩ := left_ready hri hfuel
  have hnf' : ∀ p ∈ SF, p.1 ≠ some i ∧ p.2.1 ≠ some i := by
    intro p hp
    have := List.all_eq_true.1 hnf p hp
    simpa using this
  refine wpAnyL_first hi (Region.noSelect_spec hsel) ?_ hnf' m listed a w clo hSS (Region.free_spec hi hok.2) hri ?_ hS
    (h hsel hq (clo.set hri) (hS.set hnf') m hm _ (ha.put o.dst v))
  · rintro c a' w' ⟨f', ds', hr, hqq⟩
    have hsz : a'.tmps.size = n := by
      have := hr.size
      cases hd : o.dst <;> simpa [hd, Act.put] using this
    obtain ⟨g, hg⟩ := rep_any a' n hsz
    have hde : a'.defers = ds' := by
      have := hr.defers
      cases hd : o.dst <;> simpa [hd, Act.put] using this
    exact ⟨g, ds', hde ▸ hg, hq _ _ _ _ _ hqq⟩
  · rcases hy with ⟨hg, hv⟩ | ⟨j, want, b, d, hg, hd, hn, hfd, hv⟩
    · exact .inl ⟨by simp [Region.wanted, hg], fun w' hw' => by rw [ha.eval]; exact hv w' hw'⟩
    · have hyd : yielded ops a.tmps j = some b := by
        unfold yielded
        rw [hd]
        simp only [Option.bind_some]
        rw [ha.cell d hn, hfd]
      rcases hv with ⟨e, hv⟩ | ⟨e, hv⟩
      · exact .inl ⟨by simp [Region.wanted, hg, hyd, e], fun w' hw' => by rw [ha.eval]; exact hv w' hw'⟩
      · exact .inr ⟨by simp [Region.wanted, hg, hyd, e], hv⟩
/-- no memory is needed -/
theorem EW.v {i d : Nat} {v : Value} (hok : okQ ops listed i = true) (hi : ops[i]? = some o) (hnf : noF SF i = true) (hy : Quiet P n ops (fun _ => True) o f v) (h : EW P n ops K Q SF (listed.setIfInBounds i true) (upd f d v) ds w) (hd : o.dst = some d := by rfl) : EW P n ops K Q SF listed f ds w :=
  EW.q hok hi hnf (fun _ _ _ _ _ _ => trivial) hy (by rw [hd]; exact h)
/-- a fact on memory is used: its number; what it waits for has come; what ends it waits for this operation -/
theorem EW.m {i d j : Nat} {v : Value} {S' : World → Prop} {fr un : Option Nat} (hok : okQ ops listed i = true) (hi : ops[i]? = some o) (hnf : noF SF i = true) (hj : SF[j]? = some (fr, un, S')) (hf : (match fr with | some e => lit listed e | none => true) = true) (hu : (match un with | some e => reachB ops ops.size i e | none => true) = true)
    (hy : Quiet P n ops S' o f v) (h : EW P n ops K Q SF (listed.setIfInBounds i true) (upd f d v) ds w) (hd : o.dst = some d := by rfl) : EW P n ops K Q SF listed f ds w :=
  EW.q hok hi hnf (fun l w hc hle hl hs => hs _ (List.mem_of_getElem? hj) (fun e he => hle e (by subst he; exact hf)) (fun e he => by subst he; exact clo_un hc _ _ _ hu hl)) hy (by rw [hd]; exact h)
/-- what may come now are loud ones alone: each of them -/
theorem EW.loud (i0 : Nat) (is' : List Nat) (hr : (Region.ready .any ops listed == i0 :: is') = true) (h : ∀ i ∈ i0 :: is', ∃ o, ops[i]? = some o ∧ LW P n ops (fun f ds w => Sat SF (listed.setIfInBounds i true) w ∧ EW P n ops K Q SF (listed.setIfInBounds i true) f ds w) Q [o] f ds w) : EW P n ops K Q SF listed f ds w := by
  intro hsel hq clo hS fuel hfuel a ha
  have hr' : Region.ready .any ops listed = i0 :: is' := by simpa using hr
  have hr0 : i0 ∈ Region.ready .any ops listed := by rw [hr']; exact List.mem_cons_self
  obtain ⟨m, rfl, _⟩ := left_ready hr0 hfuel
  refine ⟨fun h0 => (by rw [hr'] at h0; cases h0), fun j hj => ?_⟩
  obtain ⟨m', e, hm⟩ := left_ready hj hfuel
  obtain rfl : m = m' := by omega
  have hjr := hj
  rw [hr'] at hj
  obtain ⟨o, hi, h⟩ := h j hj
  have h1 := h a ha
  unfold wpOp
  rw [hi]
  simp only
  have go : ∀ (K' : Act → World → Prop), (∀ a w, postOf (fun f ds w => Sat SF (listed.setIfInBounds j true) w ∧ EW P n ops K Q SF (listed.setIfInBounds j true) f ds w) Q n .normal a w → K' a w) → ∀ a w,
      wpList P ops (postOf (fun f ds w => Sat SF (listed.setIfInBounds j true) w ∧ EW P n ops K Q SF (listed.setIfInBounds j true) f ds w) Q n) [o] a w →
      if Region.wanted o (yielded ops a.tmps) = true then o.wp P a w K' (postOf K Q n) ∨ (o.asks P a w ∧ LetsOut (postOf K Q n)) else K' (a.put o.dst undef) w := by
    intro K' hK a w h
    unfold wpList at h
    split
    · rename_i hw
      rw [if_pos hw] at h
      rcases h with h | ⟨h, a0, w0, hq⟩
      · refine .inl ?_
        unfold Oper.wp at *
        generalize (execOp a.eval o).run P w = r at *
        cases r with
        | ok x w' =>
          cases x <;> simp only [Oper.upon] at h ⊢ <;> first
            | exact hK _ _ h
            | exact h.elim
            | (refine Calls.mono h fun e w'' he => ?_
               cases e with
               | returned u => exact hK _ _ he
               | panicked c => exact he
               | outgrown => obtain ⟨a0, w0, hq⟩ := he; exact ⟨a0, w0, hq⟩)
            | exact Rows.mono h fun u w'' he => hK _ _ he
        | halt x w' =>
          cases x <;> simp only [Oper.upon] at h ⊢ <;> first | exact h | exact h.elim
      · exact .inr ⟨h, a0, w0, hq⟩
    · rename_i hw
      rw [if_neg hw] at h
      exact hK _ _ h
  refine go _ ?_ a w h1
  rintro a' w' ⟨f', ds', hr, hS', hD⟩
  exact ⟨hS', hD hsel hq (clo.set hjr) hS' m hm a' hr⟩
theorem EW.gen {d : Nat} {b : Bool} (h : ∀ b', b' = b → EW P n ops K Q SF listed (upd f d (.bool b')) ds w) : EW P n ops K Q SF listed (upd f d (.bool b)) ds w := h b rfl
theorem TW.drawE {id : Nat} {l : List Oper} (SF : List Fct) (hm : P.follows .mixedOrders = true) (hsel : Region.noSelect l.toArray = true)
    (hQ : ∀ ch f f' ds w, Q (.panic ch) f ds w → Q (.panic ch) f' ds w) (H : Hp B w0 w L) (hS : ∀ w', Hp B w0 w' L → Sat SF (Array.replicate l.length false) w')
    (h : ∀ w', Hp B w0 w' L → EW P n l.toArray (fun f ds w => TW P n Q k f ds w) Q SF (Array.replicate l.length false) f ds w') : TW P n Q (.code (.region id l.toArray true) :: k) f ds w := by
  have H' : Hp B w0 { w with drawn := w.drawn + 1 } L := H.keep (chg_drew w)
  refine TW.of_wp fun a ha => wp_region_any hm (wpAny_of_L (SF := SF) _ _ _ _ ?_)
  have hc : Clo l.toArray (Array.replicate l.length false) := by
    refine ⟨by simp, fun j oj _ hl => ?_⟩
    unfold lit at hl
    rw [getD_repl] at hl
    cases hl
  have := h _ H' hsel hQ hc (hS _ H') l.toArray.size (by simp) a ha
  simpa using this
/-- ways that meet again, by a ghost state -/
theorem TW.joinG {σ : Type} {c : Code} (S : σ → World → Prop) (fr : σ → List (Nat × Value)) (h1 : (∀ s f' w', S s w' → Has f' (fr s) → TW P n Q k f' ds w') → TW P n Q (.code c :: k) f ds w)
    (h2 : ∀ s f w', S s w' → TW P n Q k (upds f (fr s)) ds w') : TW P n Q (.code c :: k) f ds w := h1 fun s f' w' H' hf => upds_of_has hf ▸ h2 s f' w' H'
end
end Wh
namespace Wh
open Go
theorem Sat.nil {listed : Array Bool} {w : World} : Sat [] listed w := by intro p hp; cases hp
theorem Sat.cons {listed : Array Bool} {w : World} {a b : Option Nat} {S : World → Prop} {SF : List Fct} (h : (∀ e, a = some e → lit listed e = true) → (∀ e, b = some e → lit listed e = false) → S w) (h2 : Sat SF listed w) : Sat ((a, b, S) :: SF) listed w := by
  intro p hp
  rcases List.mem_cons.1 hp with rfl | hp
  · exact h
  · exact h2 p hp
end Wh
namespace Wh
open Go
/-- a slice of the call's own that is not empty, read -/
theorem rowR {B : Nat} {w0 w : World} {L : List Ck} {e : TypeId} {size m cap g : Nat} {xs : List Value} {mk : Ck → List Ck} (H : Hp B w0 w L) (h : HasR L (.slice (some ⟨g, 0, none⟩) m cap) e size m xs mk := by infer_instance) : RowAt w ⟨g, 0, none⟩ xs := by
  obtain ⟨R, h1, _⟩ := h.perm
  have h2 := (H.perm h1).holds _ List.mem_cons_self
  rcases h2.2 with ⟨h3, _⟩ | ⟨g', cap', cur, h3, _, hh, hle, hmax, hsz, htk⟩
  · cases h3
  · simp only [Value.slice.injEq, Option.some.injEq, Addr.mk.injEq] at h3
    obtain ⟨⟨rfl, _, _⟩, _, _⟩ := h3
    intro j u hj
    rw [add_of, Nat.zero_add, cell_of_blk hh]
    rw [← htk, List.getElem?_take] at hj
    split at hj
    · simpa using hj
    · cases hj
end Wh
namespace Wh
open Go
section
variable {P : Program} {n : Nat} {f : Fr} {w : World} {o : Oper}
theorem r_eqs2 {t t2 : TypeId} {x y : Operand} {ks : List IntKind} (ns ms : List Int) (ho : o.op = .binOp .eql t x y t2 := by rfl) (hx : ev n f x = .agg (iv ks ns).toArray := by rfl) (hy : ev n f y = .agg (iv ks ms).toArray := by rfl) (h : SI P t ks := by infer_instance)
    (h1 : ns.length = ks.length := by rfl) (h2 : ms.length = ks.length := by rfl) : (execOp (ev n f) o).run P w = .ok (.value (.bool (decide (ns = ms)))) w := r_eqs hx hy ho h h1 h2
theorem r_nes2 {t t2 : TypeId} {x y : Operand} {ks : List IntKind} (ns ms : List Int) (ho : o.op = .binOp .neq t x y t2 := by rfl) (hx : ev n f x = .agg (iv ks ns).toArray := by rfl) (hy : ev n f y = .agg (iv ks ms).toArray := by rfl) (h : SI P t ks := by infer_instance)
    (h1 : ns.length = ks.length := by rfl) (h2 : ms.length = ks.length := by rfl) : (execOp (ev n f) o).run P w = .ok (.value (.bool (!decide (ns = ms)))) w := r_nes hx hy ho h h1 h2
end
end Wh
namespace Wh
open Go
section
variable {P : Program} {n : Nat} {f : Fr} {w : World} {o : Oper} {B : Nat} {w0 : World} {L : List Ck}
theorem r_eqsn {t t2 e : TypeId} {x y : Operand} {a : Option Addr} {l c : Nat} (ho : o.op = .binOp .eql t x y t2 := by rfl) (hx : ev n f x = .slice a l c := by rfl) (hy : ev n f y = .slice none 0 0 := by rfl) (ht : UT P t (.slice e) := by infer_instance) :
    (execOp (ev n f) o).run P w = .ok (.value (.bool a.isNone)) w := by
  have hg : eqGuard .eql t x y (.slice a l c) (.slice none 0 0) = pure () := rfl
  have h1 : binOp .eql t (.slice a l c) (.slice none 0 0) = (do pure (.bool (← Op.equal t (.slice a l c) (.slice none 0 0)))) := rfl
  have h2 : (Op.equal t (.slice a l c) (.slice none 0 0)).run P w = .ok a.isNone w := by
    have e : Op.maxDepth = 9999 + 1 := rfl
    rw [Op.equal, e, Op.equalIn, Sem.run_bind, run_underlying' ht]
    cases a <;> rfl
  simp [execOp, ho, hx, hy, hg, h1, h2]
theorem r_nesn {t t2 e : TypeId} {x y : Operand} {a : Option Addr} {l c : Nat} (ho : o.op = .binOp .neq t x y t2 := by rfl) (hx : ev n f x = .slice a l c := by rfl) (hy : ev n f y = .slice none 0 0 := by rfl) (ht : UT P t (.slice e) := by infer_instance) :
    (execOp (ev n f) o).run P w = .ok (.value (.bool (!a.isNone))) w := by
  have hg : eqGuard .neq t x y (.slice a l c) (.slice none 0 0) = pure () := rfl
  have h1 : binOp .neq t (.slice a l c) (.slice none 0 0) = (do pure (.bool (!(← Op.equal t (.slice a l c) (.slice none 0 0))))) := rfl
  have h2 : (Op.equal t (.slice a l c) (.slice none 0 0)).run P w = .ok a.isNone w := by
    have e : Op.maxDepth = 9999 + 1 := rfl
    rw [Op.equal, e, Op.equalIn, Sem.run_bind, run_underlying' ht]
    cases a <;> rfl
  simp [execOp, ho, hx, hy, hg, h1, h2]
theorem r_eqmn {t t2 k e : TypeId} {x y : Operand} {r : Nat} (ho : o.op = .binOp .eql t x y t2 := by rfl) (hx : ev n f x = .map (some r) := by rfl) (hy : ev n f y = .map none := by rfl) (ht : UT P t (.map k e) := by infer_instance) :
    (execOp (ev n f) o).run P w = .ok (.value (.bool false)) w := by
  have hg : eqGuard .eql t x y (.map (some r)) (.map none) = pure () := rfl
  have h1 : binOp .eql t (.map (some r)) (.map none) = (do pure (.bool (← Op.equal t (.map (some r)) (.map none)))) := rfl
  have h2 : (Op.equal t (.map (some r)) (.map none)).run P w = .ok false w := by
    have e : Op.maxDepth = 9999 + 1 := rfl
    rw [Op.equal, e, Op.equalIn, Sem.run_bind, run_underlying' ht]
    rfl
  simp [execOp, ho, hx, hy, hg, h1, h2]
theorem r_mi {t k e : TypeId} {x : Operand} {v : Value} (ho : o.op = .makeInterface t x := by rfl) (hx : ev n f x = v := by first | ((conv => lhs; whnf); done) | rfl) (ht : UT P t (.map k e) := by infer_instance) :
    (execOp (ev n f) o).run P w = .ok (.value (.iface t v)) w := by
  simp [execOp, ho, hx, Instr.makeInterface, run_underlying' ht]
theorem r_ta {t s k e : TypeId} {x : Operand} {v : Value} (ho : o.op = .typeAssert x s t false := by rfl) (hx : ev n f x = .iface t v := by rfl) (ht : UT P t (.map k e) := by infer_instance) :
    (execOp (ev n f) o).run P w = .ok (.value v) w := by
  have h : (Instr.typeAssert (.iface t v) s t false).run P w = .ok v w := by
    simp [Instr.typeAssert, run_underlying' ht, go_sem, Result.andThen]
  simp [execOp, ho, hx, h]
theorem run_clone {r : Nat} {es : Array MapEntry} {ck : Nat} (t : TypeId) (hb : w.heap[r]? = some (.map es ck)) :
    (Extern.MapsClone.clone #[.iface t (.map (some r))]).run P w = .ok (.iface t (.map (some w.heap.size))) (w.alloc (.map es ck)) := by
  have e : Extern.MapsClone.clone #[.iface t (.map (some r))] = (getObj r >>= fun o => match o with
      | .map entries clock => (newObj (.map entries clock) >>= fun n => pure (.iface t (.map (some n))))
      | _ => stuck "maps.clone: a map expected") := rfl
  rw [e]
  simp [MapKept.run_getObj_map hb, Result.andThen, go_sem]
/-- maps.clone -/
theorem r_xmc {g : FuncId} {tys : Array TypeId} {x : Operand} {t : TypeId} {r : Nat} {α β : Type} {enc : α → Value} {encv : β → Value} {l : List (α × β)} {mk : List (α × β) → List Ck} (H : Hp B w0 w L) (ho : o.op = .call { callee := .value (.func g), args := #[x], argTypes := tys } := by rfl)
    (hx : ev n f x = .iface t (.map (some r)) := by rfl) (hX : XF P g Extern.MapsClone.clone := by infer_instance) (hb : HasM L r α β enc encv l mk := by infer_instance) :
    ∃ g' w', (execOp (ev n f) o).run P w = .ok (.value (.iface t (.map (some g')))) w' ∧ Hp B w0 w' (MapC enc encv g' l :: L) := by
  obtain ⟨fn, h1, h2, h3, h4, h5⟩ := hX.eq
  obtain ⟨es, ck, hh, hrep, hst⟩ := H.getM hb
  refine ⟨w.heap.size, _, ?_, H.new (chg_alloc w (.map es ck)) ⟨es, ck, heap_alloc_new w _, hrep, hst⟩ (fun k hk => Nat.le_of_eq hk.symm)⟩
  rw [r_x (xs := [x]) (vs := [.iface t (.map (some r))]) ho (by simp [hx])]
  rw [run_callFunc_extern h1 h2 h3 h4 h5, run_clone t hh]
  rfl
/-- an empty slice that is not nil -/
theorem r_bs0 {t e : TypeId} {size bytes : Nat} {zero : Value} (H : Hp B w0 w L) (ho : o.op = .buildSlice t 0 #[] := by rfl) (hT : UT P t (.slice e) := by infer_instance) (hS : TI P e size zero bytes := by infer_instance) :
    ∃ g w', (execOp (ev n f) o).run P w = .ok (.value (.slice (some ⟨g, 0, none⟩) 0 0)) w' ∧ Hp B w0 w' (Row e size (.slice (some ⟨g, 0, none⟩) 0 0) 0 [] :: L) := by
  refine ⟨w.heap.size, w.alloc (.cells #[] e), ?_, H.new (chg_alloc w (.cells #[] e)) ?_ ?_⟩
  · simp [execOp, ho, Instr.buildSlice, run_underlying' hT, run_sizeOf hS, Instr.fill, newRow]
    have e0 : Array.map (fun _ => (default : Value)) (Array.range 0) = #[] := by
      apply Array.toList_inj.1
      simp
    rw [e0]
  · refine ⟨by simp, .inr ⟨w.heap.size, 0, #[], rfl, Nat.zero_le _, heap_alloc_new w _, Nat.le_refl _, by simp [maxLen], by simp, by simp⟩⟩
  · intro k hk
    simp [Row, Value.ownBlock] at hk
    omega
end
end Wh
namespace Wh
open Go
section
variable {P : Program} {n : Nat} {f : Fr} {w : World} {o : Oper}
theorem r_eqAt {t t2 : TypeId} {x y : Operand} {len : Nat} {k : IntKind} {a b : Array Value} (xs : List Int) (ho : o.op = .binOp .eql t x y t2 := by rfl) (hx : ev n f x = .agg a := by rfl) (hy : ev n f y = .agg b := by rfl) (h : AI P t len k := by infer_instance) (hxl : xs.length = len) (ha : a = (xs.map (kv k)).toArray := by rfl) (hb : b = (xs.map (kv k)).toArray := by rfl) :
    (execOp (ev n f) o).run P w = .ok (.value (.bool true)) w := by
  have := r_eqA (P := P) (w := w) xs xs ho hx hy h hxl hxl ha hb
  rwa [decide_eq_true rfl] at this
theorem r_eqt {t t2 : TypeId} {x y : Operand} {k : IntKind} {a : Int} (ho : o.op = .binOp .eql t x y t2 := by rfl) (hx : ev n f x = .int k a := by rfl) (hy : ev n f y = .int k a := by rfl) : (execOp (ev n f) o).run P w = .ok (.value (.bool true)) w := by
  refine r_bin ho hx hy ?_
  simp [bopI]
end
end Wh
