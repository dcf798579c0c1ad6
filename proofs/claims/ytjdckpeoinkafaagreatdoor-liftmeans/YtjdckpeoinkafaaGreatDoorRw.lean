/- The document's reckonings on words are the code's. -/
import Derived.Test.YtjdckpeoinkafaaGreatDoorRo
import Derived.Test.YtjdckpeoinkafaaGreatDoorBt
set_option linter.all false
namespace Wh.WhR
open Go WhB
theorem u32_mod (n : Int) : IntKind.u32.wrap n = n % 4294967296 := by
  have e : (2 : Int) ^ 32 = 4294967296 := by decide
  simp only [IntKind.wrap, IntKind.bits, IntKind.signed, e, Bool.false_and]
  simp
theorem i32_eq {a : Int} (h0 : 0 ≤ a) (h1 : a < 4294967296) : IntKind.i32.wrap a = if 2147483648 ≤ a then a - 4294967296 else a := by
  have e : (2 : Int) ^ 32 = 4294967296 := by decide
  have e2 : (2 : Int) ^ 31 = 2147483648 := by decide
  simp only [IntKind.wrap, IntKind.bits, IntKind.signed, e, Bool.true_and]
  simp
  split <;> split <;> omega
theorem num_eq {a : Int} (h0 : 0 ≤ a) (h1 : a < 4294967296) : num a = IntKind.i32.wrap a := by
  rw [i32_eq h0 h1]
  unfold num i64
  split
  · rw [i64_id (n := a) (by omega) (by omega), i64_id (by omega) (by omega)]
  · rw [i64_id (by omega) (by omega)]
theorem one_eq (b : Bool) : one b = WhI.flag b := rfl
/-- a number of its bits -/
def ofB : List Bool → Nat
  | [] => 0
  | b :: l => (if b then 1 else 0) + 2 * ofB l
theorem ofB_lt : ∀ l : List Bool, ofB l < 2 ^ l.length
  | [] => by simp [ofB]
  | b :: l => by
    have := ofB_lt l
    simp only [ofB, List.length_cons, Nat.pow_succ]
    split <;> omega
theorem ofB_bit : ∀ (l : List Bool) (i : Nat), (ofB l).testBit i = (l[i]?).getD false
  | [], i => by simp [ofB]
  | b :: l, 0 => by
    simp only [ofB, Nat.testBit_zero, List.getElem?_cons_zero, Option.getD_some]
    cases b <;> simp <;> omega
  | b :: l, i + 1 => by
    have h := ofB_bit l i
    rw [List.getElem?_cons_succ, ← h, Nat.testBit_succ]
    congr 1
    simp only [ofB]
    split <;> omega
def bI (b : Bool) : Int := if b then 1 else 0
theorem ofL_ofB : ∀ l : List Bool, l.length ≤ 32 → ofL (l.map bI) = (ofB l : Nat)
  | [], _ => rfl
  | b :: l, h => by
    simp only [List.length_cons] at h
    have ih := ofL_ofB l (by omega)
    have hlt := ofB_lt (b :: l)
    have h32 : 2 ^ (b :: l).length ≤ 2 ^ 32 := Nat.pow_le_pow_right (by decide) (by simpa using h)
    have e32 : 2 ^ 32 = 4294967296 := by decide
    have hs : ofL ((b :: l).map bI) = u32 (u32 (ofL (l.map bI) * 2) + bI b) := rfl
    rw [hs, ih]
    unfold u32
    simp only [ofB] at hlt ⊢
    have hb : bI b = ((if b then 1 else 0 : Nat) : Int) := by cases b <;> rfl
    rw [u32_id (n := (ofB l : Int) * 2) (by omega) (by split at hlt <;> omega), hb, u32_id (by split <;> omega) (by split at hlt <;> simp_all <;> omega)]
    split <;> omega
/-- what a list of bits comes to -/
theorem ofL_nat {l : List Int} {N : Nat} (hN : N < 4294967296) (h : l = (List.range 32).map fun i => bI (N.testBit i)) : ofL l = N := by
  have h2 : l = ((List.range 32).map fun i => N.testBit i).map bI := by rw [h, List.map_map]; rfl
  have h3 : ofB ((List.range 32).map fun i => N.testBit i) = N := by
    apply Nat.eq_of_testBit_eq
    intro i
    rw [ofB_bit]
    rcases Nat.lt_or_ge i 32 with hi | hi
    · rw [List.getElem?_eq_getElem (by simpa using hi), List.getElem_map, List.getElem_range]
      rfl
    · have e32 : (4294967296 : Nat) = 2 ^ 32 := by decide
      have : N.testBit i = false := Nat.testBit_lt_two_pow (Nat.lt_of_lt_of_le (e32 ▸ hN) (Nat.pow_le_pow_right (by decide) hi))
      rw [this, List.getElem?_eq_none (by simpa using hi)]
      rfl
  rw [h2, ofL_ofB _ (by simp), h3]
theorem bit_nat' {n k : Nat} (hn : n < 4294967296) (hk : k < 32) : bit (n : Int) (k : Int) = bI (n.testBit k) := by
  unfold bit
  rw [if_neg (by omega), WhB.bit_nat hn hk]
  rfl
theorem xor_nat {a b : Nat} (ha : a < 4294967296) (hb : b < 4294967296) : bits .xor .u32 a b = ((a ^^^ b : Nat) : Int) := by
  have h1 : a ^^^ b < 2 ^ 32 := Nat.xor_lt_two_pow ha hb
  show IntKind.u32.wrap (((BitVec.ofInt 32 (a : Int) ^^^ BitVec.ofInt 32 (b : Int)).toNat : Nat) : Int) = _
  rw [ofInt_nat, ofInt_nat, BitVec.toNat_xor, toNat_ofNat ha, toNat_ofNat hb, wrap_nat h1]
theorem bitsL_nat {op : Int} {a b N : Nat} (ha : a < 4294967296) (hb : b < 4294967296) (hN : N < 4294967296) (h : ∀ i, i < 32 → bitOp op (bI (a.testBit i)) (bI (b.testBit i)) = bI (N.testBit i)) : bitsF op a b = N := by
  refine ofL_nat hN ?_
  unfold bitsL
  apply List.map_congr_left
  intro i hi
  have hi := List.mem_range.1 hi
  rw [bit_nat' ha hi, bit_nat' hb hi, h i hi]
theorem bitOp_and (x y : Bool) : bitOp 36 (bI x) (bI y) = bI (x && y) := by cases x <;> cases y <;> decide
theorem bitOp_or (x y : Bool) : bitOp 35 (bI x) (bI y) = bI (x || y) := by cases x <;> cases y <;> decide
theorem bitOp_xor (x y : Bool) : bitOp 32 (bI x) (bI y) = bI (x ^^ y) := by cases x <;> cases y <;> decide
theorem shift_nat {a N : Nat} {s ab : Int} (ha : a < 4294967296) (hN : N < 4294967296) (h : ∀ i : Nat, i < 32 → (if 31 < (i : Int) - s then ab else bit (a : Int) ((i : Int) - s)) = bI (N.testBit i)) : shift a s ab = N := by
  refine ofL_nat hN ?_
  unfold shiftL
  apply List.map_congr_left
  intro i hi
  exact h i (List.mem_range.1 hi)
theorem bit_neg {a k : Int} (h : k < 0) : bit a k = 0 := by unfold bit; rw [if_pos (.inl h)]
theorem sll_nat {a k : Nat} (ha : a < 4294967296) (hk : k < 32) : shift a (k : Int) 0 = ((a * 2 ^ k % 4294967296 : Nat) : Int) := by
  have e : 4294967296 = 2 ^ 32 := by decide
  refine shift_nat ha (Nat.mod_lt _ (by decide)) fun i hi => ?_
  rw [if_neg (by omega), e, Nat.testBit_mod_two_pow, Nat.mul_comm, Nat.testBit_two_pow_mul]
  rcases Nat.lt_or_ge i k with h | h
  · rw [bit_neg (by omega)]
    simp [Nat.not_le.2 h, bI]
  · have : (i : Int) - k = ((i - k : Nat) : Int) := by omega
    rw [this, bit_nat' ha (by omega)]
    simp [hi, h]
theorem srl_nat {a k : Nat} {ab : Int} (ha : a < 4294967296) (hk : k < 32) (N : Nat) (hN : N < 4294967296) (hb : ∀ i : Nat, i < 32 → N.testBit i = if 31 < i + k then decide (ab = 1) else a.testBit (i + k)) (hab : ab = 0 ∨ ab = 1) : shift a (-(k : Int)) ab = N := by
  refine shift_nat ha hN fun i hi => ?_
  rw [hb i hi]
  have e : (i : Int) - -(k : Int) = ((i + k : Nat) : Int) := by omega
  rw [e]
  by_cases h : 31 < i + k
  · rw [if_pos (by omega), if_pos h]
    rcases hab with rfl | rfl <;> rfl
  · rw [if_neg (by omega), if_neg h, bit_nat' ha (by omega)]
theorem and31_nat {b : Nat} (hb : b < 4294967296) : bits .and .u32 (b : Int) 31 = ((b % 32 : Nat) : Int) := by
  rw [show (31 : Int) = ((31 : Nat) : Int) from rfl, WhB.and_nat hb (by decide)]
  congr 1
  exact Nat.and_two_pow_sub_one_eq_mod b 5
theorem halves_nat {a b : Nat} (ha : a < 4294967296) (hb : b < 4294967296) : halves a b = ((a * b / 4294967296 : Nat) : Int) := by
  have key : ∀ al ah bl bh : Nat, al < 65536 → ah < 65536 → bl < 65536 → bh < 65536 →
      al * bl < 4294967296 ∧ ah * bl < 4294967296 ∧ al * bh < 4294967296 ∧ ah * bh ≤ 4294836225 := by
    intro al ah bl bh h1 h2 h3 h4
    have e : ∀ x y : Nat, x < 65536 → y < 65536 → x * y ≤ 65535 * 65535 := fun x y hx hy => Nat.mul_le_mul (by omega) (by omega)
    have := e _ _ h1 h3; have := e _ _ h2 h3; have := e _ _ h1 h4; have := e _ _ h2 h4
    omega
  obtain ⟨q1, q2, q3, q4⟩ := key (a % 65536) (a / 65536) (b % 65536) (b / 65536) (by omega) (by omega) (by omega) (by omega)
  have hab : a * b = (a / 65536 * (b / 65536)) * 4294967296 + ((a / 65536) * (b % 65536) + (a % 65536) * (b / 65536)) * 65536 + (a % 65536) * (b % 65536) := by
    have e1 : a = 65536 * (a / 65536) + a % 65536 := (Nat.div_add_mod a 65536).symm
    have e2 : b = 65536 * (b / 65536) + b % 65536 := (Nat.div_add_mod b 65536).symm
    generalize a / 65536 = x at *
    generalize a % 65536 = y at *
    generalize b / 65536 = z at *
    generalize b % 65536 = t at *
    subst e1 e2
    simp only [Nat.mul_add, Nat.add_mul]
    have h1 : 65536 * x * (65536 * z) = x * z * 4294967296 := by
      rw [Nat.mul_assoc, Nat.mul_comm x, Nat.mul_assoc 65536 z x, ← Nat.mul_assoc, Nat.mul_comm z x]
      omega
    have h2 : 65536 * x * t = x * t * 65536 := by rw [Nat.mul_assoc, Nat.mul_comm]
    have h3 : y * (65536 * z) = y * z * 65536 := by rw [← Nat.mul_assoc, Nat.mul_comm y, Nat.mul_assoc, Nat.mul_comm]
    omega
  have c1 : ((a : Int).tmod 65536) = ((a % 65536 : Nat) : Int) := by rw [Int.tmod_eq_emod_of_nonneg (by omega)]; omega
  have c2 : ((a : Int).tdiv 65536) = ((a / 65536 : Nat) : Int) := by rw [Int.tdiv_eq_ediv_of_nonneg (by omega)]; omega
  have c3 : ((b : Int).tmod 65536) = ((b % 65536 : Nat) : Int) := by rw [Int.tmod_eq_emod_of_nonneg (by omega)]; omega
  have c4 : ((b : Int).tdiv 65536) = ((b / 65536 : Nat) : Int) := by rw [Int.tdiv_eq_ediv_of_nonneg (by omega)]; omega
  simp only [halves, c1, c2, c3, c4, u64, u32]
  have w1 : ∀ n : Nat, n < 18446744073709551616 → IntKind.u64.wrap (n : Int) = n := fun n h => u64_id (by omega) (by omega)
  have w2 : ∀ n : Nat, n < 4294967296 → IntKind.u32.wrap (n : Int) = n := fun n h => u32_id (by omega) (by omega)
  have td : ∀ n m : Nat, ((n : Int).tdiv (m : Int)) = ((n / m : Nat) : Int) := fun n m => by rw [Int.tdiv_eq_ediv_of_nonneg (by omega)]; simp
  have tm : ∀ n m : Nat, ((n : Int).tmod (m : Int)) = ((n % m : Nat) : Int) := fun n m => by rw [Int.tmod_eq_emod_of_nonneg (by omega)]; simp
  have c65 : (65536 : Int) = ((65536 : Nat) : Int) := rfl
  have hlt : a * b < 18446744073709551616 := by have := Nat.mul_lt_mul'' ha hb; omega
  rw [hab] at hlt ⊢
  generalize hx : a / 65536 = x at *
  generalize hy : a % 65536 = y at *
  generalize hz : b / 65536 = z at *
  generalize ht : b % 65536 = t at *
  rw [w2 x (by omega), w2 z (by omega), w1 x (by omega), w1 y (by omega), w1 z (by omega), w1 t (by omega)]
  rw [← Int.natCast_mul, ← Int.natCast_mul, ← Int.natCast_mul, ← Int.natCast_mul]
  generalize y * t = p4 at *
  generalize x * t = p2 at *
  generalize y * z = p3 at *
  generalize x * z = p1 at *
  rw [w1 p4 (by omega), w1 p2 (by omega), w1 p3 (by omega), w1 p1 (by omega), c65]
  simp (disch := omega) only [w1, w2, td, tm, ← Int.natCast_add]
  congr 1
  omega
theorem bit_srl {a k : Nat} (ha : a < 4294967296) (hk : k < 32) : shift a (-(k : Int)) 0 = ((a / 2 ^ k : Nat) : Int) := by
  have hl : a / 2 ^ k < 4294967296 := Nat.lt_of_le_of_lt (Nat.div_le_self _ _) ha
  refine srl_nat ha hk _ hl (fun i hi => ?_) (.inl rfl)
  rw [Nat.testBit_div_two_pow]
  split
  · have e32 : (4294967296 : Nat) = 2 ^ 32 := by decide
    rw [Nat.add_comm]
    exact Nat.testBit_lt_two_pow (Nat.lt_of_lt_of_le (e32 ▸ ha) (Nat.pow_le_pow_right (by decide) (by omega)))
  · rw [Nat.add_comm]
theorem fdiv_nat (a k : Nat) : ((a : Int).fdiv (2 ^ k)) = ((a / 2 ^ k : Nat) : Int) := by
  rw [Int.fdiv_eq_ediv_of_nonneg _ (Int.le_of_lt (Int.pow_pos (by decide)))]
  simp
theorem bit31 {a : Nat} (ha : a < 4294967296) : bit (a : Int) 31 = if 2147483648 ≤ a then 1 else 0 := by
  rw [show (31 : Int) = ((31 : Nat) : Int) from rfl, bit_nat' ha (by decide), Nat.testBit_eq_decide_div_mod_eq]
  have e : 2 ^ 31 = 2147483648 := by decide
  rw [e]
  unfold bI
  split <;> split <;> simp_all <;> omega
theorem sra_nat {a k : Nat} (ha : a < 4294967296) (hk : k < 32) : shift a (-(k : Int)) (bit a 31) = IntKind.u32.wrap ((IntKind.i32.wrap (a : Int)).fdiv (2 ^ k)) := by
  have hp : (0 : Int) < 2 ^ k := Int.pow_pos (by decide)
  rw [i32_eq (by omega) (by omega), bit31 ha, u32_mod]
  by_cases h : 2147483648 ≤ a
  · rw [if_pos h, if_pos (by omega)]
    have hpk : 0 < 2 ^ k := Nat.two_pow_pos k
    have hs : 2 ^ k * 2 ^ (32 - k) = 4294967296 := by rw [← Nat.pow_add, show k + (32 - k) = 32 by omega]
    have hd : a / 2 ^ k < 2 ^ (32 - k) := Nat.div_lt_of_lt_mul (by rw [hs]; exact ha)
    have hm : (2 ^ k - 1) * 2 ^ (32 - k) + 2 ^ (32 - k) = 4294967296 := by
      rw [← hs, Nat.sub_mul, Nat.one_mul]
      have : 2 ^ (32 - k) ≤ 2 ^ k * 2 ^ (32 - k) := Nat.le_mul_of_pos_left _ hpk
      omega
    have hN : 2 ^ (32 - k) * (2 ^ k - 1) + a / 2 ^ k < 4294967296 := by rw [Nat.mul_comm]; omega
    have hfd : ((a : Int) - 4294967296).fdiv (2 ^ k) = ((a / 2 ^ k : Nat) : Int) - ((2 ^ (32 - k) : Nat) : Int) := by
      rw [Int.fdiv_eq_ediv_of_nonneg _ (Int.le_of_lt hp)]
      have e : ((a : Int) - 4294967296) = (a : Int) + (2 ^ k) * (-((2 ^ (32 - k) : Nat) : Int)) := by
        have : ((2 ^ k : Nat) : Int) * ((2 ^ (32 - k) : Nat) : Int) = 4294967296 := by rw [← Int.natCast_mul, hs]; rfl
        have e2 : ((2 ^ k : Nat) : Int) = (2 : Int) ^ k := by simp
        rw [e2] at this
        rw [Int.mul_neg, this]
        omega
      rw [e, Int.add_mul_ediv_left _ _ (by omega)]
      have e3 : (a : Int) / 2 ^ k = ((a / 2 ^ k : Nat) : Int) := by simp
      rw [e3]
      omega
    have hx := srl_nat (ab := 1) ha hk (2 ^ (32 - k) * (2 ^ k - 1) + a / 2 ^ k) hN (fun i hi => by
      rw [Nat.testBit_two_pow_mul_add _ hd]
      by_cases hi2 : i < 32 - k
      · rw [if_pos hi2, if_neg (by omega), Nat.testBit_div_two_pow, Nat.add_comm]
      · rw [if_neg hi2, if_pos (by omega), Nat.testBit_two_pow_sub_one]
        simp
        omega) (.inr rfl)
    rw [hx, hfd]
    have hm2 : 2 ^ (32 - k) * (2 ^ k - 1) + 2 ^ (32 - k) = 4294967296 := by rw [Nat.mul_comm]; exact hm
    clear hx hfd hm hs
    generalize a / 2 ^ k = q at *
    generalize 2 ^ (32 - k) * (2 ^ k - 1) = u at *
    generalize 2 ^ (32 - k) = r at *
    omega
  · rw [if_neg h, if_neg (by omega), bit_srl ha hk, fdiv_nat]
    have hl : a / 2 ^ k < 4294967296 := Nat.lt_of_le_of_lt (Nat.div_le_self _ _) ha
    generalize a / 2 ^ k = q at *
    omega
/-- what i32 tells -/
theorem i32_rng {a : Int} (h0 : 0 ≤ a) (h1 : a < 4294967296) : -2147483648 ≤ IntKind.i32.wrap a ∧ IntKind.i32.wrap a < 2147483648 := by
  rw [i32_eq h0 h1]
  split <;> omega
theorem mul_bnd {x y X Y : Int} (h1 : -X ≤ x) (h2 : x ≤ X) (h3 : -Y ≤ y) (h4 : y ≤ Y) : -(X * Y) ≤ x * y ∧ x * y ≤ X * Y := by
  have hX : 0 ≤ X := by omega
  have hY : 0 ≤ Y := by omega
  have h : (x * y).natAbs ≤ (X * Y).natAbs := by
    rw [Int.natAbs_mul, Int.natAbs_mul]
    exact Nat.mul_le_mul (by omega) (by omega)
  have : 0 ≤ X * Y := Int.mul_nonneg hX hY
  omega
theorem high_eq {op a b : Int} (ha : 0 ≤ a ∧ a < 4294967296) (hb : 0 ≤ b ∧ b < 4294967296) (ho : op = 38 ∨ op = 39 ∨ op = 40) : high op a b = WhI.high op a b := by
  obtain ⟨m, rfl⟩ : ∃ m : Nat, a = m := ⟨a.toNat, by omega⟩
  obtain ⟨n, rfl⟩ : ∃ n : Nat, b = n := ⟨b.toNat, by omega⟩
  have hm : m < 4294967296 := by omega
  have hn : n < 4294967296 := by omega
  have e32 : (2 : Int) ^ 32 = 4294967296 := by decide
  have hlt : m * n < 18446744073709551616 := by have := Nat.mul_lt_mul'' hm hn; omega
  unfold high WhI.high
  simp only [halves_nat hm hn, u32, WhI.i32, WhI.u32]
  rw [e32, i64_id (n := (m : Int)) (by omega) (by omega), i64_id (n := (n : Int)) (by omega) (by omega), u64_id (n := (m : Int)) (by omega) (by omega), u64_id (n := (n : Int)) (by omega) (by omega), ← Int.natCast_mul, u64_id (n := ((m * n : Nat) : Int)) (by omega) (by omega)]
  have hmr := i32_rng ha.1 ha.2
  have hnr := i32_rng hb.1 hb.2
  rw [i64_id (n := IntKind.i32.wrap (m : Int)) (by omega) (by omega), i64_id (n := IntKind.i32.wrap (n : Int)) (by omega) (by omega)]
  have hfd : ∀ z : Int, z.fdiv 4294967296 = z / 4294967296 := fun z => Int.fdiv_eq_ediv_of_nonneg _ (by decide)
  simp only [hfd]
  have hmi := i32_eq ha.1 ha.2
  have hni := i32_eq hb.1 hb.2
  rcases ho with rfl | rfl | rfl
  · simp only [show ((38 : Int) = 40) = False by decide, show ((39 : Int) = 40) = False by decide, show ((39 : Int) = 38) = False by decide, show ((40 : Int) = 38) = False by decide, show ((40 : Int) = 39) = False by decide, show ((38 : Int) = 39) = False by decide, ne_eq, not_false_eq_true, not_true_eq_false, true_and, false_and, if_true, if_false]
    have hb1 := mul_bnd (x := IntKind.i32.wrap (m : Int)) (y := IntKind.i32.wrap (n : Int)) (X := 2147483648) (Y := 2147483648) (by omega) (by omega) (by omega) (by omega)
    rw [i64_id (by omega) (by omega), u32_mod]
    rw [hmi, hni]
    simp only [u32_mod]
    by_cases h1 : 2147483648 ≤ (m : Int) <;> by_cases h2 : 2147483648 ≤ (n : Int)
    · rw [if_pos h1, if_pos h1, if_pos h2, if_pos h2]
      have e : ((m : Int) - 4294967296) * ((n : Int) - 4294967296) = ((m * n : Nat) : Int) + 4294967296 * (4294967296 - m - n) := by
        rw [Int.natCast_mul]; simp only [Int.sub_mul, Int.mul_sub]; omega
      rw [e]
      generalize m * n = q at *
      omega
    · rw [if_pos h1, if_pos h1, if_neg h2, if_neg h2]
      have e : ((m : Int) - 4294967296) * (n : Int) = ((m * n : Nat) : Int) + 4294967296 * (-n) := by
        rw [Int.natCast_mul]; simp only [Int.sub_mul]; omega
      rw [e]
      generalize m * n = q at *
      omega
    · rw [if_neg h1, if_neg h1, if_pos h2, if_pos h2]
      have e : (m : Int) * ((n : Int) - 4294967296) = ((m * n : Nat) : Int) + 4294967296 * (-m) := by
        rw [Int.natCast_mul]; simp only [Int.mul_sub]; omega
      rw [e]
      generalize m * n = q at *
      omega
    · rw [if_neg h1, if_neg h1, if_neg h2, if_neg h2, ← Int.natCast_mul]
      generalize m * n = q at *
      omega
  · simp only [show ((38 : Int) = 40) = False by decide, show ((39 : Int) = 40) = False by decide, show ((39 : Int) = 38) = False by decide, show ((40 : Int) = 38) = False by decide, show ((40 : Int) = 39) = False by decide, show ((38 : Int) = 39) = False by decide, ne_eq, not_false_eq_true, not_true_eq_false, true_and, false_and, if_true, if_false]
    have hb1 := mul_bnd (x := IntKind.i32.wrap (m : Int)) (y := (n : Int)) (X := 2147483648) (Y := 4294967295) (by omega) (by omega) (by omega) (by omega)
    rw [i64_id (by omega) (by omega), u32_mod]
    rw [hmi]
    simp only [u32_mod]
    by_cases h1 : 2147483648 ≤ (m : Int)
    · rw [if_pos h1, if_pos h1]
      have e : ((m : Int) - 4294967296) * (n : Int) = ((m * n : Nat) : Int) + 4294967296 * (-n) := by
        rw [Int.natCast_mul]; simp only [Int.sub_mul]; omega
      rw [e]
      generalize m * n = q at *
      omega
    · rw [if_neg h1, if_neg h1, ← Int.natCast_mul]
      generalize m * n = q at *
      omega
  · simp only [show ((38 : Int) = 40) = False by decide, show ((39 : Int) = 40) = False by decide, show ((39 : Int) = 38) = False by decide, show ((40 : Int) = 38) = False by decide, show ((40 : Int) = 39) = False by decide, show ((38 : Int) = 39) = False by decide, ne_eq, not_false_eq_true, not_true_eq_false, true_and, false_and, if_true, if_false]
    rw [u32_mod]
    generalize m * n = q at *
    omega
theorem div_eq {op a b : Int} (ha : 0 ≤ a ∧ a < 4294967296) (hb : 0 ≤ b ∧ b < 4294967296) (ho : op = 41 ∨ op = 42 ∨ op = 43 ∨ op = 44) : div op a b = WhI.divided op a b := by
  unfold div WhI.divided
  by_cases h0 : b = 0
  · simp only [h0, if_true]
  simp only [if_neg h0]
  have hma := i32_rng ha.1 ha.2
  have hmb := i32_rng hb.1 hb.2
  have hb0 : IntKind.i32.wrap b ≠ 0 := WhI.wrap_ne hb.1 hb.2 h0
  have hq : ∀ x y : Int, x.tdiv y * y = x - x.tmod y := fun x y => by have := Int.tmod_add_tdiv_mul x y; omega
  have hqa : ∀ x y : Int, (x.tdiv y).natAbs ≤ x.natAbs := fun x y => by rw [Int.natAbs_tdiv]; exact Nat.div_le_self _ _
  have hra : ∀ x y : Int, (x.tmod y).natAbs ≤ x.natAbs := fun x y => by rw [Int.natAbs_tmod]; exact Nat.mod_le _ _
  have hub : ∀ x y : Int, -4294967296 < x → x < 4294967296 → -4294967296 < y → y < 4294967296 → i64 (x - i64 (i64 (x.tdiv y) * y)) = x.tmod y ∧ i64 (x.tdiv y) = x.tdiv y := by
    intro x y h1 h2 h3 h4
    have h5 := hqa x y
    have h6 := hra x y
    have e1 : i64 (x.tdiv y) = x.tdiv y := i64_id (by omega) (by omega)
    have e2 : i64 (x.tdiv y * y) = x - x.tmod y := by rw [hq]; exact i64_id (by omega) (by omega)
    rw [e1, e2]
    refine ⟨?_, rfl⟩
    rw [show x - (x - x.tmod y) = x.tmod y by omega]
    exact i64_id (by omega) (by omega)
  have e64 : i64 a = a := i64_id (by omega) (by omega)
  have f64 : i64 b = b := i64_id (by omega) (by omega)
  have wtm : ∀ x y : Int, IntKind.u32.wrap (x.tmod y) = IntKind.u32.wrap (x.tmod y) := fun _ _ => rfl
  have hspec : a = 2147483648 ∧ b = 4294967295 → IntKind.i32.wrap a = -2147483648 ∧ IntKind.i32.wrap b = -1 := by
    rintro ⟨rfl, rfl⟩
    exact ⟨by decide, by decide⟩
  rcases ho with rfl | rfl | rfl | rfl
  · simp only [num_eq ha.1 ha.2, num_eq hb.1 hb.2, u32, WhI.i32, WhI.u32]
    simp
    rw [(hub _ _ (by omega) (by omega) (by omega) (by omega)).2]
    split
    · rename_i h
      obtain ⟨e1, e2⟩ := hspec h
      rw [e1, e2, h.1]
      decide
    · rename_i h
      have h5 := hqa (IntKind.i32.wrap a) (IntKind.i32.wrap b)
      simp only [u32_mod]
      have : ∀ z : Int, (IntKind.i32.wrap z) % 4294967296 = z % 4294967296 := by
        intro z
        have e : (2 : Int) ^ 32 = 4294967296 := by decide
        have e2 : (2 : Int) ^ 31 = 2147483648 := by decide
        simp only [IntKind.wrap, IntKind.bits, IntKind.signed, e, Bool.true_and]
        simp
        split <;> omega
      rw [this]
  · simp only [u32, WhI.i32, WhI.u32]
    simp
    rw [e64, f64, (hub _ _ (by omega) (by omega) (by omega) (by omega)).2]
  · simp only [num_eq ha.1 ha.2, num_eq hb.1 hb.2, u32, WhI.i32, WhI.u32]
    simp
    rw [(hub _ _ (by omega) (by omega) (by omega) (by omega)).1]
    split
    · rename_i h
      obtain ⟨e1, e2⟩ := hspec h
      rw [e1, e2]
      decide
    · rfl
  · simp only [u32, WhI.i32, WhI.u32]
    simp
    rw [e64, f64, (hub _ _ (by omega) (by omega) (by omega) (by omega)).1, u32_mod]
    have h6 : 0 ≤ a.tmod b := Int.tmod_nonneg _ ha.1
    have h7 := hra a b
    omega
/-- the document's reckoning is the code's -/
theorem rdo_wdo {op a b : Int} (ha : 0 ≤ a ∧ a < 4294967296) (hb : 0 ≤ b ∧ b < 4294967296) : rdo op a b = WhI.wdo op a b := by
  obtain ⟨m, rfl⟩ : ∃ m : Nat, a = m := ⟨a.toNat, by omega⟩
  obtain ⟨n, rfl⟩ : ∃ n : Nat, b = n := ⟨b.toNat, by omega⟩
  have hm : m < 4294967296 := by omega
  have hn : n < 4294967296 := by omega
  have hs : i64 ((n : Int).tmod 32) = ((n % 32 : Nat) : Int) := by
    rw [Int.tmod_eq_emod_of_nonneg (by omega)]
    show IntKind.i64.wrap _ = _
    rw [i64_id (by omega) (by omega)]
    omega
  have hns : i64 (0 - ((n % 32 : Nat) : Int)) = -((n % 32 : Nat) : Int) := by
    show IntKind.i64.wrap _ = _
    rw [i64_id (by omega) (by omega)]
    omega
  have hk : n % 32 < 32 := Nat.mod_lt _ (by decide)
  have hmin : min ((n % 32 : Nat) : Int).toNat 32 = n % 32 := by simp; omega
  unfold rdo WhI.wdo
  simp only [hs, hns, and31_nat hn, hmin]
  by_cases h27 : op = 27
  · simp [h27]
  by_cases h28 : op = 28
  · simp [h28]
  by_cases h36 : op = 36
  · have := bitsL_nat (op := 36) hm hn (Nat.and_lt_two_pow m hn : m &&& n < 2 ^ 32) (fun i _ => by rw [bitOp_and, Nat.testBit_and])
    simp [h36, this, WhB.and_nat hm hn]
  by_cases h35 : op = 35
  · have := bitsL_nat (op := 35) hm hn (Nat.or_lt_two_pow hm hn : m ||| n < 2 ^ 32) (fun i _ => by rw [bitOp_or, Nat.testBit_or])
    simp [h35, this, WhB.or_nat hm hn]
  by_cases h32 : op = 32
  · have := bitsL_nat (op := 32) hm hn (Nat.xor_lt_two_pow hm hn : m ^^^ n < 2 ^ 32) (fun i _ => by rw [bitOp_xor, Nat.testBit_xor])
    simp [h32, this, xor_nat hm hn]
  rw [if_neg h27, if_neg h28, if_neg (by omega), if_neg h27, if_neg h28, if_neg h36, if_neg h35, if_neg h32]
  by_cases h29 : op = 29
  · rw [if_pos h29, if_pos h29, sll_nat hm hk]
    have : ((2 ^ (n % 32) : Nat) : Int) = (2 : Int) ^ (n % 32) := by simp
    rw [WhI.u32, u32_mod, ← this, ← Int.natCast_mul]
    simp
  by_cases h33 : op = 33
  · rw [if_neg h29, if_pos h33, if_neg h29, if_pos h33, bit_srl hm hk, fdiv_nat]
  by_cases h34 : op = 34
  · rw [if_neg h29, if_neg h33, if_pos h34, if_neg h29, if_neg h33, if_pos h34, sra_nat hm hk]
  rw [if_neg h29, if_neg h33, if_neg h34, if_neg h29, if_neg h33, if_neg h34]
  by_cases h30 : op = 30
  · rw [if_pos h30, if_pos h30, num_eq ha.1 ha.2, num_eq hb.1 hb.2]
    rfl
  by_cases h31 : op = 31
  · rw [if_neg h30, if_pos h31, if_neg h30, if_pos h31]
    rfl
  by_cases h37 : op = 37
  · rw [if_neg h30, if_neg h31, if_pos h37, if_neg h30, if_neg h31, if_pos h37]
  rw [if_neg h30, if_neg h31, if_neg h37, if_neg h30, if_neg h31, if_neg h37]
  by_cases hh : op = 38 ∨ op = 39 ∨ op = 40
  · have hh2 : op = 38 ∨ op = 40 ∨ op = 39 := by omega
    rw [if_pos hh, if_pos hh2, high_eq ha hb hh]
  have hh2 : ¬ (op = 38 ∨ op = 40 ∨ op = 39) := by omega
  rw [if_neg hh, if_neg hh2]
  by_cases hd : op = 41 ∨ op = 42 ∨ op = 43 ∨ op = 44
  · rw [if_pos hd, if_pos hd, div_eq ha hb hd]
  · rw [if_neg hd, if_neg hd]
end Wh.WhR
