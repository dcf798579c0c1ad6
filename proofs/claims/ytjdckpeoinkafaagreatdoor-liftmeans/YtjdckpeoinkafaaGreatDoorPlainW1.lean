set_option linter.all false
/- A part of the walk through the code: contracts of functions, printed by a program of the prover. -/
namespace WhP
/-- a reckoning on two words -/
def wdo (op : Int) (a b : BitVec 32) : BitVec 32 :=
  if op = 27 then a + b
  else if op = 28 then a - b
  else if op = 29 then a <<< (b &&& 31#32)
  else if op = 30 then (if a.slt b then 1#32 else 0#32)
  else if op = 31 then (if a.ult b then 1#32 else 0#32)
  else if op = 32 then a ^^^ b
  else if op = 33 then a >>> (b &&& 31#32)
  else if op = 34 then a.sshiftRight (b &&& 31#32).toNat
  else if op = 35 then a ||| b
  else if op = 36 then a &&& b
  else if op = 37 then a * b
  else if op = 38 then (a.signExtend 64 * b.signExtend 64).extractLsb' 32 32
  else if op = 39 then (a.signExtend 64 * b.zeroExtend 64).extractLsb' 32 32
  else if op = 40 then (a.zeroExtend 64 * b.zeroExtend 64).extractLsb' 32 32
  else if op = 41 then (if b = 0#32 then BitVec.allOnes 32 else a.sdiv b)
  else if op = 42 then (if b = 0#32 then BitVec.allOnes 32 else a.udiv b)
  else if op = 43 then (if b = 0#32 then a else a.srem b)
  else if op = 44 then (if b = 0#32 then a else a.umod b)
  else 0#32

def isOp (op : Int) : Bool := 27 ≤ op && op ≤ 44

def turnsB (op : Int) : Bool := op = 27 || op = 36 || op = 35 || op = 32 || op = 37 || op = 38 || op = 40

theorem wdo_comm (op : Int) (a b : BitVec 32) (h : turnsB op = true) : wdo op a b = wdo op b a := by
  simp only [turnsB, Bool.or_eq_true, decide_eq_true_eq] at h
  rcases h with ((((((h | h) | h) | h) | h) | h) | h) <;> subst h <;> simp [wdo, BitVec.add_comm, BitVec.and_comm, BitVec.or_comm, BitVec.xor_comm, BitVec.mul_comm]

theorem wdo_sub (a w : BitVec 32) : wdo 28 a w = wdo 27 a (-w) := by simp [wdo, BitVec.sub_eq_add_neg]
theorem wdo_zero_r (op : Int) (a : BitVec 32) (h : op = 27 ∨ op = 35 ∨ op = 32) : wdo op a 0#32 = a := by
  rcases h with h | h | h <;> subst h <;> simp [wdo]
theorem wdo_one_r (op : Int) (a : BitVec 32) (h : op = 37 ∨ op = 41 ∨ op = 42) : wdo op a 1#32 = a := by
  rcases h with h | h | h <;> subst h <;> simp [wdo]
theorem wdo_and_ones (a : BitVec 32) : wdo 36 a (BitVec.allOnes 32) = a := by
  show a &&& BitVec.allOnes 32 = a
  exact BitVec.and_allOnes
theorem wdo_or_ones (a : BitVec 32) : wdo 35 a (BitVec.allOnes 32) = BitVec.allOnes 32 := by
  show a ||| BitVec.allOnes 32 = BitVec.allOnes 32
  exact BitVec.or_allOnes
theorem wdo_zero_z (op : Int) (a : BitVec 32) (h : op = 36 ∨ op = 37 ∨ op = 31) : wdo op a 0#32 = 0#32 := by
  rcases h with h | h | h <;> subst h <;> simp [wdo, BitVec.ult]
theorem wdo_rem_one (op : Int) (a : BitVec 32) (h : op = 43 ∨ op = 44) : wdo op a 1#32 = 0#32 := by
  rcases h with h | h <;> subst h <;> simp [wdo]

theorem and31 (v : BitVec 32) : (v &&& 31#32).toNat = v.toNat % 32 := by
  rw [BitVec.toNat_and]
  exact Nat.and_two_pow_sub_one_eq_mod v.toNat 5
def isShift (op : Int) : Bool := op = 29 || op = 33 || op = 34
theorem wdo_shift (op : Int) (a v w : BitVec 32) (h : isShift op = true) (e : v.toNat % 32 = w.toNat % 32) : wdo op a v = wdo op a w := by
  have e' : v &&& 31#32 = w &&& 31#32 := BitVec.eq_of_toNat_eq (by rw [and31, and31, e])
  simp only [isShift, Bool.or_eq_true, decide_eq_true_eq] at h
  rcases h with (h | h) | h <;> subst h <;> simp [wdo, e']
theorem wdo_shift0 (op : Int) (a v : BitVec 32) (h : isShift op = true) (e : v.toNat % 32 = 0) : wdo op a v = a := by
  have e' : v &&& 31#32 = 0#32 := BitVec.eq_of_toNat_eq (by rw [and31, e]; rfl)
  simp only [isShift, Bool.or_eq_true, decide_eq_true_eq] at h
  rcases h with (h | h) | h <;> subst h <;> simp [wdo, e']
/-- a shift by v.toNat below 32 -/
theorem wdo_sll (a v : BitVec 32) : wdo 29 a v = a <<< (v.toNat % 32) := by
  show a <<< (v &&& 31#32) = _
  rw [BitVec.shiftLeft_eq', and31]
theorem wdo_srl (a v : BitVec 32) : wdo 33 a v = a >>> (v.toNat % 32) := by
  show a >>> (v &&& 31#32) = _
  rw [BitVec.ushiftRight_eq', and31]
theorem wdo_sra (a v : BitVec 32) : wdo 34 a v = a.sshiftRight (v.toNat % 32) := by
  show a.sshiftRight (v &&& 31#32).toNat = _
  rw [and31]
theorem wdo_shift_twice (op : Int) (x w v : BitVec 32) (h : isShift op = true) (hw : w.toNat < 32) (hv : v.toNat < 32) (hs : w.toNat + v.toNat < 32) : wdo op (wdo op x w) v = wdo op x (w + v) := by
  have e : (w + v).toNat = w.toNat + v.toNat := by rw [BitVec.toNat_add]; omega
  simp only [isShift, Bool.or_eq_true, decide_eq_true_eq] at h
  rcases h with (h | h) | h <;> subst h
  · rw [wdo_sll, wdo_sll, wdo_sll, e, Nat.mod_eq_of_lt hw, Nat.mod_eq_of_lt hv, Nat.mod_eq_of_lt hs, BitVec.shiftLeft_add]
  · rw [wdo_srl, wdo_srl, wdo_srl, e, Nat.mod_eq_of_lt hw, Nat.mod_eq_of_lt hv, Nat.mod_eq_of_lt hs, BitVec.shiftRight_add]
  · rw [wdo_sra, wdo_sra, wdo_sra, e, Nat.mod_eq_of_lt hw, Nat.mod_eq_of_lt hv, Nat.mod_eq_of_lt hs, BitVec.sshiftRight_add]
theorem wdo_shift_out (op : Int) (x w v : BitVec 32) (h : op = 29 ∨ op = 33) (hw : w.toNat < 32) (hv : v.toNat < 32) (hs : 32 ≤ w.toNat + v.toNat) : wdo op (wdo op x w) v = 0#32 := by
  rcases h with h | h <;> subst h
  · rw [wdo_sll, wdo_sll, Nat.mod_eq_of_lt hw, Nat.mod_eq_of_lt hv, ← BitVec.shiftLeft_add, BitVec.shiftLeft_eq_zero hs]
  · rw [wdo_srl, wdo_srl, Nat.mod_eq_of_lt hw, Nat.mod_eq_of_lt hv, ← BitVec.shiftRight_add, BitVec.ushiftRight_eq_zero hs]
theorem wdo_sra_out (x w v : BitVec 32) (hw : w.toNat < 32) (hv : v.toNat < 32) (hs : 32 ≤ w.toNat + v.toNat) : wdo 34 (wdo 34 x w) v = wdo 34 x 31#32 := by
  rw [wdo_sra, wdo_sra, wdo_sra, Nat.mod_eq_of_lt hw, Nat.mod_eq_of_lt hv, ← BitVec.sshiftRight_add]
  apply BitVec.eq_of_getLsbD_eq
  intro i hi
  simp only [BitVec.getLsbD_sshiftRight]
  have h31 : (31#32 : BitVec 32).toNat % 32 = 31 := rfl
  rw [h31]
  rw [if_neg (by omega)]
  by_cases h0 : i = 0
  · subst h0; simp [BitVec.msb_eq_getLsbD_last]
  · rw [if_neg (by omega)]
theorem wdo_assoc (op : Int) (x w v : BitVec 32) (h : op = 27 ∨ op = 36 ∨ op = 35 ∨ op = 32) : wdo op (wdo op x w) v = wdo op x (wdo op w v) := by
  rcases h with h | h | h | h <;> subst h <;> simp [wdo, BitVec.add_assoc, BitVec.and_assoc, BitVec.or_assoc, BitVec.xor_assoc]
theorem wdo_self_zero (op : Int) (a : BitVec 32) (h : op = 28 ∨ op = 32 ∨ op = 30 ∨ op = 31) : wdo op a a = 0#32 := by
  rcases h with h | h | h | h <;> subst h <;> simp [wdo, BitVec.slt, BitVec.ult]
theorem wdo_self (op : Int) (a : BitVec 32) (h : op = 36 ∨ op = 35) : wdo op a a = a := by
  rcases h with h | h <;> subst h <;> simp [wdo]
theorem wdo_add_self (a : BitVec 32) : wdo 27 a a = wdo 29 a 1#32 := by
  rw [wdo_sll]
  apply BitVec.eq_of_toNat_eq
  simp [wdo, BitVec.toNat_add, BitVec.toNat_shiftLeft, Nat.shiftLeft_eq]
  omega
theorem wdo_mul_pow (a v k : BitVec 32) (hk : k.toNat < 32) (hv : v.toNat = 2 ^ k.toNat) : wdo 37 a v = wdo 29 a k := by
  rw [wdo_sll, Nat.mod_eq_of_lt hk]
  apply BitVec.eq_of_toNat_eq
  simp [wdo, BitVec.toNat_mul, BitVec.toNat_shiftLeft, Nat.shiftLeft_eq, hv]
theorem wdo_divu_pow (a v k : BitVec 32) (hk : k.toNat < 32) (hv : v.toNat = 2 ^ k.toNat) : wdo 42 a v = wdo 33 a k := by
  rw [wdo_srl, Nat.mod_eq_of_lt hk]
  have h0 : ¬ v = 0#32 := by
    intro h
    rw [h] at hv
    have := Nat.two_pow_pos k.toNat
    simp at hv
    omega
  apply BitVec.eq_of_toNat_eq
  simp [wdo, h0, BitVec.toNat_udiv, BitVec.toNat_ushiftRight, Nat.shiftRight_eq_div_pow, hv]
theorem wdo_remu_pow (a v k : BitVec 32) (hk : k.toNat < 32) (hv : v.toNat = 2 ^ k.toNat) : wdo 44 a v = wdo 36 a (v - 1#32) := by
  have hp := Nat.two_pow_pos k.toNat
  have h0 : ¬ v = 0#32 := by
    intro h
    rw [h] at hv
    simp at hv
    omega
  have hlt := v.isLt
  have h1 : (v - 1#32).toNat = 2 ^ k.toNat - 1 := by
    rw [BitVec.toNat_sub, hv]
    simp
    rw [hv] at hlt
    omega
  apply BitVec.eq_of_toNat_eq
  have hl : (wdo 44 a v).toNat = a.toNat % 2 ^ k.toNat := by simp [wdo, h0, BitVec.toNat_umod, hv]
  have hr : (wdo 36 a (v - 1#32)).toNat = a.toNat &&& (v - 1#32).toNat := by simp [wdo]
  rw [hl, hr, h1, Nat.and_two_pow_sub_one_eq_mod]
end WhP
