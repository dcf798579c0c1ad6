/- What is made simple comes to the same. -/
import Derived.Test.YtjdckpeoinkafaaGreatDoorEv
import Derived.Test.YtjdckpeoinkafaaGreatDoorRw
import Derived.Test.YtjdckpeoinkafaaGreatDoorPlainW1
set_option linter.all false
namespace Wh.WhM
open Go WhS WhE
open WhR hiding shift one bit
abbrev W (op a b : Int) : Int := (WhI.wdo op a b).1
def InR (a : Int) : Prop := 0 ≤ a ∧ a < 4294967296
def bridged (op : Int) : Bool := op = 27 || op = 28 || op = 29 || op = 32 || op = 33 || op = 34 || op = 35 || op = 36 || op = 37 || op = 42 || op = 44
theorem toNat_toInt (x : BitVec 32) : (x.toNat : Int) = x.toInt % 4294967296 := by
  rw [BitVec.toInt_eq_toNat_cond]
  have := x.isLt
  have e : ((2 ^ 32 : Nat) : Int) = 4294967296 := by decide
  split <;> omega
theorem toInt_i32 {m : Nat} (h : m < 4294967296) : (BitVec.ofNat 32 m).toInt = IntKind.i32.wrap (m : Int) := by
  rw [i32_eq (by omega) (by omega), BitVec.toInt_eq_toNat_cond, WhB.toNat_ofNat h]
  have e : ((2 ^ 32 : Nat) : Int) = 4294967296 := by decide
  have e2 : (2 ^ 32 : Nat) = 4294967296 := by decide
  split <;> split <;> omega
/-- the code's reckoning is the one on bits -/
theorem wdo_bv {op : Int} {m n : Nat} (hm : m < 4294967296) (hn : n < 4294967296) (ho : bridged op = true) : W op m n = ((WhP.wdo op (BitVec.ofNat 32 m) (BitVec.ofNat 32 n)).toNat : Int) := by
  have tm := WhB.toNat_ofNat hm
  have tn := WhB.toNat_ofNat hn
  have e32 : (2 ^ 32 : Nat) = 4294967296 := by decide
  have hmin : min ((n % 32 : Nat) : Int).toNat 32 = n % 32 := by
    have : n % 32 < 32 := Nat.mod_lt _ (by decide)
    simp; omega
  simp only [bridged, Bool.or_eq_true, decide_eq_true_eq] at ho
  rcases ho with (((((((((h | h) | h) | h) | h) | h) | h) | h) | h) | h) | h <;> subst h
  · show IntKind.u32.wrap ((m : Int) + n) = ((BitVec.ofNat 32 m + BitVec.ofNat 32 n).toNat : Int)
    rw [BitVec.toNat_add, tm, tn, u32_mod, e32]; omega
  · show IntKind.u32.wrap ((m : Int) - n) = ((BitVec.ofNat 32 m - BitVec.ofNat 32 n).toNat : Int)
    rw [BitVec.toNat_sub, tm, tn, u32_mod, e32]; omega
  · rw [WhP.wdo_sll, BitVec.toNat_shiftLeft, tm, tn, e32, Nat.shiftLeft_eq]
    show IntKind.u32.wrap ((m : Int) * 2 ^ min (bits .and .u32 n 31).toNat 32) = _
    rw [and31_nat hn, hmin, u32_mod]
    have : ((2 ^ (n % 32) : Nat) : Int) = (2 : Int) ^ (n % 32) := by simp
    rw [← this, ← Int.natCast_mul]
    simp
  · show bits .xor .u32 m n = _
    rw [xor_nat hm hn]
    show _ = ((BitVec.ofNat 32 m ^^^ BitVec.ofNat 32 n).toNat : Int)
    rw [BitVec.toNat_xor, tm, tn]
  · rw [WhP.wdo_srl, BitVec.toNat_ushiftRight, tm, tn, Nat.shiftRight_eq_div_pow]
    show (m : Int).fdiv (2 ^ min (bits .and .u32 n 31).toNat 32) = _
    rw [and31_nat hn, hmin, fdiv_nat]
  · rw [WhP.wdo_sra, toNat_toInt, BitVec.toInt_sshiftRight, toInt_i32 hm, tn, Int.shiftRight_eq_div_pow]
    show IntKind.u32.wrap ((IntKind.i32.wrap (m : Int)).fdiv (2 ^ min (bits .and .u32 n 31).toNat 32)) = _
    rw [and31_nat hn, hmin, u32_mod, Int.fdiv_eq_ediv_of_nonneg _ (Int.le_of_lt (Int.pow_pos (by decide)))]
    simp
  · show bits .or .u32 m n = _
    rw [WhB.or_nat hm hn]
    show _ = ((BitVec.ofNat 32 m ||| BitVec.ofNat 32 n).toNat : Int)
    rw [BitVec.toNat_or, tm, tn]
  · show bits .and .u32 m n = _
    rw [WhB.and_nat hm hn]
    show _ = ((BitVec.ofNat 32 m &&& BitVec.ofNat 32 n).toNat : Int)
    rw [BitVec.toNat_and, tm, tn]
  · show IntKind.u32.wrap ((m : Int) * n) = ((BitVec.ofNat 32 m * BitVec.ofNat 32 n).toNat : Int)
    rw [BitVec.toNat_mul, tm, tn, u32_mod, e32, ← Int.natCast_mul]
    simp
  · show WhI.divided 42 m n = (((if BitVec.ofNat 32 n = 0#32 then BitVec.allOnes 32 else BitVec.udiv (BitVec.ofNat 32 m) (BitVec.ofNat 32 n)).toNat : Nat) : Int)
    by_cases h0 : n = 0
    · subst h0; rfl
    · have hb : ¬ BitVec.ofNat 32 n = 0#32 := by
        intro h
        have := congrArg BitVec.toNat h
        rw [tn] at this
        exact h0 this
      have hi : ¬ (n : Int) = 0 := by omega
      unfold WhI.divided
      rw [if_neg hb]
      have ed : (BitVec.udiv (BitVec.ofNat 32 m) (BitVec.ofNat 32 n)).toNat = m / n := by
        show ((BitVec.ofNat 32 m) / (BitVec.ofNat 32 n)).toNat = _
        rw [BitVec.toNat_udiv, tm, tn]
      rw [ed]
      simp only [hi, if_false, show ((42 : Int) = 42) = True by decide, if_true, WhI.u32]
      rw [Int.tdiv_eq_ediv_of_nonneg (by omega), u32_mod]
      have hle : m / n ≤ m := Nat.div_le_self _ _
      have : ((m : Int) / (n : Int)) = ((m / n : Nat) : Int) := by simp
      rw [this]
      generalize m / n = q at *
      omega
  · show WhI.divided 44 m n = (((if BitVec.ofNat 32 n = 0#32 then BitVec.ofNat 32 m else BitVec.umod (BitVec.ofNat 32 m) (BitVec.ofNat 32 n)).toNat : Nat) : Int)
    by_cases h0 : n = 0
    · subst h0
      simp only [if_true]
      rw [tm]
      rfl
    · have hb : ¬ BitVec.ofNat 32 n = 0#32 := by
        intro h
        have := congrArg BitVec.toNat h
        rw [tn] at this
        exact h0 this
      have hi : ¬ (n : Int) = 0 := by omega
      unfold WhI.divided
      rw [if_neg hb]
      have ed : (BitVec.umod (BitVec.ofNat 32 m) (BitVec.ofNat 32 n)).toNat = m % n := by
        show ((BitVec.ofNat 32 m) % (BitVec.ofNat 32 n)).toNat = _
        rw [BitVec.toNat_umod, tm, tn]
      rw [ed]
      simp only [hi, if_false, show ((44 : Int) = 42) = False by decide, if_true]
      rw [Int.tmod_eq_emod_of_nonneg (by omega)]
      simp
theorem InR.nat {a : Int} (h : InR a) : ∃ m : Nat, a = m ∧ m < 4294967296 := ⟨a.toNat, by have := h.1; omega, by have := h.1; have := h.2; omega⟩
/-- a law on bits is one of the code's -/
theorem lift2 {op op' a b a' b' : Int} (ho : bridged op = true) (ho' : bridged op' = true) (ha : InR a) (hb : InR b) (ha' : InR a') (hb' : InR b') (h : WhP.wdo op (BitVec.ofNat 32 a.toNat) (BitVec.ofNat 32 b.toNat) = WhP.wdo op' (BitVec.ofNat 32 a'.toNat) (BitVec.ofNat 32 b'.toNat)) : W op a b = W op' a' b' := by
  obtain ⟨m, rfl, hm⟩ := ha.nat
  obtain ⟨n, rfl, hn⟩ := hb.nat
  obtain ⟨m', rfl, hm'⟩ := ha'.nat
  obtain ⟨n', rfl, hn'⟩ := hb'.nat
  rw [wdo_bv hm hn ho, wdo_bv hm' hn' ho']
  simp only [Int.toNat_natCast] at h
  rw [h]
theorem lift1 {op a b c : Int} (ho : bridged op = true) (ha : InR a) (hb : InR b) (hc : InR c) (h : WhP.wdo op (BitVec.ofNat 32 a.toNat) (BitVec.ofNat 32 b.toNat) = BitVec.ofNat 32 c.toNat) : W op a b = c := by
  obtain ⟨m, rfl, hm⟩ := ha.nat
  obtain ⟨n, rfl, hn⟩ := hb.nat
  obtain ⟨k, rfl, hk⟩ := hc.nat
  rw [wdo_bv hm hn ho]
  simp only [Int.toNat_natCast] at h
  rw [h, WhB.toNat_ofNat hk]
theorem bvW {op a b : Int} (ho : bridged op = true) (ha : InR a) (hb : InR b) : BitVec.ofNat 32 (W op a b).toNat = WhP.wdo op (BitVec.ofNat 32 a.toNat) (BitVec.ofNat 32 b.toNat) := by
  obtain ⟨m, rfl, hm⟩ := ha.nat
  obtain ⟨n, rfl, hn⟩ := hb.nat
  rw [wdo_bv hm hn ho]
  simp
theorem W_rng {op a b : Int} (ha : InR a) (hb : InR b) : InR (W op a b) := wdo_rng ha hb
theorem R0 : InR 0 := ⟨by decide, by decide⟩
theorem R1 : InR 1 := ⟨by decide, by decide⟩
theorem RO : InR 4294967295 := ⟨by decide, by decide⟩
theorem bO : BitVec.ofNat 32 (4294967295 : Int).toNat = BitVec.allOnes 32 := by decide
theorem among_mem {op : Int} {l : List Int} (h : among op l = true) : op ∈ l := by simpa [among] using h
/-! the rules -/
theorem zero_r {op a : Int} (h : among op [27, 35, 32] = true) (ha : InR a) : W op a 0 = a := by
  have hm := among_mem h
  simp at hm
  have hb : bridged op = true := by simp [bridged]; omega
  exact lift1 hb ha R0 ha (WhP.wdo_zero_r op _ (by omega))
theorem one_r {op a : Int} (h : among op [37, 41, 42] = true) (ha : InR a) : W op a 1 = a := by
  have hm := among_mem h
  simp at hm
  rcases hm with rfl | rfl | rfl
  · exact lift1 rfl ha R1 ha (WhP.wdo_one_r 37 _ (by omega))
  · show WhI.divided 41 a 1 = a
    unfold WhI.divided
    have e1 : WhI.i32 1 = 1 := by decide
    have h1 : ¬ ((1 : Int) = 4294967295) := by decide
    simp [e1, h1]
    show IntKind.u32.wrap (IntKind.i32.wrap (IntKind.i32.wrap a)) = a
    have h1 := ha.1; have h2 := ha.2
    have hr := i32_rng h1 h2
    have : IntKind.i32.wrap (IntKind.i32.wrap a) = IntKind.i32.wrap a := IntWalk.i32_in _ ⟨by omega, by omega⟩
    rw [this, u32_mod, i32_eq h1 h2]
    split <;> omega
  · exact lift1 rfl ha R1 ha (WhP.wdo_one_r 42 _ (by omega))
theorem and_ones {a : Int} (ha : InR a) : W 36 a 4294967295 = a := lift1 rfl ha RO ha (by rw [bO]; exact WhP.wdo_and_ones _)
theorem or_ones {a : Int} (ha : InR a) : W 35 a 4294967295 = 4294967295 := lift1 rfl ha RO RO (by rw [bO]; exact WhP.wdo_or_ones _)
theorem zero_z {op a : Int} (h : among op [36, 37, 31] = true) (ha : InR a) : W op a 0 = 0 := by
  have hm := among_mem h
  simp at hm
  rcases hm with rfl | rfl | rfl
  · exact lift1 rfl ha R0 R0 (WhP.wdo_zero_z 36 _ (by omega))
  · exact lift1 rfl ha R0 R0 (WhP.wdo_zero_z 37 _ (by omega))
  · show WhI.flag (decide (a < 0)) = 0
    have := ha.1
    rw [decide_eq_false (by omega)]
    rfl
theorem rem_one {op a : Int} (h : among op [43, 44] = true) (ha : InR a) : W op a 1 = 0 := by
  have hm := among_mem h
  simp at hm
  rcases hm with rfl | rfl
  · show WhI.divided 43 a 1 = 0
    unfold WhI.divided
    have e1 : WhI.i32 1 = 1 := by decide
    have h1 : ¬ ((1 : Int) = 4294967295) := by decide
    simp [e1, h1]
    decide
  · exact lift1 rfl ha R1 R0 (WhP.wdo_rem_one 44 _ (by omega))
theorem isShift_of {op : Int} (h : shift op = true) : WhP.isShift op = true ∧ bridged op = true := by
  have hm := among_mem h
  simp at hm
  rcases hm with rfl | rfl | rfl <;> exact ⟨rfl, rfl⟩
theorem tn_of {v : Int} (h : InR v) : (BitVec.ofNat 32 v.toNat).toNat = v.toNat := WhB.toNat_ofNat (by have := h.1; have := h.2; omega)
theorem shift0 {op a v : Int} (h : shift op = true) (ha : InR a) (hv : InR v) (e : v.tmod 32 = 0) : W op a v = a := by
  obtain ⟨h1, h2⟩ := isShift_of h
  rw [Int.tmod_eq_emod_of_nonneg hv.1] at e
  exact lift1 h2 ha hv ha (WhP.wdo_shift0 op _ _ h1 (by rw [tn_of hv]; have := hv.1; omega))
theorem tmod_in {v : Int} (hv : InR v) : InR (v.tmod 32) := tmod_rng hv
theorem shift_mod {op a v : Int} (h : shift op = true) (ha : InR a) (hv : InR v) : W op a v = W op a (v.tmod 32) := by
  obtain ⟨h1, h2⟩ := isShift_of h
  refine lift2 h2 h2 ha hv ha (tmod_in hv) (WhP.wdo_shift op _ _ _ h1 ?_)
  rw [tn_of hv, tn_of (tmod_in hv), Int.tmod_eq_emod_of_nonneg hv.1]
  have := hv.1
  omega
theorem tz_pow : ∀ k : Nat, k < 32 → tz (2 ^ k) = k := by decide
theorem one_pow {v : Int} (hv : InR v) (h : one v = true) : ∃ k : Nat, k < 32 ∧ v = 2 ^ k ∧ IntKind.u32.wrap (tz v) = k := by
  obtain ⟨n, rfl, hn⟩ := hv.nat
  simp only [one, Bool.and_eq_true, Bool.not_eq_true', decide_eq_false_iff_not, decide_eq_true_eq] at h
  have hn0 : n ≠ 0 := by have := h.1; omega
  have e1 : IntKind.u32.wrap ((n : Int) - 1) = ((n - 1 : Nat) : Int) := by rw [u32_id (by omega) (by omega)]; omega
  have h2 := h.2
  rw [e1, WhB.and_nat hn (by omega)] at h2
  obtain ⟨k, hk⟩ := (Nat.and_sub_one_eq_zero_iff_isPowerOfTwo hn0).1 (by omega)
  have hk32 : k < 32 := by
    rcases Nat.lt_or_ge k 32 with h | h
    · exact h
    · have := Nat.pow_le_pow_right (n := 2) (by decide) h
      have e : 2 ^ 32 = 4294967296 := by decide
      omega
  subst hk
  have ep : ((2 ^ k : Nat) : Int) = (2 : Int) ^ k := by simp
  refine ⟨k, hk32, ep, ?_⟩
  rw [ep, tz_pow k hk32]
  exact u32_id (by omega) (by omega)
theorem pow_k {v : Int} {k : Nat} (hk : k < 32) (e : v = 2 ^ k) : (BitVec.ofNat 32 v.toNat).toNat = 2 ^ (BitVec.ofNat 32 ((k : Int)).toNat).toNat ∧ (BitVec.ofNat 32 ((k : Int)).toNat).toNat < 32 := by
  have h2 : 2 ^ k < 4294967296 := Nat.pow_lt_pow_right (by decide) (m := k) (n := 32) hk
  have ev : v.toNat = 2 ^ k := by
    subst e
    have ep : ((2 ^ k : Nat) : Int) = (2 : Int) ^ k := by simp
    rw [← ep, Int.toNat_natCast]
  rw [ev, WhB.toNat_ofNat h2, Int.toNat_natCast, WhB.toNat_ofNat (by omega)]
  exact ⟨rfl, hk⟩
theorem mul_pow {a v : Int} (ha : InR a) (hv : InR v) (h : one v = true) : W 37 a v = W 29 a (IntKind.u32.wrap (tz v)) := by
  obtain ⟨k, hk, e, et⟩ := one_pow hv h
  rw [et]
  obtain ⟨h1, h2⟩ := pow_k hk e
  exact lift2 rfl rfl ha hv ha ⟨by omega, by omega⟩ (WhP.wdo_mul_pow _ _ _ h2 h1)
theorem divu_pow {a v : Int} (ha : InR a) (hv : InR v) (h : one v = true) : W 42 a v = W 33 a (IntKind.u32.wrap (tz v)) := by
  obtain ⟨k, hk, e, et⟩ := one_pow hv h
  rw [et]
  obtain ⟨h1, h2⟩ := pow_k hk e
  exact lift2 rfl rfl ha hv ha ⟨by omega, by omega⟩ (WhP.wdo_divu_pow _ _ _ h2 h1)
theorem remu_pow {a v : Int} (ha : InR a) (hv : InR v) (h : one v = true) : W 44 a v = W 36 a (IntKind.u32.wrap (v - 1)) := by
  obtain ⟨k, hk, e, et⟩ := one_pow hv h
  obtain ⟨h1, h2⟩ := pow_k hk e
  have hv0 : 0 < v := by rw [e]; exact Int.pow_pos (by decide)
  have e1 : IntKind.u32.wrap (v - 1) = v - 1 := u32_id (by omega) (by have := hv.2; omega)
  rw [e1]
  refine lift2 rfl rfl ha hv ha ⟨by omega, by have := hv.2; omega⟩ ?_
  rw [WhP.wdo_remu_pow _ _ _ h2 h1]
  congr 1
  apply BitVec.eq_of_toNat_eq
  rw [BitVec.toNat_sub, tn_of hv, tn_of (v := v - 1) ⟨by omega, by have := hv.2; omega⟩]
  have := hv.2
  simp
  omega
theorem assoc {op x w v : Int} (h : among op [27, 36, 35, 32] = true) (hx : InR x) (hw : InR w) (hv : InR v) : W op (W op x w) v = W op x (W op w v) := by
  have hm := among_mem h
  simp at hm
  have hb : bridged op = true := by simp [bridged]; omega
  refine lift2 hb hb (W_rng hx hw) hv hx (W_rng hw hv) ?_
  rw [bvW hb hx hw, bvW hb hw hv]
  exact WhP.wdo_assoc op _ _ _ (by omega)
theorem shift_twice {op x w v : Int} (h : shift op = true) (hx : InR x) (hw : InR w) (hv : InR v) (hw2 : w < 32) (hs : w + v < 32) : W op (W op x w) v = W op x (w + v) := by
  obtain ⟨h1, h2⟩ := isShift_of h
  have a1 := hw.1; have a2 := hv.1
  have hwv : InR (w + v) := ⟨by omega, by omega⟩
  refine lift2 h2 h2 (W_rng hx hw) hv hx hwv ?_
  rw [bvW h2 hx hw, WhP.wdo_shift_twice op _ _ _ h1 (by rw [tn_of hw]; omega) (by rw [tn_of hv]; omega) (by rw [tn_of hw, tn_of hv]; omega)]
  congr 1
  apply BitVec.eq_of_toNat_eq
  rw [BitVec.toNat_add, tn_of hw, tn_of hv, tn_of hwv]
  omega
theorem shift_out {op x w v : Int} (h : shift op = true) (h34 : op ≠ 34) (hx : InR x) (hw : InR w) (hv : InR v) (hw2 : w < 32) (hv2 : v < 32) (hs : 32 ≤ w + v) : W op (W op x w) v = 0 := by
  obtain ⟨h1, h2⟩ := isShift_of h
  have a1 := hw.1; have a2 := hv.1
  have hm := among_mem h
  simp at hm
  refine lift1 h2 (W_rng hx hw) hv R0 ?_
  rw [bvW h2 hx hw]
  exact WhP.wdo_shift_out op _ _ _ (by omega) (by rw [tn_of hw]; omega) (by rw [tn_of hv]; omega) (by rw [tn_of hw, tn_of hv]; omega)
theorem sra_out {x w v : Int} (hx : InR x) (hw : InR w) (hv : InR v) (hw2 : w < 32) (hv2 : v < 32) (hs : 32 ≤ w + v) : W 34 (W 34 x w) v = W 34 x 31 := by
  have a1 := hw.1; have a2 := hv.1
  refine lift2 rfl rfl (W_rng hx hw) hv hx ⟨by decide, by decide⟩ ?_
  rw [bvW rfl hx hw]
  exact WhP.wdo_sra_out _ _ _ (by rw [tn_of hw]; omega) (by rw [tn_of hv]; omega) (by rw [tn_of hw, tn_of hv]; omega)
theorem self_zero {op a : Int} (h : op = 28 ∨ op = 32 ∨ op = 30 ∨ op = 31) (ha : InR a) : W op a a = 0 := by
  rcases h with rfl | rfl | rfl | rfl
  · exact lift1 rfl ha ha R0 (WhP.wdo_self_zero 28 _ (by omega))
  · exact lift1 rfl ha ha R0 (WhP.wdo_self_zero 32 _ (by omega))
  · show WhI.flag (decide (WhI.i32 a < WhI.i32 a)) = 0
    rw [decide_eq_false (by omega)]; rfl
  · show WhI.flag (decide (a < a)) = 0
    rw [decide_eq_false (by omega)]; rfl
theorem self_same {op a : Int} (h : op = 36 ∨ op = 35) (ha : InR a) : W op a a = a := by
  rcases h with rfl | rfl
  · exact lift1 rfl ha ha ha (WhP.wdo_self 36 _ (by omega))
  · exact lift1 rfl ha ha ha (WhP.wdo_self 35 _ (by omega))
theorem add_self {a : Int} (ha : InR a) : W 27 a a = W 29 a 1 := lift2 rfl rfl ha ha ha R1 (WhP.wdo_add_self _)
theorem sub_neg {a w : Int} (ha : InR a) (hw : InR w) : W 28 a w = W 27 a (IntKind.u32.wrap (0 - w)) := by
  refine lift2 rfl rfl ha hw ha (u32_rng _) ?_
  rw [WhP.wdo_sub]
  congr 1
  apply BitVec.eq_of_toNat_eq
  rw [BitVec.toNat_neg, tn_of hw, tn_of (u32_rng _), u32_mod]
  have := hw.1; have := hw.2
  have e32 : (2 ^ 32 : Nat) = 4294967296 := by decide
  omega
theorem turn {op a b : Int} (h : turns op = true) (ha : InR a) (hb : InR b) : W op a b = W op b a := by
  have hm := among_mem h
  simp at hm
  have h38 : ∀ op : Int, op = 38 ∨ op = 40 → WhI.high op a b = WhI.high op b a := by
    intro op ho
    unfold WhI.high
    rcases ho with rfl | rfl
    · simp
      rw [Int.mul_comm]
    · simp
      rw [Int.mul_comm]
  rcases hm with rfl | rfl | rfl | rfl | rfl | rfl | rfl
  · exact lift2 rfl rfl ha hb hb ha (WhP.wdo_comm 27 _ _ rfl)
  · exact lift2 rfl rfl ha hb hb ha (WhP.wdo_comm 36 _ _ rfl)
  · exact lift2 rfl rfl ha hb hb ha (WhP.wdo_comm 35 _ _ rfl)
  · exact lift2 rfl rfl ha hb hb ha (WhP.wdo_comm 32 _ _ rfl)
  · exact lift2 rfl rfl ha hb hb ha (WhP.wdo_comm 37 _ _ rfl)
  · exact h38 38 (.inl rfl)
  · exact h38 40 (.inr rfl)
end Wh.WhM
