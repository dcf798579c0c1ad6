/- What single operations come to. -/
import Derived.Test.YtjdckpeoinkafaaGreatDoorFwB
set_option linter.all false
namespace Wh
open Go

class UT (P : Program) (t : TypeId) (d : outParam TypeDesc) : Prop where eq : P.underlying t = some d
class TI (P : Program) (t : TypeId) (size : outParam Nat) (zero : outParam Value) (bytes : outParam Nat) : Prop where eq : (P.info? t).map (fun i => (i.size, i.zero, i.bytes)) = some (size, some zero, bytes)
/-- a type whose values are one cell -/
class One (P : Program) (t : TypeId) : Prop where eq : (match P.underlying t with | some (.struct _) => false | some (.array _ _) => false | some _ => true | none => false) = true
/-- a type whose values are some cells -/
class Agg (P : Program) (t : TypeId) : Prop where eq : (match P.underlying t with | some (.struct _) => true | some (.array _ _) => true | _ => false) = true
/-- a field: its cell, its type -/
class FO (P : Program) (s : TypeId) (i : Nat) (off : outParam Nat) (ty : outParam TypeId) : Prop where
  eq : (match P.underlying s with | some (.struct fs) => (fs[i]?).map (fun f => (f.offset, f.type)) | _ => none) = some (off, ty)
/-- a function with a body -/
class FN (P : Program) (g : FuncId) : Prop where eq : ((P.funcs[g]?).map fun fn => !(fn.name == "runtime.NumGoroutine") && fn.body.isSome) = some true

section
variable {P : Program} {n : Nat} {f : Fr} {w : World} {o : Oper}

theorem info_of {t : TypeId} {size bytes : Nat} {zero : Value} (h : TI P t size zero bytes) : ∃ i, P.info? t = some i ∧ i.size = size ∧ i.zero = some zero ∧ i.bytes = bytes := by
  have := h.eq
  cases hi : P.info? t with
  | none => rw [hi] at this; simp at this
  | some i => rw [hi] at this; simp at this; exact ⟨i, rfl, this.1, this.2.1, this.2.2⟩
theorem run_underlying' {t : TypeId} {d : TypeDesc} (h : UT P t d) (w : World) : (underlying t).run P w = .ok d w := run_underlying h.eq w
theorem run_typeInfo {t : TypeId} {i : TypeInfo} (h : P.info? t = some i) (w : World) : (typeInfo t).run P w = .ok i w := by simp [typeInfo, program, Sem.run, h]
theorem run_sizeOf {t : TypeId} {size bytes : Nat} {zero : Value} (h : TI P t size zero bytes) (w : World) : (Go.sizeOf t).run P w = .ok size w := by
  obtain ⟨i, hi, h1, _, _⟩ := info_of h
  simp [Go.sizeOf, run_typeInfo hi, h1]
theorem run_zeroValue {t : TypeId} {size bytes : Nat} {zero : Value} (h : TI P t size zero bytes) (w : World) : (zeroValue t).run P w = .ok zero w := by
  obtain ⟨i, hi, _, h1, _⟩ := info_of h
  simp [zeroValue, run_typeInfo hi, h1]
theorem run_isAgg1 {t : TypeId} (h : One P t) (w : World) : (isAgg t).run P w = .ok false w := by
  have := h.eq
  cases hu : P.underlying t with
  | none => rw [hu] at this; simp at this
  | some d =>
    rw [hu] at this
    cases d <;> first | (simp at this; done) | simp [isAgg, run_underlying hu]
theorem run_isAggA {t : TypeId} (h : Agg P t) (w : World) : (isAgg t).run P w = .ok true w := by
  have := h.eq
  cases hu : P.underlying t with
  | none => rw [hu] at this; simp at this
  | some d =>
    rw [hu] at this
    cases d <;> first | (simp at this; done) | simp [isAgg, run_underlying hu]

theorem r_mv {x : Operand} {v : Value} (ho : o.op = .move x := by rfl) (hv : ev n f x = v := by first | ((conv => lhs; whnf); done) | rfl) : (execOp (ev n f) o).run P w = .ok (.value v) w := by
  simp [execOp, ho, hv]
theorem r_as {x : Operand} {v : Value} (ho : o.op = .assign x := by rfl) (hv : ev n f x = v := by first | ((conv => lhs; whnf); done) | rfl) : (execOp (ev n f) o).run P w = .ok (.value v) w := by
  simp [execOp, ho, hv]
theorem r_pick {c x y : Operand} {b : Bool} {v : Value} (ho : o.op = .pick c x y := by rfl) (hc : ev n f c = .bool b := by rfl) (hv : (if b then ev n f x else ev n f y) = v := by first | ((conv => lhs; whnf); done) | rfl) :
    (execOp (ev n f) o).run P w = .ok (.value v) w := by
  simp only [execOp, ho, hc, asBool]
  cases b <;> simp at hv <;> simp [hv]
theorem r_nil {x : Operand} {a : Addr} (ho : o.op = .nilCheck x := by rfl) (hv : ev n f x = .pointer (some a) := by rfl) : (execOp (ev n f) o).run P w = .ok (.value (.pointer (some a))) w := by
  simp [execOp, ho, hv]

/-- what a reckoning on two whole numbers comes to, where it always comes to something -/
def bopI (op : BinOp) (k : IntKind) (a b : Int) : Option Value :=
  match op with
  | .add => some (.int k (k.wrap (a + b)))
  | .sub => some (.int k (k.wrap (a - b)))
  | .mul => some (.int k (k.wrap (a * b)))
  | .and => some (.int k (bits .and k a b))
  | .or => some (.int k (bits .or k a b))
  | .xor => some (.int k (bits .xor k a b))
  | .andNot => some (.int k (bits .andNot k a b))
  | .eql => some (.bool (decide (a = b)))
  | .neq => some (.bool (!decide (a = b)))
  | .lss => some (.bool (decide (a < b)))
  | .leq => some (.bool (decide (a ≤ b)))
  | .gtr => some (.bool (decide (a > b)))
  | .geq => some (.bool (decide (a ≥ b)))
  | _ => none

theorem eqGuard_int (op : BinOp) (t : TypeId) (x y : Operand) (k : IntKind) (a : Int) (v : Value) : eqGuard op t x y (.int k a) v = pure () := by cases op <;> rfl
theorem eqGuard_bool (op : BinOp) (t : TypeId) (x y : Operand) (b : Bool) (v : Value) : eqGuard op t x y (.bool b) v = pure () := by cases op <;> rfl

theorem r_bin {op : BinOp} {t t2 : TypeId} {x y : Operand} {k : IntKind} {a b : Int} {v : Value} (ho : o.op = .binOp op t x y t2 := by rfl) (hx : ev n f x = .int k a := by rfl) (hy : ev n f y = .int k b := by rfl)
    (hv : bopI op k a b = some v := by rfl) : (execOp (ev n f) o).run P w = .ok (.value v) w := by
  simp only [execOp, ho, hx, hy, eqGuard_int]
  cases op <;> simp only [bopI, Option.some.injEq, reduceCtorEq] at hv <;> subst hv <;>
    first | (simp [binOp, Op.intArith, Op.intCmp, Op.intBits, bits]; done) | (simp [binOp, Op.intArith, Op.intCmp, Op.intBits, bits]; rfl)
/-- a sum, a difference, a product that is in its kind's bounds -/
theorem r_add {t t2 : TypeId} {x y : Operand} {k : IntKind} {a b : Int} (ho : o.op = .binOp .add t x y t2 := by rfl) (hx : ev n f x = .int k a := by rfl) (hy : ev n f y = .int k b := by rfl)
    (hk : k.wrap (a + b) = a + b) : (execOp (ev n f) o).run P w = .ok (.value (.int k (a + b))) w := r_bin ho hx hy (by simp [bopI, hk])
theorem r_sub {t t2 : TypeId} {x y : Operand} {k : IntKind} {a b : Int} (ho : o.op = .binOp .sub t x y t2 := by rfl) (hx : ev n f x = .int k a := by rfl) (hy : ev n f y = .int k b := by rfl)
    (hk : k.wrap (a - b) = a - b) : (execOp (ev n f) o).run P w = .ok (.value (.int k (a - b))) w := r_bin ho hx hy (by simp [bopI, hk])
theorem r_mul {t t2 : TypeId} {x y : Operand} {k : IntKind} {a b : Int} (ho : o.op = .binOp .mul t x y t2 := by rfl) (hx : ev n f x = .int k a := by rfl) (hy : ev n f y = .int k b := by rfl)
    (hk : k.wrap (a * b) = a * b) : (execOp (ev n f) o).run P w = .ok (.value (.int k (a * b))) w := r_bin ho hx hy (by simp [bopI, hk])
theorem r_quo {t t2 : TypeId} {x y : Operand} {k : IntKind} {a b : Int} (ho : o.op = .binOp .quo t x y t2 := by rfl) (hx : ev n f x = .int k a := by rfl) (hy : ev n f y = .int k b := by rfl)
    (hb : b ≠ 0) : (execOp (ev n f) o).run P w = .ok (.value (.int k (k.wrap (a.tdiv b)))) w := by
  simp [execOp, ho, hx, hy, eqGuard_int, binOp, Op.intDiv, hb]
theorem r_rem {t t2 : TypeId} {x y : Operand} {k : IntKind} {a b : Int} (ho : o.op = .binOp .rem t x y t2 := by rfl) (hx : ev n f x = .int k a := by rfl) (hy : ev n f y = .int k b := by rfl)
    (hb : b ≠ 0) : (execOp (ev n f) o).run P w = .ok (.value (.int k (a.tmod b))) w := by
  simp [execOp, ho, hx, hy, eqGuard_int, binOp, Op.intDiv, hb]
theorem r_shl {t t2 : TypeId} {x y : Operand} {k k2 : IntKind} {a b : Int} (ho : o.op = .binOp .shl t x y t2 := by rfl) (hx : ev n f x = .int k a := by rfl) (hy : ev n f y = .int k2 b := by rfl)
    (hb : 0 ≤ b) : (execOp (ev n f) o).run P w = .ok (.value (.int k (k.wrap (a * 2 ^ (min b.toNat k.bits))))) w := by
  simp [execOp, ho, hx, hy, eqGuard_int, binOp, Op.shift, Int.not_lt.2 hb]
theorem r_shr {t t2 : TypeId} {x y : Operand} {k k2 : IntKind} {a b : Int} (ho : o.op = .binOp .shr t x y t2 := by rfl) (hx : ev n f x = .int k a := by rfl) (hy : ev n f y = .int k2 b := by rfl)
    (hb : 0 ≤ b) : (execOp (ev n f) o).run P w = .ok (.value (.int k (a.fdiv (2 ^ (min b.toNat k.bits))))) w := by
  simp [execOp, ho, hx, hy, eqGuard_int, binOp, Op.shift, Int.not_lt.2 hb]
theorem r_eqb {t t2 : TypeId} {x y : Operand} {a b : Bool} (ho : o.op = .binOp .eql t x y t2 := by rfl) (hx : ev n f x = .bool a := by rfl) (hy : ev n f y = .bool b := by rfl) (ht : UT P t .bool := by infer_instance) :
    (execOp (ev n f) o).run P w = .ok (.value (.bool (a == b))) w := by
  have h1 : binOp .eql t (.bool a) (.bool b) = (do pure (.bool (← Op.equal t (.bool a) (.bool b)))) := rfl
  simp [execOp, ho, hx, hy, eqGuard_bool, h1, run_equal_bool (P := P) (w := w) t a b ht.eq]
theorem r_neb {t t2 : TypeId} {x y : Operand} {a b : Bool} (ho : o.op = .binOp .neq t x y t2 := by rfl) (hx : ev n f x = .bool a := by rfl) (hy : ev n f y = .bool b := by rfl) (ht : UT P t .bool := by infer_instance) :
    (execOp (ev n f) o).run P w = .ok (.value (.bool (a != b))) w := by
  have h1 : binOp .neq t (.bool a) (.bool b) = (do pure (.bool (!(← Op.equal t (.bool a) (.bool b))))) := rfl
  simp [execOp, ho, hx, hy, eqGuard_bool, h1, run_equal_bool (P := P) (w := w) t a b ht.eq, bne]
theorem r_not {t : TypeId} {x : Operand} {b : Bool} (ho : o.op = .unOp .not t x := by rfl) (hx : ev n f x = .bool b := by rfl) : (execOp (ev n f) o).run P w = .ok (.value (.bool !b)) w := by
  simp [execOp, ho, hx, Op.unary]
theorem r_neg {t : TypeId} {x : Operand} {k : IntKind} {a : Int} (ho : o.op = .unOp .neg t x := by rfl) (hx : ev n f x = .int k a := by rfl) : (execOp (ev n f) o).run P w = .ok (.value (.int k (k.wrap (0 - a)))) w := by
  simp [execOp, ho, hx, Op.unary, Op.intArith]
theorem r_cpl {t : TypeId} {x : Operand} {k : IntKind} {a : Int} (ho : o.op = .unOp .xor t x := by rfl) (hx : ev n f x = .int k a := by rfl) : (execOp (ev n f) o).run P w = .ok (.value (.int k (bits .xor k (if k.signed then -1 else k.max) a))) w := by
  simp [execOp, ho, hx, Op.unary, Op.intBits, bits]
theorem r_cv {s d : TypeId} {x : Operand} {k k' : IntKind} {a : Int} {ds' : TypeDesc} (ho : o.op = .convert s d x := by rfl) (hx : ev n f x = .int k' a := by rfl) (hs : UT P s ds' := by infer_instance) (hd : UT P d (.int k) := by infer_instance) :
    (execOp (ev n f) o).run P w = .ok (.value (.int k (k.wrap a))) w := by
  simp [execOp, ho, hx, convert, run_underlying' hs, run_underlying' hd, Conv.intToInt]
theorem r_ext {x : Operand} {i : Nat} {vs : Array Value} {v : Value} (ho : o.op = .extract x i := by rfl) (hx : ev n f x = .tuple vs := by rfl) (hv : vs[i]? = some v := by rfl) :
    (execOp (ev n f) o).run P w = .ok (.value v) w := by
  simp [execOp, ho, hx, Instr.extract, hv]
theorem add_of (g p k : Nat) : (⟨g, p, none⟩ : Addr).add k = ⟨g, p + k, none⟩ := by
  unfold Addr.add
  split
  · rename_i e; subst e; rfl
  · rfl
theorem r_fa {s : TypeId} {x : Operand} {i : Nat} {g p : Nat} {off : Nat} {ty : TypeId} {size bytes : Nat} {zero : Value} (ho : o.op = .fieldAddr s x i := by rfl) (hx : ev n f x = .pointer (some ⟨g, p, none⟩) := by rfl)
    (hF : FO P s i off ty := by infer_instance) (hT : TI P ty size zero bytes := by infer_instance) (hs : Nat.beq size 0 = false := by rfl) :
    (execOp (ev n f) o).run P w = .ok (.value (.pointer (some ⟨g, p + off, none⟩))) w := by
  have h := hF.eq
  have hs' : ¬ size = 0 := fun e => by subst e; simp at hs
  cases hu : P.underlying s with
  | none => rw [hu] at h; simp at h
  | some d =>
    rw [hu] at h
    cases d with
    | struct fs =>
      simp only at h
      cases hf : fs[i]? with
      | none => rw [hf] at h; simp at h
      | some fl =>
        rw [hf] at h
        simp only [Option.map_some, Option.some.injEq, Prod.mk.injEq] at h
        obtain ⟨h1, h2⟩ := h
        subst h1 h2
        have ha : (⟨g, p, none⟩ : Addr).add fl.offset = ⟨g, p + fl.offset, none⟩ := add_of g p fl.offset
        simp [execOp, ho, hx, Instr.fieldAt, run_underlying hu, hf, Instr.sureAddr, fieldPlace, run_sizeOf hT, hs', ha]
    | _ => simp at h
theorem r_fld {s : TypeId} {x : Operand} {i : Nat} {cs : Array Value} {off : Nat} {ty : TypeId} {v : Value} (ho : o.op = .field s x i := by rfl) (hx : ev n f x = .agg cs := by rfl)
    (hF : FO P s i off ty := by infer_instance) (hT : One P ty := by infer_instance) (hv : cs[off]? = some v := by rfl) : (execOp (ev n f) o).run P w = .ok (.value v) w := by
  have h := hF.eq
  cases hu : P.underlying s with
  | none => rw [hu] at h; simp at h
  | some d =>
    rw [hu] at h
    cases d with
    | struct fs =>
      simp only at h
      cases hf : fs[i]? with
      | none => rw [hf] at h; simp at h
      | some fl =>
        rw [hf] at h
        simp only [Option.map_some, Option.some.injEq, Prod.mk.injEq] at h
        obtain ⟨h1, h2⟩ := h
        subst h1 h2
        simp [execOp, ho, hx, Instr.field, run_underlying hu, hf, asAgg, part, run_isAgg1 hT, hv]
    | _ => simp at h
theorem r_fldA {s : TypeId} {x : Operand} {i : Nat} {cs : Array Value} {off : Nat} {ty : TypeId} {size bytes : Nat} {zero : Value} (ho : o.op = .field s x i := by rfl) (hx : ev n f x = .agg cs := by rfl)
    (hF : FO P s i off ty := by infer_instance) (hT : Agg P ty := by infer_instance) (hS : TI P ty size zero bytes := by infer_instance) : (execOp (ev n f) o).run P w = .ok (.value (.agg (cs.extract off (off + size)))) w := by
  have h := hF.eq
  cases hu : P.underlying s with
  | none => rw [hu] at h; simp at h
  | some d =>
    rw [hu] at h
    cases d with
    | struct fs =>
      simp only at h
      cases hf : fs[i]? with
      | none => rw [hf] at h; simp at h
      | some fl =>
        rw [hf] at h
        simp only [Option.map_some, Option.some.injEq, Prod.mk.injEq] at h
        obtain ⟨h1, h2⟩ := h
        subst h1 h2
        simp [execOp, ho, hx, Instr.field, run_underlying hu, hf, asAgg, part, run_isAggA hT, run_sizeOf hS]
    | _ => simp at h
/-- the address of an array's element -/
theorem r_iaA {t e : TypeId} {x y : Operand} {g p len : Nat} {k : IntKind} {i : Int} {size bytes : Nat} {zero : Value} (ho : o.op = .indexAddr t x y := by rfl) (hx : ev n f x = .pointer (some ⟨g, p, none⟩) := by rfl)
    (hy : ev n f y = .int k i := by rfl) (hT : UT P t (.array len e) := by infer_instance) (hS : TI P e size zero bytes := by infer_instance) (h0 : 0 ≤ i) (h1 : i < len) :
    (execOp (ev n f) o).run P w = .ok (.value (.pointer (some ⟨g, p + i.toNat * size, none⟩))) w := by
  simp [execOp, ho, hx, hy, Instr.indexAt, asIntOf, run_underlying' hT, Instr.sureAddr, h0, h1, run_sizeOf hS, add_of]
/-- the address of a slice's element -/
theorem r_iaS {t e : TypeId} {x y : Operand} {a : Addr} {len cap : Nat} {k : IntKind} {i : Int} {size bytes : Nat} {zero : Value} (ho : o.op = .indexAddr t x y := by rfl) (hx : ev n f x = .slice (some a) len cap := by rfl)
    (hy : ev n f y = .int k i := by rfl) (hT : UT P t (.slice e) := by infer_instance) (hS : TI P e size zero bytes := by infer_instance) (h0 : 0 ≤ i) (h1 : i < len) :
    (execOp (ev n f) o).run P w = .ok (.value (.pointer (some (a.add (i.toNat * size))))) w := by
  simp [execOp, ho, hx, hy, Instr.indexAt, asIntOf, run_underlying' hT, h0, h1, run_sizeOf hS]
/-- an element of an array's value -/
theorem r_ix {t e : TypeId} {x y : Operand} {cs : Array Value} {len : Nat} {k : IntKind} {i : Int} {size bytes : Nat} {zero v : Value} (ho : o.op = .index t x y := by rfl) (hx : ev n f x = .agg cs := by rfl)
    (hy : ev n f y = .int k i := by rfl) (hT : UT P t (.array len e) := by infer_instance) (hS : TI P e size zero bytes := by infer_instance) (hO : One P e := by infer_instance) (h0 : 0 ≤ i) (h1 : i < len) (hv : cs[i.toNat * size]? = some v) :
    (execOp (ev n f) o).run P w = .ok (.value v) w := by
  simp [execOp, ho, hx, hy, Instr.index, asIntOf, run_underlying' hT, h0, h1, run_sizeOf hS, part, run_isAgg1 hO, hv]
theorem r_ixStr {t : TypeId} {x y : Operand} {s : ByteArray} {k : IntKind} {i : Int} {b : UInt8} (ho : o.op = .index t x y := by rfl) (hx : ev n f x = .string s := by rfl)
    (hy : ev n f y = .int k i := by rfl) (hT : UT P t .string := by infer_instance) (h0 : 0 ≤ i) (hv : s[i.toNat]? = some b) :
    (execOp (ev n f) o).run P w = .ok (.value (.int .u8 b.toNat)) w := by
  simp [execOp, ho, hx, hy, Instr.index, asIntOf, run_underlying' hT, h0, hv]
theorem r_len {x : Operand} {t e : TypeId} {a : Option Addr} {l c : Nat} (ho : o.op = .call { callee := .builtin .len, args := #[x], argTypes := #[t] } := by rfl) (hx : ev n f x = .slice a l c := by rfl) (hT : UT P t (.slice e) := by infer_instance) :
    (execOp (ev n f) o).run P w = .ok (.value (.int .i64 l)) w := by
  simp [execOp, ho, resolve, invoke, builtin, hx, Builtin.len_, run_underlying' hT, goInt]
theorem r_lenS {x : Operand} {t : TypeId} {s : ByteArray} (ho : o.op = .call { callee := .builtin .len, args := #[x], argTypes := #[t] } := by rfl) (hx : ev n f x = .string s := by rfl) (hT : UT P t .string := by infer_instance) :
    (execOp (ev n f) o).run P w = .ok (.value (.int .i64 s.size)) w := by
  simp [execOp, ho, resolve, invoke, builtin, hx, Builtin.len_, run_underlying' hT, goInt]
theorem r_lenA {x : Operand} {t e : TypeId} {l : Nat} (ho : o.op = .call { callee := .builtin .len, args := #[x], argTypes := #[t] } := by rfl) (hT : UT P t (.array l e) := by infer_instance) :
    (execOp (ev n f) o).run P w = .ok (.value (.int .i64 l)) w := by
  simp [execOp, ho, resolve, invoke, builtin, Builtin.len_, run_underlying' hT, goInt]
theorem r_min {x y : Operand} {tys : Array TypeId} {k k2 : IntKind} {a b : Int} (ho : o.op = .call { callee := .builtin .min, args := #[x, y], argTypes := tys } := by rfl) (hx : ev n f x = .int k a := by rfl) (hy : ev n f y = .int k2 b := by rfl) :
    (execOp (ev n f) o).run P w = .ok (.value (.int k (if b < a then b else a))) w := by
  simp [execOp, ho, resolve, invoke, builtin, hx, hy, Builtin.min_, Builtin.min2]
theorem r_max {x y : Operand} {tys : Array TypeId} {k k2 : IntKind} {a b : Int} (ho : o.op = .call { callee := .builtin .max, args := #[x, y], argTypes := tys } := by rfl) (hx : ev n f x = .int k a := by rfl) (hy : ev n f y = .int k2 b := by rfl) :
    (execOp (ev n f) o).run P w = .ok (.value (.int k (if b > a then b else a))) w := by
  simp [execOp, ho, resolve, invoke, builtin, hx, hy, Builtin.max_, Builtin.max2]
theorem r_fun {fn : Fn} {fs cs : Array Operand} {vs us : List Value} (ho : o.op = .makeFunc fn fs cs := by rfl) (h1 : fs.toList.map (ev n f) = vs) (h2 : cs.toList.map (ev n f) = us) :
    (execOp (ev n f) o).run P w = .ok (.value (.func fn vs.toArray us.toArray)) w := by
  have e1 : fs.map (ev n f) = vs.toArray := by rw [← h1]; apply Array.ext'; simp
  have e2 : cs.map (ev n f) = us.toArray := by rw [← h2]; apply Array.ext'; simp
  simp [execOp, ho, Instr.makeFunc, e1, e2]

/-! ### memory -/
variable {B : Nat} {w0 : World} {L : List Ck}
theorem cell_of_blk {g i : Nat} {cs : Array Value} {t : TypeId} (h : w.heap[g]? = some (.cells cs t (0, 0))) : w.cell? ⟨g, i, none⟩ = cs[i]? := cell_of_row w g i cs t (0, 0) h
theorem run_load1 {a : Addr} {v : Value} (h : w.cell? a = some v) : (load a).run P w = .ok v w := by simp [h]
theorem run_loadVar1 {t : TypeId} [h1 : One P t] {a : Addr} {v : Value} (h : w.cell? a = some v) : (loadVar t a).run P w = .ok v w := by
  simp [loadVar, run_isAgg1 h1, h]
theorem run_loadVarA {t : TypeId} [h1 : Agg P t] {size bytes : Nat} {zero : Value} [hS : TI P t size zero bytes] {g p : Nat} {bt : TypeId} {cs : Array Value} (hb : w.heap[g]? = some (.cells cs bt (0, 0))) (hp : p + size ≤ cs.size) :
    (loadVar t ⟨g, p, none⟩).run P w = .ok (.agg (cs.extract p (p + size))) w := by
  have hc : ∀ j v, (cs.extract p (p + size)).toList[j]? = some v → w.cell? ((⟨g, p, none⟩ : Addr).add j) = some v := by
    intro j v hj
    rw [add_of, cell_of_blk hb]
    simp only [Array.getElem?_toList, Array.getElem?_extract] at hj
    split at hj
    · exact hj
    · cases hj
  have := run_loadCells_list (P := P) (w := w) ⟨g, p, none⟩ _ hc
  have hl : (cs.extract p (p + size)).toList.length = size := by simp; omega
  rw [hl] at this
  simp only [Array.toArray_toList] at this
  simp [loadVar, run_isAggA h1, run_sizeOf hS, this]
/-- a cell of a block that is known -/
theorem r_ld {t : TypeId} {x : Operand} {g p : Nat} {bt : TypeId} {cs : Array Value} {mk : Array Value → List Ck} {v : Value} (H : Hp B w0 w L) (ho : o.op = .load t x := by rfl) (hx : ev n f x = .pointer (some ⟨g, p, none⟩) := by rfl)
    (h1 : One P t := by infer_instance) (hb : HasB L g bt cs mk := by infer_instance) (hv : cs[p]? = some v := by rfl) : (execOp (ev n f) o).run P w = .ok (.value v) w := by
  have hc : w.cell? ⟨g, p, none⟩ = some v := by rw [cell_of_blk (H.getB (h := hb))]; exact hv
  simp [execOp, ho, hx, Instr.loadAt, Instr.sureAddr, run_loadVar1 hc]
/-- a cell that is known -/
theorem r_ldc {t : TypeId} {x : Operand} {a : Addr} {v : Value} (hc : w.cell? a = some v) (ho : o.op = .load t x := by rfl) (hx : ev n f x = .pointer (some a) := by rfl)
    (h1 : One P t := by infer_instance) : (execOp (ev n f) o).run P w = .ok (.value v) w := by
  simp [execOp, ho, hx, Instr.loadAt, Instr.sureAddr, run_loadVar1 hc]
theorem r_ldA {t : TypeId} {x : Operand} {g p : Nat} {bt : TypeId} {cs : Array Value} {mk : Array Value → List Ck} {size bytes : Nat} {zero v : Value} (H : Hp B w0 w L) (ho : o.op = .load t x := by rfl) (hx : ev n f x = .pointer (some ⟨g, p, none⟩) := by rfl)
    (h1 : Agg P t := by infer_instance) (hS : TI P t size zero bytes := by infer_instance) (hb : HasB L g bt cs mk := by infer_instance) (hp : p + size ≤ cs.size) (hv : Value.agg (cs.extract p (p + size)) = v) : (execOp (ev n f) o).run P w = .ok (.value v) w := by
  simp [execOp, ho, hx, Instr.loadAt, Instr.sureAddr, run_loadVarA (H.getB (h := hb)) hp, hv]
/-- the whole of a block -/
theorem r_ldW {t : TypeId} {x : Operand} {g : Nat} {bt : TypeId} {cs : Array Value} {mk : Array Value → List Ck} {size bytes : Nat} {zero : Value} (H : Hp B w0 w L) (ho : o.op = .load t x := by rfl) (hx : ev n f x = .pointer (some ⟨g, 0, none⟩) := by rfl)
    (h1 : Agg P t := by infer_instance) (hS : TI P t size zero bytes := by infer_instance) (hb : HasB L g bt cs mk := by infer_instance) (hp : cs.size = size := by rfl) : (execOp (ev n f) o).run P w = .ok (.value (.agg cs)) w :=
  r_ldA H ho hx (h1 := h1) (hS := hS) (hb := hb) (hp := by omega) (hv := by rw [← hp]; simp)
theorem run_storeVar1 {t : TypeId} {size bytes : Nat} {zero : Value} [hS : TI P t size zero bytes] (hs : size = 1) {a : Addr} {v u : Value} (h1 : v.oneCell' = true) (hc : w.cell? a = some u) (hf : w.frozen? a = false) :
    (storeVar t a v).run P w = .ok () (w.setCell a v) := by
  subst hs
  have hcl : v.cells = #[v] := by cases v <;> first | rfl | simp [Value.oneCell'] at h1
  have hst : (store a v).run P w = .ok () (w.setCell a v) := by
    rw [run_store P w a v _ h1]
    simp [hc, hf]
  simp [storeVar, hcl, run_sizeOf hS, storeCells, Addr.add_zero', hst]
theorem frozen_of_blk {g i : Nat} {cs : Array Value} {t : TypeId} (h : w.heap[g]? = some (.cells cs t (0, 0))) : w.frozen? ⟨g, i, none⟩ = false := frozen_of_row w g i cs t h
theorem Hp.store {g p : Nat} {bt : TypeId} {cs : Array Value} {mk : Array Value → List Ck} [hb : HasB L g bt cs mk] (H : Hp B w0 w L) (v : Value) : Hp B w0 (w.setCell ⟨g, p, none⟩ v) (mk (cs.setIfInBounds p v)) :=
  H.setB (h := hb) _ (chg_setCell w g p v) (heap_setCell_same w g p cs bt v (H.getB (h := hb)))
/-- a store into a cell of a block that is known -/
theorem r_st {t : TypeId} {x y : Operand} {g p : Nat} {bt : TypeId} {cs : Array Value} {mk : Array Value → List Ck} {size bytes : Nat} {zero v : Value} (H : Hp B w0 w L) (ho : o.op = .store t x y := by rfl) (hx : ev n f x = .pointer (some ⟨g, p, none⟩) := by rfl)
    (hy : ev n f y = v := by first | ((conv => lhs; whnf); done) | rfl) (h1 : v.oneCell' = true := by rfl) (hS : TI P t size zero bytes := by infer_instance) (hs : Nat.beq size 1 = true := by rfl) (hb : HasB L g bt cs mk := by infer_instance) (hp : Nat.blt p cs.size = true := by rfl) :
    ∃ w', (execOp (ev n f) o).run P w = .ok .skip w' ∧ Hp B w0 w' (mk (cs.setIfInBounds p v)) := by
  have hblk := H.getB (h := hb)
  have hp' : p < cs.size := blt_iff.1 hp
  have hc : w.cell? ⟨g, p, none⟩ = some cs[p] := by rw [cell_of_blk hblk]; simp [hp']
  refine ⟨_, ?_, H.store (hb := hb) v⟩
  have hs' : size = 1 := Nat.eq_of_beq_eq_true hs
  simp [execOp, ho, hx, hy, Instr.storeAt, Instr.sureAddr, run_storeVar1 (P := P) (t := t) hs' h1 hc (frozen_of_blk hblk)]
theorem run_newVar {t : TypeId} {v : Value} : (newVar t v).run P w = .ok ⟨w.heap.size, 0, none⟩ (w.alloc (.cells v.cells t)) := by
  simp [newVar, newRow]
/-- a new variable -/
theorem r_al {t : TypeId} {size bytes : Nat} {zero : Value} (H : Hp B w0 w L) (ho : o.op = .alloc t := by rfl) (hS : TI P t size zero bytes := by infer_instance) :
    ∃ g w', (execOp (ev n f) o).run P w = .ok (.value (.pointer (some ⟨g, 0, none⟩))) w' ∧ Hp B w0 w' (Blk g t zero.cells :: L) := by
  refine ⟨w.heap.size, _, ?_, H.alloc t zero.cells⟩
  simp [execOp, ho, Instr.alloc, run_zeroValue hS, run_newVar]
theorem r_box {t : TypeId} {x : Operand} {v : Value} (H : Hp B w0 w L) (ho : o.op = .box t x := by rfl) (hx : ev n f x = v := by first | ((conv => lhs; whnf); done) | rfl) :
    ∃ g w', (execOp (ev n f) o).run P w = .ok (.value (.pointer (some ⟨g, 0, none⟩))) w' ∧ Hp B w0 w' (Blk g t v.cells :: L) := by
  refine ⟨w.heap.size, _, ?_, H.alloc t v.cells⟩
  simp [execOp, ho, hx, Instr.box, run_newVar]
theorem r_mmap {t : TypeId} (H : Hp B w0 w L) (ho : o.op = .makeMap t none := by rfl) :
    ∃ g w', (execOp (ev n f) o).run P w = .ok (.value (.map (some g))) w' ∧ Hp B w0 w' (Ob g (.map #[] 0) :: L) := by
  refine ⟨w.heap.size, _, ?_, H.allocO (.map #[] 0)⟩
  simp [execOp, ho, Instr.makeMap]

/-! ### calls -/
theorem run_callFunc {g : FuncId} [h : FN P g] (args : Array Value) : (callFunc g args).run P w = .ok (.enter g args) w := by
  have h := h.eq
  cases hf : P.funcs[g]? with
  | none => rw [hf] at h; simp at h
  | some fn =>
    rw [hf] at h
    simp only [Option.map_some, Option.some.injEq, Bool.and_eq_true, Bool.not_eq_true'] at h
    have hn : ¬ (fn.body.isNone = true) := by simp [Option.isNone_iff_eq_none]; intro e; rw [e] at h; simp at h
    unfold callFunc
    simp only [program, Sem.run_bind, Sem.run, Result.andThen_ok, hf, h.1, Bool.false_eq_true, if_false, hn, Sem.run_pure]
theorem r_call {g : FuncId} {xs : List Operand} {tys : Array TypeId} {vs : List Value} (ho : o.op = .call { callee := .value (.func g), args := xs.toArray, argTypes := tys } := by rfl) (h : FN P g := by infer_instance) (hv : xs.map (ev n f) = vs) :
    (execOp (ev n f) o).run P w = .ok (.enter g vs.toArray) w := by
  simp [execOp, ho, resolve, ev, Deferred.ofValue, invoke, run_callFunc, hv]
/-- a call of a function's value -/
theorem r_callV {x : Operand} {g : FuncId} {xs : List Operand} {tys : Array TypeId} {vs first cap : List Value} (ho : o.op = .call { callee := .value x, args := xs.toArray, argTypes := tys } := by rfl)
    (hx : ev n f x = .func (.func g) first.toArray cap.toArray := by rfl) (h : FN P g := by infer_instance) (hv : xs.map (ev n f) = vs) :
    (execOp (ev n f) o).run P w = .ok (.enter g (first ++ vs ++ cap).toArray) w := by
  simp [execOp, ho, resolve, hx, Deferred.ofValue, invoke, run_callFunc, hv]
end
end Wh
