/- Literals of structs and arrays; elements that are more than one cell. -/
import Derived.Test.YtjdckpeoinkafaaGreatDoorFwI
import Derived.Laws.CopyRow
import Derived.DataElems
import Derived.Test.YtjdckpeoinkafaaGreatDoorFwC
import Derived.Maps.Own
import Derived.Lib.SlKeysI
set_option linter.all false
namespace Wh
open Go
/-- where a struct's fields lie -/
class BS (P : Program) (t : TypeId) (pl : outParam (List (Nat × Nat))) : Prop where
  eq : ∃ fs : Array Field, P.underlying t = some (.struct fs) ∧ ∀ w, (fs.mapM fun (f : Field) => (do pure (f.offset, ← Go.sizeOf f.type) : Sem (Nat × Nat))).run P w = .ok pl.toArray w
def fillC (pl : List (Nat × Nat)) (cells : List Value) : List (Nat × Value) → Option (List Value)
  | [] => some cells
  | (i, v) :: r => match pl[i]? with
    | some (off, 1) => if Nat.blt off cells.length && v.oneCell' then fillC pl (cells.set off v) r else none
    | _ => none
theorem cells_one {v : Value} (h : v.oneCell' = true) : v.cells = #[v] := by cases v <;> first | rfl | (simp [Value.oneCell'] at h)
theorem fillC_fill (pl : List (Nat × Nat)) : ∀ (ps : List (Nat × Value)) (cs cs' : List Value), fillC pl cs ps = some cs' → Instr.fill (pl.toArray[·]?) cs.toArray ps = some cs'.toArray
  | [], cs, cs', h => by simp only [fillC, Option.some.injEq] at h; simp [Instr.fill, h]
  | (i, v) :: r, cs, cs', h => by
    simp only [fillC] at h
    split at h
    · rename_i off e
      split at h
      · rename_i hc
        simp only [Bool.and_eq_true] at hc
        have h1 := cells_one hc.2
        have h2 := blt_iff.1 hc.1
        have ih := fillC_fill pl r _ _ h
        simp only [Instr.fill, List.getElem?_toArray, e, h1]
        rw [if_neg (by simp; omega), ← ih]
        simp
      · cases h
    · cases h
section
variable {P : Program} {n : Nat} {f : Fr} {w : World} {o : Oper} {B : Nat} {w0 : World} {L : List Ck}
theorem chg_setRow (w : World) (g : Nat) (cs : Array Value) : Chg (fun k => k = g) w (w.setRow g cs) := by
  refine ⟨?_, fun k _ hk => ?_, rfl, rfl, rfl⟩
  · simp [World.setRow]
  · simp only [World.setRow]
    rw [Array.getElem?_modify, if_neg (fun e => hk e.symm)]
theorem heap_setRow_same (w : World) (g : Nat) (cs cs' : Array Value) (t : TypeId) (h : w.heap[g]? = some (.cells cs t (0, 0))) : (w.setRow g cs').heap[g]? = some (.cells cs' t (0, 0)) := by
  simp only [World.setRow]
  rw [Array.getElem?_modify, if_pos rfl, h]
  rfl
/-- a value of many cells is stored into a block, or a part of it -/
theorem r_stP {t : TypeId} {x y : Operand} {g p : Nat} {bt : TypeId} {cs vs : Array Value} {mk : Array Value → List Ck} {size bytes : Nat} {zero : Value} (H : Hp B w0 w L) (ho : o.op = .store t x y := by rfl) (hx : ev n f x = .pointer (some ⟨g, p, none⟩) := by rfl)
    (hy : ev n f y = .agg vs := by first | ((conv => lhs; whnf); done) | rfl) (hS : TI P t size zero bytes := by infer_instance) (hb : HasB L g bt cs mk := by infer_instance) (h1 : vs.toList.all (·.oneCell') = true := by rfl) (hs : vs.size = size := by rfl) (hp : p + size ≤ cs.size) :
    ∃ w', (execOp (ev n f) o).run P w = .ok .skip w' ∧ Hp B w0 w' (mk (cs.toList.take p ++ vs.toList ++ cs.toList.drop (p + size)).toArray) := by
  have hblk := H.getB (h := hb)
  have h2 : ∀ v ∈ vs.toList, v.oneCell' = true := List.all_eq_true.1 h1
  have := run_storeCells_at (P := P) g p bt vs.toList 0 cs w hblk (by simp; omega) h2
  refine ⟨_, ?_, H.setB (h := hb) _ (chg_setRow w g _) (heap_setRow_same w g cs _ bt hblk)⟩
  simp only [Nat.add_zero, Array.length_toList, hs] at this
  simp [execOp, ho, hx, hy, Instr.storeAt, Instr.sureAddr, storeVar, run_sizeOf hS, Value.cells, hs, this]
/-- the whole of a block -/
theorem r_stW {t : TypeId} {x y : Operand} {g : Nat} {bt : TypeId} {cs vs : Array Value} {mk : Array Value → List Ck} {size bytes : Nat} {zero : Value} (H : Hp B w0 w L) (ho : o.op = .store t x y := by rfl) (hx : ev n f x = .pointer (some ⟨g, 0, none⟩) := by rfl)
    (hy : ev n f y = .agg vs := by first | ((conv => lhs; whnf); done) | rfl) (hS : TI P t size zero bytes := by infer_instance) (hb : HasB L g bt cs mk := by infer_instance) (h1 : vs.toList.all (·.oneCell') = true := by rfl) (hs : vs.size = size := by rfl) (hp : cs.size = size := by rfl) :
    ∃ w', (execOp (ev n f) o).run P w = .ok .skip w' ∧ Hp B w0 w' (mk vs) := by
  obtain ⟨w', h, H'⟩ := r_stP (P := P) H ho hx hy hS hb h1 hs (by omega)
  refine ⟨w', h, ?_⟩
  have e : (cs.toList.take 0 ++ vs.toList ++ cs.toList.drop (0 + size)).toArray = vs := by
    apply Array.toList_inj.1
    simp [List.drop_of_length_le, hp]
  rwa [e] at H'
/-- a struct's literal -/
theorem r_bd {t : TypeId} {parts : Array (Nat × Operand)} {pl : List (Nat × Nat)} {ps : List (Nat × Value)} {cells zc : List Value} {zero : Value} {size bytes : Nat} (ho : o.op = .build t parts := by rfl) (hT : BS P t pl := by infer_instance) (hS : TI P t size zero bytes := by infer_instance)
    (hz : zero.cells.toList = zc := by rfl) (hp : parts.toList.map (fun x => (x.1, ev n f x.2)) = ps := by first | ((conv => lhs; whnf); done) | rfl) (hc : fillC pl zc ps = some cells := by rfl) :
    (execOp (ev n f) o).run P w = .ok (.value (.agg cells.toArray)) w := by
  obtain ⟨fs, h1, h2⟩ := hT.eq
  subst hz
  have := fillC_fill _ _ _ _ hc
  simp only [Array.toArray_toList, List.getElem?_toArray] at this
  have h3 := h2 w
  simp only [bind_pure_comp] at h3
  simp [execOp, ho, Instr.build, run_zeroValue hS, run_underlying h1, h3, hp, this]
/-- an array's literal, whole -/
theorem r_bda {t e : TypeId} {len : Nat} {parts : Array (Nat × Operand)} {size bytes size2 bytes2 : Nat} {zero zero2 : Value} (vs : List Value) (cells : List Value) (hc : vs.flatMap (fun v => v.cells.toList) = cells) (hp : parts.toList.map (fun x => (x.1, ev n f x.2)) = vs.zipIdx.map fun p => (p.2, p.1))
    (ho : o.op = .build t parts := by rfl) (hT : UT P t (.array len e) := by infer_instance) (hS : TI P e size zero bytes := by infer_instance) (hZ : TI P t size2 zero2 bytes2 := by infer_instance)
    (hv : ∀ v ∈ vs, v.cells.size = size) (hn : vs.length = len := by rfl) (hl : zero2.cells.size = len * size := by rfl) :
    (execOp (ev n f) o).run P w = .ok (.value (.agg cells.toArray)) w := by
  subst hc
  obtain ⟨r, hr, er⟩ := fill_all size vs 0 zero2.cells hv (by simp [hn, hl])
  have er' : r = (vs.flatMap (fun v => v.cells.toList)).toArray := by
    apply Array.toList_inj.1; rw [er]; simp
  subst er'
  have hr' : Instr.fill (fun i => some (i * size, size)) zero2.cells (parts.toList.map (fun x => (x.1, ev n f x.2))) = some (vs.flatMap (fun v => v.cells.toList)).toArray := by rw [hp]; exact hr
  have e1 := run_underlying' (P := P) (w := w) hT
  simp [execOp, ho, Instr.build, run_zeroValue hZ, e1, run_sizeOf hS, hr']
/-- an element of an array's value that is more than one cell -/
theorem r_ixA {t e : TypeId} {x y : Operand} {cs : Array Value} {len : Nat} {k : IntKind} {i : Int} {size bytes : Nat} {zero : Value} {ec : List Value} (ho : o.op = .index t x y := by rfl) (hx : ev n f x = .agg cs := by rfl)
    (hy : ev n f y = .int k i := by rfl) (hT : UT P t (.array len e) := by infer_instance) (hS : TI P e size zero bytes := by infer_instance) (hO : Agg P e := by infer_instance) (h0 : 0 ≤ i) (h1 : i < len) (hv : (cs.toList.drop (i.toNat * size)).take size = ec) :
    (execOp (ev n f) o).run P w = .ok (.value (.agg ec.toArray)) w := by
  subst hv
  have h2 : ((cs.toList.drop (i.toNat * size)).take size).toArray = cs.extract (i.toNat * size) (i.toNat * size + size) := by
    apply Array.toList_inj.1; simp [List.drop_take, Nat.add_sub_cancel_left]
  simp [execOp, ho, hx, hy, Instr.index, asIntOf, run_underlying' hT, h0, h1, run_sizeOf hS, part, run_isAggA hO, h2]
end
end Wh
namespace Wh
open Go
/-- cells that stand one after the other -/
def RowAt (w : World) (a : Addr) (xs : List Value) : Prop := ∀ j u, xs[j]? = some u → w.cell? (a.add j) = some u
def rowOf {α : Type} (enc : α → Value) (l : List α) : List Value := l.flatMap fun x => (enc x).cells.toList
theorem rowOf_length {α : Type} {enc : α → Value} {size : Nat} (hs : ∀ x, (enc x).cells.size = size) : ∀ l : List α, (rowOf enc l).length = l.length * size
  | [] => by simp [rowOf]
  | x :: l => by
    have := rowOf_length hs l
    simp only [rowOf] at this
    simp [rowOf, List.flatMap_cons, this, hs, Nat.add_mul, Nat.add_comm]
theorem rowOf_at {α : Type} {enc : α → Value} {size : Nat} (hs : ∀ x, (enc x).cells.size = size) : ∀ (l : List α) (i : Nat) (x : α), l[i]? = some x → ∀ j u, (enc x).cells[j]? = some u → (rowOf enc l)[i * size + j]? = some u
  | [], i, x, h, _, _, _ => by simp at h
  | y :: l, 0, x, h, j, u, hu => by
    simp only [List.getElem?_cons_zero, Option.some.injEq] at h
    subst h
    have hj : j < (enc y).cells.toList.length := by
      rcases Nat.lt_or_ge j (enc y).cells.size with h | h
      · simpa using h
      · rw [Array.getElem?_eq_none h] at hu; cases hu
    simp only [rowOf, List.flatMap_cons, Nat.zero_mul, Nat.zero_add]
    rw [List.getElem?_append_left hj]
    simpa using hu
  | y :: l, i + 1, x, h, j, u, hu => by
    have ih := rowOf_at hs l i x (by simpa using h) j u hu
    simp only [rowOf, List.flatMap_cons]
    rw [List.getElem?_append_right (by simp [hs, Nat.add_mul]; omega)]
    have e : (i + 1) * size + j - (enc y).cells.toList.length = i * size + j := by simp [hs, Nat.add_mul]; omega
    rw [e]
    exact ih
section
variable {P : Program} {n : Nat} {f : Fr} {w : World} {o : Oper} {B : Nat} {w0 : World} {L : List Ck}
theorem run_loadVarC {t : TypeId} [h1 : Agg P t] {size bytes : Nat} {zero : Value} [hS : TI P t size zero bytes] {a : Addr} {xs : Array Value} (hl : xs.size = size) (hc : ∀ j u, xs[j]? = some u → w.cell? (a.add j) = some u) :
    (loadVar t a).run P w = .ok (.agg xs) w := by
  have hc' : ∀ j v, xs.toList[j]? = some v → w.cell? (a.add j) = some v := by
    intro j v hj
    exact hc j v (by simpa using hj)
  have hl' : xs.toList.length = size := by simpa using hl
  have := run_loadCells_list (P := P) (w := w) a xs.toList hc'
  rw [hl'] at this
  simp only [Array.toArray_toList] at this
  simp [loadVar, run_isAggA h1, run_sizeOf hS, this]
/-- an element of a row is read: a struct -/
theorem r_ldR {α : Type} {enc : α → Value} {l : List α} {i : Nat} {y : α} {t : TypeId} {x : Operand} {a : Addr} {size bytes : Nat} {zero : Value} (hr : RowAt w a (rowOf enc l)) (hi : l[i]? = some y) (hs : ∀ x, (enc x).cells.size = size) (ho : o.op = .load t x := by rfl) (hx : ev n f x = .pointer (some (a.add (i * size))) := by rfl)
    (h1 : Agg P t := by infer_instance) (hS : TI P t size zero bytes := by infer_instance) : (execOp (ev n f) o).run P w = .ok (.value (.agg (enc y).cells)) w := by
  have : (loadVar t (a.add (i * size))).run P w = .ok (.agg (enc y).cells) w := run_loadVarC (hs y) fun j u hu => by
    rw [Addr.add_add]
    exact hr _ _ (rowOf_at hs l i y hi j u hu)
  simp [execOp, ho, hx, Instr.loadAt, Instr.sureAddr, this]
/-- an element of a row is read: one cell -/
theorem r_ldR1 {α : Type} {enc : α → Value} {l : List α} {i : Nat} {y : α} {t : TypeId} {x : Operand} {a : Addr} (hr : RowAt w a (rowOf enc l)) (hi : l[i]? = some y) (hs : ∀ x, (enc x).cells = #[enc x]) (ho : o.op = .load t x := by rfl) (hx : ev n f x = .pointer (some (a.add (i * 1))) := by rfl)
    (h1 : One P t := by infer_instance) : (execOp (ev n f) o).run P w = .ok (.value (enc y)) w := by
  have hc : w.cell? (a.add (i * 1)) = some (enc y) := hr _ _ (by simpa using rowOf_at (size := 1) (fun x => by simp [hs x]) l i y hi 0 (enc y) (by simp [hs y]))
  have h2 := run_loadVar1 (P := P) (t := t) hc
  simp only [Nat.mul_one] at h2 hx
  simp [execOp, ho, hx, Instr.loadAt, Instr.sureAddr, h2]
/-- a slice of the call's own -/
theorem Hp.row {e : TypeId} {size m : Nat} {v : Value} {xs : List Value} {mk : Ck → List Ck} (H : Hp B w0 w L) (h : HasR L v e size m xs mk := by infer_instance) : ∃ a c, v = .slice a m c ∧ (m = 0 ∨ ∃ g, a = some ⟨g, 0, none⟩ ∧ B ≤ g ∧ RowAt w ⟨g, 0, none⟩ xs) ∧ xs.length = m * size := by
  obtain ⟨R, h1, _⟩ := h.perm
  have H' := H.perm h1
  have h2 := H'.holds _ List.mem_cons_self
  rcases h2.2 with ⟨rfl, rfl⟩ | ⟨g, cap, cur, rfl, _, hh, hle, hmax, hsz, htk⟩
  · exact ⟨none, 0, rfl, .inl rfl, h2.1⟩
  · refine ⟨_, _, rfl, .inr ⟨g, rfl, H'.lo _ List.mem_cons_self g rfl, ?_⟩, h2.1⟩
    intro j u hj
    rw [add_of, Nat.zero_add, cell_of_blk hh]
    rw [← htk, List.getElem?_take] at hj
    split at hj
    · simpa using hj
    · cases hj
theorem RowAt.below {a : Addr} {xs : List Value} (h : RowAt w0 a xs) (hb : a.block < B) (H : Hp B w0 w L) : RowAt w a xs := by
  intro j u hj
  have := h j u hj
  have e : (a.add j).block = a.block := by unfold Addr.add; split <;> rfl
  rw [← this]
  have := H.old a.block hb
  simp only [World.cell?, e, this]
end
end Wh
/- A part of the walk through the code: contracts of functions, printed by a program of the prover. -/
namespace WhP
/-- a reckoning on two words -/
def wdo (op : Int) (a b : BitVec 32) : BitVec 32 :=
  if op = 27 then a + b
  else if op = 28 then a - b
  else if op = 29 then a <<< (b &&& 31#32)
  else if op = 30 then (if a.slt b then 1#32 else 0#32)
  else if op = 31 then (if a.ult b then 1#32 else 0#32)
  else if op = 32 then a ^^^ b
  else if op = 33 then a >>> (b &&& 31#32)
  else if op = 34 then a.sshiftRight (b &&& 31#32).toNat
  else if op = 35 then a ||| b
  else if op = 36 then a &&& b
  else if op = 37 then a * b
  else if op = 38 then (a.signExtend 64 * b.signExtend 64).extractLsb' 32 32
  else if op = 39 then (a.signExtend 64 * b.zeroExtend 64).extractLsb' 32 32
  else if op = 40 then (a.zeroExtend 64 * b.zeroExtend 64).extractLsb' 32 32
  else if op = 41 then (if b = 0#32 then BitVec.allOnes 32 else a.sdiv b)
  else if op = 42 then (if b = 0#32 then BitVec.allOnes 32 else a.udiv b)
  else if op = 43 then (if b = 0#32 then a else a.srem b)
  else if op = 44 then (if b = 0#32 then a else a.umod b)
  else 0#32

def isOp (op : Int) : Bool := 27 ≤ op && op ≤ 44

def turnsB (op : Int) : Bool := op = 27 || op = 36 || op = 35 || op = 32 || op = 37 || op = 38 || op = 40

theorem wdo_comm (op : Int) (a b : BitVec 32) (h : turnsB op = true) : wdo op a b = wdo op b a := by
  simp only [turnsB, Bool.or_eq_true, decide_eq_true_eq] at h
  rcases h with ((((((h | h) | h) | h) | h) | h) | h) <;> subst h <;> simp [wdo, BitVec.add_comm, BitVec.and_comm, BitVec.or_comm, BitVec.xor_comm, BitVec.mul_comm]

theorem wdo_sub (a w : BitVec 32) : wdo 28 a w = wdo 27 a (-w) := by simp [wdo, BitVec.sub_eq_add_neg]
theorem wdo_zero_r (op : Int) (a : BitVec 32) (h : op = 27 ∨ op = 35 ∨ op = 32) : wdo op a 0#32 = a := by
  rcases h with h | h | h <;> subst h <;> simp [wdo]
theorem wdo_one_r (op : Int) (a : BitVec 32) (h : op = 37 ∨ op = 41 ∨ op = 42) : wdo op a 1#32 = a := by
  rcases h with h | h | h <;> subst h <;> simp [wdo]
theorem wdo_and_ones (a : BitVec 32) : wdo 36 a (BitVec.allOnes 32) = a := by
  show a &&& BitVec.allOnes 32 = a
  exact BitVec.and_allOnes
theorem wdo_or_ones (a : BitVec 32) : wdo 35 a (BitVec.allOnes 32) = BitVec.allOnes 32 := by
  show a ||| BitVec.allOnes 32 = BitVec.allOnes 32
  exact BitVec.or_allOnes
theorem wdo_zero_z (op : Int) (a : BitVec 32) (h : op = 36 ∨ op = 37 ∨ op = 31) : wdo op a 0#32 = 0#32 := by
  rcases h with h | h | h <;> subst h <;> simp [wdo, BitVec.ult]
theorem wdo_rem_one (op : Int) (a : BitVec 32) (h : op = 43 ∨ op = 44) : wdo op a 1#32 = 0#32 := by
  rcases h with h | h <;> subst h <;> simp [wdo]

theorem and31 (v : BitVec 32) : (v &&& 31#32).toNat = v.toNat % 32 := by
  rw [BitVec.toNat_and]
  exact Nat.and_two_pow_sub_one_eq_mod v.toNat 5
def isShift (op : Int) : Bool := op = 29 || op = 33 || op = 34
theorem wdo_shift (op : Int) (a v w : BitVec 32) (h : isShift op = true) (e : v.toNat % 32 = w.toNat % 32) : wdo op a v = wdo op a w := by
  have e' : v &&& 31#32 = w &&& 31#32 := BitVec.eq_of_toNat_eq (by rw [and31, and31, e])
  simp only [isShift, Bool.or_eq_true, decide_eq_true_eq] at h
  rcases h with (h | h) | h <;> subst h <;> simp [wdo, e']
theorem wdo_shift0 (op : Int) (a v : BitVec 32) (h : isShift op = true) (e : v.toNat % 32 = 0) : wdo op a v = a := by
  have e' : v &&& 31#32 = 0#32 := BitVec.eq_of_toNat_eq (by rw [and31, e]; rfl)
  simp only [isShift, Bool.or_eq_true, decide_eq_true_eq] at h
  rcases h with (h | h) | h <;> subst h <;> simp [wdo, e']
/-- a shift by v.toNat below 32 -/
theorem wdo_sll (a v : BitVec 32) : wdo 29 a v = a <<< (v.toNat % 32) := by
  show a <<< (v &&& 31#32) = _
  rw [BitVec.shiftLeft_eq', and31]
theorem wdo_srl (a v : BitVec 32) : wdo 33 a v = a >>> (v.toNat % 32) := by
  show a >>> (v &&& 31#32) = _
  rw [BitVec.ushiftRight_eq', and31]
theorem wdo_sra (a v : BitVec 32) : wdo 34 a v = a.sshiftRight (v.toNat % 32) := by
  show a.sshiftRight (v &&& 31#32).toNat = _
  rw [and31]
theorem wdo_shift_twice (op : Int) (x w v : BitVec 32) (h : isShift op = true) (hw : w.toNat < 32) (hv : v.toNat < 32) (hs : w.toNat + v.toNat < 32) : wdo op (wdo op x w) v = wdo op x (w + v) := by
  have e : (w + v).toNat = w.toNat + v.toNat := by rw [BitVec.toNat_add]; omega
  simp only [isShift, Bool.or_eq_true, decide_eq_true_eq] at h
  rcases h with (h | h) | h <;> subst h
  · rw [wdo_sll, wdo_sll, wdo_sll, e, Nat.mod_eq_of_lt hw, Nat.mod_eq_of_lt hv, Nat.mod_eq_of_lt hs, BitVec.shiftLeft_add]
  · rw [wdo_srl, wdo_srl, wdo_srl, e, Nat.mod_eq_of_lt hw, Nat.mod_eq_of_lt hv, Nat.mod_eq_of_lt hs, BitVec.shiftRight_add]
  · rw [wdo_sra, wdo_sra, wdo_sra, e, Nat.mod_eq_of_lt hw, Nat.mod_eq_of_lt hv, Nat.mod_eq_of_lt hs, BitVec.sshiftRight_add]
theorem wdo_shift_out (op : Int) (x w v : BitVec 32) (h : op = 29 ∨ op = 33) (hw : w.toNat < 32) (hv : v.toNat < 32) (hs : 32 ≤ w.toNat + v.toNat) : wdo op (wdo op x w) v = 0#32 := by
  rcases h with h | h <;> subst h
  · rw [wdo_sll, wdo_sll, Nat.mod_eq_of_lt hw, Nat.mod_eq_of_lt hv, ← BitVec.shiftLeft_add, BitVec.shiftLeft_eq_zero hs]
  · rw [wdo_srl, wdo_srl, Nat.mod_eq_of_lt hw, Nat.mod_eq_of_lt hv, ← BitVec.shiftRight_add, BitVec.ushiftRight_eq_zero hs]
theorem wdo_sra_out (x w v : BitVec 32) (hw : w.toNat < 32) (hv : v.toNat < 32) (hs : 32 ≤ w.toNat + v.toNat) : wdo 34 (wdo 34 x w) v = wdo 34 x 31#32 := by
  rw [wdo_sra, wdo_sra, wdo_sra, Nat.mod_eq_of_lt hw, Nat.mod_eq_of_lt hv, ← BitVec.sshiftRight_add]
  apply BitVec.eq_of_getLsbD_eq
  intro i hi
  simp only [BitVec.getLsbD_sshiftRight]
  have h31 : (31#32 : BitVec 32).toNat % 32 = 31 := rfl
  rw [h31]
  rw [if_neg (by omega)]
  by_cases h0 : i = 0
  · subst h0; simp [BitVec.msb_eq_getLsbD_last]
  · rw [if_neg (by omega)]
theorem wdo_assoc (op : Int) (x w v : BitVec 32) (h : op = 27 ∨ op = 36 ∨ op = 35 ∨ op = 32) : wdo op (wdo op x w) v = wdo op x (wdo op w v) := by
  rcases h with h | h | h | h <;> subst h <;> simp [wdo, BitVec.add_assoc, BitVec.and_assoc, BitVec.or_assoc, BitVec.xor_assoc]
theorem wdo_self_zero (op : Int) (a : BitVec 32) (h : op = 28 ∨ op = 32 ∨ op = 30 ∨ op = 31) : wdo op a a = 0#32 := by
  rcases h with h | h | h | h <;> subst h <;> simp [wdo, BitVec.slt, BitVec.ult]
theorem wdo_self (op : Int) (a : BitVec 32) (h : op = 36 ∨ op = 35) : wdo op a a = a := by
  rcases h with h | h <;> subst h <;> simp [wdo]
theorem wdo_add_self (a : BitVec 32) : wdo 27 a a = wdo 29 a 1#32 := by
  rw [wdo_sll]
  apply BitVec.eq_of_toNat_eq
  simp [wdo, BitVec.toNat_add, BitVec.toNat_shiftLeft, Nat.shiftLeft_eq]
  omega
theorem wdo_mul_pow (a v k : BitVec 32) (hk : k.toNat < 32) (hv : v.toNat = 2 ^ k.toNat) : wdo 37 a v = wdo 29 a k := by
  rw [wdo_sll, Nat.mod_eq_of_lt hk]
  apply BitVec.eq_of_toNat_eq
  simp [wdo, BitVec.toNat_mul, BitVec.toNat_shiftLeft, Nat.shiftLeft_eq, hv]
theorem wdo_divu_pow (a v k : BitVec 32) (hk : k.toNat < 32) (hv : v.toNat = 2 ^ k.toNat) : wdo 42 a v = wdo 33 a k := by
  rw [wdo_srl, Nat.mod_eq_of_lt hk]
  have h0 : ¬ v = 0#32 := by
    intro h
    rw [h] at hv
    have := Nat.two_pow_pos k.toNat
    simp at hv
    omega
  apply BitVec.eq_of_toNat_eq
  simp [wdo, h0, BitVec.toNat_udiv, BitVec.toNat_ushiftRight, Nat.shiftRight_eq_div_pow, hv]
theorem wdo_remu_pow (a v k : BitVec 32) (hk : k.toNat < 32) (hv : v.toNat = 2 ^ k.toNat) : wdo 44 a v = wdo 36 a (v - 1#32) := by
  have hp := Nat.two_pow_pos k.toNat
  have h0 : ¬ v = 0#32 := by
    intro h
    rw [h] at hv
    simp at hv
    omega
  have hlt := v.isLt
  have h1 : (v - 1#32).toNat = 2 ^ k.toNat - 1 := by
    rw [BitVec.toNat_sub, hv]
    simp
    rw [hv] at hlt
    omega
  apply BitVec.eq_of_toNat_eq
  have hl : (wdo 44 a v).toNat = a.toNat % 2 ^ k.toNat := by simp [wdo, h0, BitVec.toNat_umod, hv]
  have hr : (wdo 36 a (v - 1#32)).toNat = a.toNat &&& (v - 1#32).toNat := by simp [wdo]
  rw [hl, hr, h1, Nat.and_two_pow_sub_one_eq_mod]
end WhP
namespace Wh.WhI
open Go
def flag (b : Bool) : Int := if b then 1 else 0
abbrev i32 (a : Int) : Int := IntKind.i32.wrap a
abbrev u32 (a : Int) : Int := IntKind.u32.wrap a
def high (op a b : Int) : Int :=
  if op = 40 then u32 ((IntKind.u64.wrap (IntKind.u64.wrap a * IntKind.u64.wrap b)).fdiv (2 ^ 32))
  else
    let x := if op = 38 then IntKind.i64.wrap (i32 a) else if op = 39 then IntKind.i64.wrap (i32 a) else IntKind.i64.wrap a
    let y := if op = 38 then IntKind.i64.wrap (i32 b) else IntKind.i64.wrap b
    u32 ((IntKind.i64.wrap (x * y)).fdiv (2 ^ 32))
def divided (op a b : Int) : Int :=
  let rest := op = 43 ∨ op = 44
  if b = 0 then if rest then a else 4294967295
  else if op = 42 then u32 (a.tdiv b)
  else if op = 44 then a.tmod b
  else if a = 2147483648 ∧ b = 4294967295 then if rest then 0 else a
  else if rest then u32 ((i32 a).tmod (i32 b)) else u32 (i32 ((i32 a).tdiv (i32 b)))
/-- word.Do -/
def wdo (op a b : Int) : Int × Int :=
  if op = 27 then (u32 (a + b), 0) else if op = 28 then (u32 (a - b), 0) else if op = 36 then (bits .and .u32 a b, 0) else if op = 35 then (bits .or .u32 a b, 0) else if op = 32 then (bits .xor .u32 a b, 0)
  else if op = 29 then (u32 (a * 2 ^ min (bits .and .u32 b 31).toNat 32), 0)
  else if op = 33 then (a.fdiv (2 ^ min (bits .and .u32 b 31).toNat 32), 0)
  else if op = 34 then (u32 ((i32 a).fdiv (2 ^ min (bits .and .u32 b 31).toNat 32)), 0)
  else if op = 30 then (flag (decide (i32 a < i32 b)), 0) else if op = 31 then (flag (decide (a < b)), 0)
  else if op = 37 then (u32 (a * b), 0)
  else if op = 38 ∨ op = 40 ∨ op = 39 then (high op a b, 0)
  else if op = 41 ∨ op = 42 ∨ op = 43 ∨ op = 44 then (divided op a b, 0)
  else (0, 1)
theorem u32_nn (a : Int) : 0 ≤ IntKind.u32.wrap a := by
  have h : (2 : Int) ^ 32 = 4294967296 := by decide
  simp only [IntKind.wrap, IntKind.bits, IntKind.signed, h, Bool.false_and]
  simp
  omega
theorem bits_nn (op : BinOp) (a b : Int) : 0 ≤ bits op .u32 a b := by
  cases op <;> first | exact u32_nn _ | exact Int.le_refl 0
theorem wrap_ne {b : Int} (h0 : 0 ≤ b) (h1 : b < 4294967296) (h2 : ¬ b = 0) : IntKind.i32.wrap b ≠ 0 := by
  have h : (2 : Int) ^ 32 = 4294967296 := by decide
  simp only [IntKind.wrap, IntKind.bits, h, Int.emod_eq_of_lt h0 h1]
  split <;> omega
end Wh.WhI
namespace Wh
open Go
structure T where
  kind : Int
  v : Int
  op : Int
  a : Int
  b : Int
  deriving DecidableEq
def T.nums (t : T) : List Int := [t.kind, t.v, t.op, t.a, t.b]
abbrev tks : List IntKind := [.i64, .u32, .i64, .i64, .i64]
def T.cells (t : T) : List Value := iv tks t.nums
def T.val (t : T) : Value := .agg (iv tks t.nums).toArray
def numb : Nat → List T → List (T × Int)
  | _, [] => []
  | i, t :: l => (t, (i : Int)) :: numb (i + 1) l
def addT (D : List T) (t : T) : Int × List T := match alook t (numb 0 D) with | some i => (i, D) | none => ((D.length : Int), D ++ [t])
def i64v (n : Int) : Value := .int .i64 n
theorem T.val_cells (t : T) : t.val.cells = t.cells.toArray := rfl
theorem numb_put : ∀ (i : Nat) (D : List T) (t : T), alook t (numb i D) = none → aput t ((i + D.length : Nat) : Int) (numb i D) = numb i (D ++ [t])
  | i, [], t, _ => by simp [numb, aput]
  | i, s :: D, t, h => by
    simp only [numb, alook] at h
    by_cases e : s = t
    · simp [e] at h
    · simp only [e, if_false] at h
      have := numb_put (i + 1) D t h
      simp only [numb, aput, e, if_false, List.cons_append, List.length_cons]
      rw [← this]
      congr 2
      omega
theorem numb_some : ∀ (i : Nat) (D : List T) (t : T) (n : Int), alook t (numb i D) = some n → (i : Int) ≤ n ∧ n < i + D.length ∧ D[(n - i).toNat]? = some t
  | i, [], t, n, h => by simp [numb, alook] at h
  | i, s :: D, t, n, h => by
    simp only [numb, alook] at h
    by_cases e : s = t
    · simp only [e, if_true, Option.some.injEq] at h
      subst h
      simp [e]
      omega
    · simp only [e, if_false] at h
      have := numb_some (i + 1) D t n h
      refine ⟨by omega, by simp; omega, ?_⟩
      have e2 : (n - i).toNat = (n - (i + 1 : Nat)).toNat + 1 := by omega
      rw [e2, List.getElem?_cons_succ]
      exact this.2.2
theorem flat_cells_length (D : List T) : (D.flatMap T.cells).length = D.length * 5 := by
  induction D with
  | nil => rfl
  | cons t D ih => simp [List.flatMap_cons, ih, T.cells, T.nums, iv]; omega
theorem keyTerm {P : Program} {t : TypeId} (h : SI P t tks) : KeyT P t T.val :=
  keyT_SI h T.nums (fun _ => rfl) (fun a b e => by cases a; cases b; simpa [T.nums] using e)
theorem oneR {w : World} {B : Nat} {w0 : World} {L : List Ck} {e : TypeId} {size m : Nat} {v : Value} {xs : List Value} {mk : Ck → List Ck} (H : Hp B w0 w L) (h : HasR L v e size m xs mk := by infer_instance) : v.oneCell' = true := by
  obtain ⟨R, h1, _⟩ := h.perm
  rcases ((H.perm h1).holds _ List.mem_cons_self).2 with ⟨rfl, _⟩ | ⟨g, cap, cur, rfl, _⟩ <;> rfl
end Wh
namespace Wh.WhD
open Go
/-- Var's answer: a number, an error, the terms then -/
def var (D : List T) (n : Int) : Int × Int × List T :=
  if n < 0 ∨ 32 ≤ n then (0, 1, D) else if n = 0 then ((addT D ⟨0, 0, 0, 0, 0⟩).1, 0, (addT D ⟨0, 0, 0, 0, 0⟩).2)
  else ((addT D ⟨1, IntKind.u32.wrap n, 0, 0, 0⟩).1, 0, (addT D ⟨1, IntKind.u32.wrap n, 0, 0, 0⟩).2)
def is (D : List T) (n : Int) : Bool := decide (0 ≤ n) && decide (n < D.length)

def node (D : List T) (n : Int) : T × Int := if is D n then ((D[n.toNat]?).getD ⟨0, 0, 0, 0, 0⟩, 0) else (⟨0, 0, 0, 0, 0⟩, 100)
/-- Op's answer -/
def op (D : List T) (o a b : Int) : Int × Int × List T :=
  if ¬ is D a ∨ ¬ is D b then (0, 100, D) else if (WhI.wdo o 0 0).2 ≠ 0 then (0, (WhI.wdo o 0 0).2, D) else ((addT D ⟨2, 0, o, a, b⟩).1, 0, (addT D ⟨2, 0, o, a, b⟩).2)
end Wh.WhD
namespace Wh
open Go
def vI (xs : List Int) : Array Value := (xs.map i64v).toArray
theorem vI_at {xs : List Int} {k : Nat} {n : Int} (h : xs[k]? = some n) : (vI xs)[k]? = some (.int .i64 n) := by simp [vI, h, i64v]
theorem vI_set (xs : List Int) (k : Nat) (n : Int) : (vI xs).setIfInBounds k (.int .i64 n) = vI (xs.set k n) := by
  apply Array.toList_inj.1
  simp [vI, List.map_set, i64v]
theorem vI_size (xs : List Int) : (vI xs).size = xs.length := by simp [vI]
section
variable {P : Program} {n : Nat} {f : Fr} {w : World} {o : Oper} {B : Nat} {w0 : World} {L : List Ck}
theorem r_b0 {t e : TypeId} {len : Nat} {size bytes : Nat} {zero : Value} (ho : o.op = .build t #[] := by rfl) (hT : UT P t (.array len e) := by infer_instance) {size2 bytes2 : Nat} {zero2 : Value} (hS2 : TI P e size2 zero2 bytes2 := by infer_instance) (hS : TI P t size zero bytes := by infer_instance) :
    (execOp (ev n f) o).run P w = .ok (.value (.agg zero.cells)) w := by
  have e1 := run_underlying' (P := P) (w := w) hT
  simp [execOp, ho, Instr.build, run_zeroValue hS, e1, run_sizeOf hS2, Instr.fill]
theorem cellI {g : Nat} {bt : TypeId} {xs : List Int} {mk : Array Value → List Ck} (H : Hp B w0 w L) {k : Nat} {m : Int} (hk : xs[k]? = some m) (hb : HasB L g bt (vI xs) mk := by infer_instance) : w.cell? ⟨g, 0 + k * 1, none⟩ = some (.int .i64 m) := by
  rw [cell_of_blk (H.getB (h := hb)), Nat.zero_add, Nat.mul_one]
  exact vI_at hk
/-- a number is stored into an array -/
theorem r_stI {t : TypeId} {x y : Operand} {g k : Nat} {bt : TypeId} {xs : List Int} {mk : Array Value → List Ck} {size bytes : Nat} {zero : Value} {m : Int} (H : Hp B w0 w L) (hk : k < xs.length) (ho : o.op = .store t x y := by rfl) (hx : ev n f x = .pointer (some ⟨g, 0 + k * 1, none⟩) := by rfl)
    (hy : ev n f y = .int .i64 m := by rfl) (hS : TI P t size zero bytes := by infer_instance) (hs : Nat.beq size 1 = true := by rfl) (hb : HasB L g bt (vI xs) mk := by infer_instance) :
    ∃ w', (execOp (ev n f) o).run P w = .ok .skip w' ∧ Hp B w0 w' (mk (vI (xs.set k m))) := by
  have := r_st (P := P) (n := n) (f := f) (o := o) H ho hx hy rfl hS hs hb (blt_iff.2 (by rw [vI_size]; omega))
  rw [vI_set, Nat.zero_add, Nat.mul_one] at this
  exact this
end
end Wh
namespace Wh
open Go
section
variable {P : Program} {n : Nat} {f : Fr} {w : World} {o : Oper}
theorem fillA (size : Nat) (h : size = 1) : ∀ (ps : List (Nat × Value)) (cs cs' : List Value), fillC ((List.range cs.length).map fun i => (i, 1)) cs ps = some cs' → Instr.fill (fun i => some (i * size, size)) cs.toArray ps = some cs'.toArray := by
  subst h
  have key : ∀ (N : Nat) (ps : List (Nat × Value)) (cs cs' : List Value), cs.length = N → fillC ((List.range N).map fun i => (i, 1)) cs ps = some cs' → Instr.fill (fun i => some (i * 1, 1)) cs.toArray ps = some cs'.toArray := by
    intro N ps
    induction ps with
    | nil => intro cs cs' _ h; simp only [fillC, Option.some.injEq] at h; simp [Instr.fill, h]
    | cons pv r ih =>
      obtain ⟨i, v⟩ := pv
      intro cs cs' hN h
      simp only [fillC] at h
      split at h
      · rename_i off e
        simp only [List.getElem?_map, List.getElem?_range', Option.map_eq_some_iff] at e
        obtain ⟨a, ha, e2⟩ := e
        rw [List.getElem?_eq_some_iff] at ha
        obtain ⟨hlt, ha⟩ := ha
        simp at ha e2
        subst ha e2
        split at h
        · rename_i hc
          simp only [Bool.and_eq_true] at hc
          have h1 := cells_one hc.2
          have h2 := blt_iff.1 hc.1
          have ih' := ih _ _ (by simpa using hN) h
          simp only [Instr.fill, h1]
          rw [if_neg (by simp; omega), ← ih']
          simp
        · cases h
      · cases h
  exact fun ps cs cs' h => key cs.length ps cs cs' rfl h
/-- a literal of an array of single cells -/
theorem r_bd1 {t e : TypeId} {len : Nat} {parts : Array (Nat × Operand)} {size bytes bytes2 : Nat} {zero zero2 : Value} (cells : Array Value) {ps : List (Nat × Value)} (hp : parts.toList.map (fun x => (x.1, ev n f x.2)) = ps) (hc : fillC ((List.range zero.cells.toList.length).map fun i => (i, 1)) zero.cells.toList ps = some cells.toList)
    (ho : o.op = .build t parts := by rfl) (hT : UT P t (.array len e) := by infer_instance) (hS2 : TI P e 1 zero2 bytes2 := by infer_instance) (hS : TI P t size zero bytes := by infer_instance) :
    (execOp (ev n f) o).run P w = .ok (.value (.agg cells)) w := by
  have e1 := run_underlying' (P := P) (w := w) hT
  have := fillA 1 rfl ps _ _ hc
  simp only [Array.toArray_toList, Nat.mul_one] at this
  simp [execOp, ho, Instr.build, run_zeroValue hS, e1, run_sizeOf hS2, hp, this]
end
end Wh
namespace Wh
open Go
/-- an instruction -/
structure X where
  op : Int
  rd : Int
  rs1 : Int
  rs2 : Int
  imm : Int
  deriving DecidableEq
def X.nums (x : X) : List Int := [x.op, x.rd, x.rs1, x.rs2, x.imm]
abbrev xks : List IntKind := [.i64, .i64, .i64, .i64, .i64]
def X.cells (x : X) : List Value := iv xks x.nums
def X.val (x : X) : Value := .agg (iv xks x.nums).toArray
namespace WhI
def plain (op : Int) : Int × Bool :=
  if op = 18 then (27, true) else if op = 19 then (30, true) else if op = 20 then (31, true) else if op = 21 then (32, true) else if op = 22 then (35, true)
  else if op = 23 then (36, true) else if op = 24 then (29, true) else if op = 25 then (33, true) else if op = 26 then (34, true) else (0, false)
def formN (n : Nat) : Int := (([85,85,74,73,66,66,66,66,66,66,73,73,73,73,73,83,83,83,73,73,73,73,73,73,72,72,72,82,82,82,82,82,82,82,82,82,82,82,82,82,82,82,82,82,82,69,69] : List Int)[n]?).getD 0
def form (op : Int) : Int := if op < 0 ∨ 47 ≤ op then 0 else formN op.toNat
def has (f : Int) : Bool × Bool × Bool :=
  if f = 85 ∨ f = 74 then (true, false, false) else if f = 73 ∨ f = 72 then (true, true, false) else if f = 66 ∨ f = 83 then (false, true, true) else if f = 82 then (true, true, true) else (false, false, false)
def between (n lo hi : Int) : Bool := decide (lo ≤ n) && decide (n ≤ hi)
def register (b : Bool) (n : Int) : Bool := (b && between n 0 31) || decide (n = 0)
def number (f n : Int) : Bool :=
  if f = 85 then between n 0 1048575 else if f = 74 then between n (-1048576) 1048574 && decide (n.tmod 2 = 0) else if f = 73 ∨ f = 83 then between n (-2048) 2047
  else if f = 66 then between n (-4096) 4094 && decide (n.tmod 2 = 0) else if f = 72 then between n 0 31 else decide (n = 0)
def right (x : X) : Bool :=
  decide (form x.op ≠ 0) && register (has (form x.op)).1 x.rd && register (has (form x.op)).2.1 x.rs1 && register (has (form x.op)).2.2 x.rs2 && number (form x.op) x.imm
/-- what lift.Plain answers -/
def lplain (x : X) : Bool := right x && ((plain x.op).2 || decide (x.op = 0) || decide (x.op = 1) || decide (form x.op = 82))
end WhI
end Wh
namespace Wh
open Go Go.Maps Go.WideShapes Go.WideElems Go.ChangeShapes Go.ChangeMaps
def boolv (b : Bool) : Value := .bool b
theorem sorted_perm' {H : Type} : ∀ (E : List (Lit × DataW H)), (E.foldr DataW.insert []).Perm E
  | [] => .refl _
  | x :: E => (insert_perm x _).trans ((sorted_perm' E).cons x)
theorem owns_of_map {H : Type} {P : Program} {k e : TypeId} (hk : P.underlying k = some (.int .i64)) (he : P.underlying e = some .bool) {w : World} {r : Nat} {l : List (Int × Bool)} (h : (MapC (fun n : Int => Value.int .i64 n) boolv r l).holds w)
    (hw : ∀ p ∈ l, (Lit.int .i64 p.1).wf = true) (hl : l.length ≤ maxLen) :
    ∃ D : DataW H, w.ownsMap P k (plainElem P e) r l.length D ∧ (intKeys D).Perm (l.map (·.1)) ∧ Maps.size D = l.length := by
  obtain ⟨es, ck, h1, h2, h3⟩ := h
  have hlen := h2.len
  simp only [Array.length_toList] at hlen
  have hrd : ∀ x ∈ es.toList, ∃ p ∈ l, x.key = .int .i64 p.1 ∧ x.val = .bool p.2 := by
    intro x hx
    have : (x.key, x.val) ∈ l.map (fun p => ((fun n : Int => Value.int .i64 n) p.1, boolv p.2)) := by
      have h4 : (x.key, x.val) ∈ es.toList.map (fun e => (e.key, e.val)) := List.mem_map.2 ⟨x, hx, rfl⟩
      rwa [h2] at h4
    obtain ⟨p, hp, e1⟩ := List.mem_map.1 this
    simp only [Prod.mk.injEq] at e1
    exact ⟨p, hp, e1.1.symm, e1.2.symm⟩
  have hrd2 : ∀ (key val : Value) (born : Nat) (a : Int) (b : Bool), key = .int .i64 a → val = .bool b → (Lit.int .i64 a).wf = true → rd (H := H) P k (plainElem P e) ⟨key, val, born⟩ = some (.int .i64 a, .lit (.bool b)) := by
    rintro _ _ born a b rfl rfl hwf
    have e1 : keyOf P k (.int .i64 a) = some (.int .i64 a) := by simp [keyOf, hk, mapKey, hwf]
    exact rd_mk e1 (plainElem_bool he b)
  refine ⟨.map ((es.toList.map (rg P k (plainElem P e))).foldr DataW.insert []), ⟨es, ck, h1, ⟨by omega, h3, ?_⟩, by omega, rfl⟩, ?_, ?_⟩
  · intro x hx
    obtain ⟨p, hp, e1, e2⟩ := hrd x hx
    exact ⟨_, hrd2 x.key x.val x.born p.1 p.2 e1 e2 (hw p hp)⟩
  · have hp := (sorted_perm' (es.toList.map (rg (H := H) P k (plainElem P e)))).map (fun p => intOf p.1)
    refine hp.trans ?_
    have : ∀ (es : List MapEntry) (l : List (Int × Bool)), MapRep (fun n : Int => Value.int .i64 n) boolv es l → (∀ p ∈ l, (Lit.int .i64 p.1).wf = true) → (es.map (rg (H := H) P k (plainElem P e))).map (fun p => intOf p.1) = l.map (·.1) := by
      intro es
      induction es with
      | nil => intro l h _; cases l with | nil => rfl | cons p l => simp [MapRep] at h
      | cons x es ih =>
        intro l h hw
        obtain ⟨a, b, l', rfl, e1, e2, h'⟩ := h.cons
        have h5 := hrd2 x.key x.val x.born a b e1 e2 (hw (a, b) List.mem_cons_self)
        have h6 : rg (H := H) P k (plainElem P e) x = (.int .i64 a, .lit (.bool b)) := rg_of h5
        simp only [List.map_cons, h6, ih l' h' (fun p hp => hw p (List.mem_cons_of_mem _ hp))]
        rfl
    rw [this es.toList l h2 hw]
  · have hp := (sorted_perm' (es.toList.map (rg (H := H) P k (plainElem P e)))).length_eq
    simp only [Maps.size, hp, List.length_map, Array.length_toList]
    omega
end Wh
namespace Wh
open Go
section
variable {P : Program} {n : Nat} {f : Fr} {w : World} {o : Oper} {B : Nat} {w0 : World} {L : List Ck}
variable {α β : Type} {enc : α → Value} {encv : β → Value} {r : Nat} {l : List (α × β)} {mk : List (α × β) → List Ck}
theorem r_ins [DecidableEq α] {t kt et : TypeId} {x y z : Operand} {a : α} {b : β} (H : Hp B w0 w L) (K : KeyT P kt enc) (ho : o.op = .insert t x y z := by rfl) (hx : ev n f x = .map (some r) := by rfl)
    (hT : UT P t (.map kt et) := by infer_instance) (hb : HasM L r α β enc encv l mk := by infer_instance) (hy : ev n f y = enc a := by rfl) (hz : ev n f z = encv b := by rfl) :
    ∃ w', (execOp (ev n f) o).run P w = .ok .skip w' ∧ Hp B w0 w' (mk (aput a b l)) := by
  obtain ⟨w', h1, h2⟩ := run_mapUpdate H hT K hb a b
  exact ⟨w', by simp [execOp, ho, hx, hy, hz, h1], h2⟩
end
/-- the terms that a term needs: what is told, from above down -/
def seenStep (D : List T) (k : Int) (l : List (Int × Bool)) : List (Int × Bool) :=
  if alook k l = some true ∧ (WhD.node D k).1.kind = 2 then aput (WhD.node D k).1.b true (aput (WhD.node D k).1.a true l) else l
def seenG (D : List T) : Nat → List (Int × Bool) → List (Int × Bool)
  | 0, l => l
  | m + 1, l => seenG D m (seenStep D m l)
theorem aput_all {P : Int → Prop} {a : Int} {b : Bool} : ∀ {l : List (Int × Bool)}, (∀ p ∈ l, P p.1) → P a → ∀ p ∈ aput a b l, P p.1
  | [], _, ha, p, hp => by simp [aput] at hp; subst hp; exact ha
  | (k, v) :: l, h, ha, p, hp => by
    simp only [aput] at hp
    split at hp
    · rcases List.mem_cons.1 hp with rfl | hp
      · exact ha
      · exact h p (List.mem_cons_of_mem _ hp)
    · rcases List.mem_cons.1 hp with rfl | hp
      · exact h _ List.mem_cons_self
      · exact aput_all (fun q hq => h q (List.mem_cons_of_mem _ hq)) ha p hp
theorem aput_len {a : Int} {b : Bool} : ∀ (l : List (Int × Bool)), (aput a b l).length ≤ l.length + 1
  | [] => by simp [aput]
  | (k, v) :: l => by
    simp only [aput]
    split
    · simp
    · have := aput_len (a := a) (b := b) l
      simp
      omega
end Wh
namespace Wh
open Go
theorem Hp.newRow {B : Nat} {w0 w w' : World} {L : List Ck} {e : TypeId} {size n : Nat} {v : Value} {xs : List Value} (H : Hp B w0 w L) (hb : Go.RowKit.Below w.heap.size w w') (hr : w'.ownsRow w.heap.size e size v n xs) : Hp B w0 w' (Row e size v n xs :: L) := by
  refine H.new (Chg.of_below hb) ⟨hr.1, ?_⟩ ?_
  · rcases hr.2 with h | ⟨g, cap, cur, h1, _, rest⟩
    · exact .inl h
    · exact .inr ⟨g, cap, cur, h1, Nat.zero_le _, rest⟩
  · intro k hk
    rcases hr.2 with ⟨rfl, _⟩ | ⟨g, cap, cur, rfl, h1, _⟩
    · simp [Row, Value.ownBlock] at hk
    · simp [Row, Value.ownBlock] at hk
      omega
theorem Hp.holdsM {B : Nat} {w0 w : World} {L : List Ck} {α β : Type} {enc : α → Value} {encv : β → Value} {r : Nat} {l : List (α × β)} {mk : List (α × β) → List Ck} (H : Hp B w0 w L) (hb : HasM L r α β enc encv l mk := by infer_instance) : (MapC enc encv r l).holds w := by
  obtain ⟨R, h1, _⟩ := hb.perm
  exact (H.perm h1).holds _ List.mem_cons_self
end Wh
namespace Wh
open Go
theorem wf_small {a : Int} (h : 0 ≤ a ∧ a < 1000000) : (Lit.int .i64 a).wf = true := by
  have e1 : IntKind.i64.min = -9223372036854775808 := by decide
  have e2 : IntKind.i64.max = 9223372036854775807 := by decide
  simp only [Lit.wf, e1, e2, Bool.and_eq_true, decide_eq_true_eq]
  omega
end Wh
namespace Wh
open Go
def u32v (n : Int) : Value := .int .u32 n
def mg (l : List (Int × Int)) (k : Int) : Int := (alook k l).getD 0
/-- what a term comes to, of what others came to -/
def evVal (D : List T) (x : List Int) (l : List (Int × Int)) (k : Int) : Int :=
  if (WhD.node D k).1.kind = 0 then (WhD.node D k).1.v else if (WhD.node D k).1.kind = 1 then (x[(WhD.node D k).1.v.toNat]?).getD 0
  else (WhI.wdo (WhD.node D k).1.op (mg l (WhD.node D k).1.a) (mg l (WhD.node D k).1.b)).1
def evStep (D : List T) (x : List Int) (l : List (Int × Int)) (k : Int) : List (Int × Int) := aput k (evVal D x l k) l
def evalF (D : List T) (x : List Int) (ks : List Int) : List (Int × Int) := ks.foldl (evStep D x) []
theorem evalF_take (D : List T) (x : List Int) (ks : List Int) {j : Nat} {k : Int} (h : ks[j]? = some k) : evalF D x (ks.take (j + 1)) = evStep D x (evalF D x (ks.take j)) k := by
  rw [List.take_add_one, h]
  simp [evalF, List.foldl_append]
def vU (xs : List Int) : Array Value := (xs.map u32v).toArray
theorem cellU {B : Nat} {w0 w : World} {L : List Ck} {g : Nat} {bt : TypeId} {xs : List Int} {mk : Array Value → List Ck} (H : Hp B w0 w L) {k : Nat} {m : Int} (hk : xs[k]? = some m) (hb : HasB L g bt (vU xs) mk := by infer_instance) : w.cell? ⟨g, 0 + k * 1, none⟩ = some (.int .u32 m) := by
  rw [cell_of_blk (H.getB (h := hb)), Nat.zero_add, Nat.mul_one]
  simp [vU, hk, u32v]
theorem r_lku {P : Program} {n : Nat} {f : Fr} {w : World} {o : Oper} {B : Nat} {w0 : World} {L : List Ck} {r : Nat} {l : List (Int × Int)} {mk : List (Int × Int) → List Ck} {t kt et : TypeId} {x y : Operand} {size bytes : Nat} {a : Int} (H : Hp B w0 w L) (K : KeyT P kt (fun n : Int => Value.int .i64 n)) (ho : o.op = .lookup t x y false := by rfl) (hx : ev n f x = .map (some r) := by rfl)
    (hT : UT P t (.map kt et) := by infer_instance) (hS : TI P et size (.int .u32 0) bytes := by infer_instance) (hb : HasM L r Int Int (fun n : Int => Value.int .i64 n) u32v l mk := by infer_instance) (hy : ev n f y = .int .i64 a := by rfl) :
    (execOp (ev n f) o).run P w = .ok (.value (.int .u32 (mg l a))) w := by
  rw [r_lk H K (hy := hy) ho hx hT hS hb]
  unfold mg mget
  cases alook a l <;> rfl
end Wh
namespace Wh
open Go
theorem mg_put (l : List (Int × Int)) (k a : Int) (v : Int) : mg (aput k v l) a = if k = a then v else mg l a := by
  induction l with
  | nil => simp only [aput, mg, alook]; split <;> rfl
  | cons p l ih =>
    obtain ⟨k', v'⟩ := p
    simp only [aput]
    by_cases e : k' = k
    · subst e
      simp only [if_true, mg, alook]
      split <;> rfl
    · simp only [e, if_false, mg, alook]
      by_cases e2 : k' = a
      · subst e2
        have : ¬ k = k' := fun h => e h.symm
        simp [this]
      · simp only [e2, if_false]
        exact ih
theorem rowOf_i64 (ks : List Int) : rowOf i64v ks = ks.map Go.encZ := by
  induction ks with
  | nil => rfl
  | cons k ks ih =>
    have : rowOf i64v (k :: ks) = (i64v k).cells.toList ++ rowOf i64v ks := rfl
    rw [this, ih]
    rfl
end Wh
namespace Wh
open Go
/-- the first part of a slice -/
theorem r_sl {P : Program} {n : Nat} {f : Fr} {w : World} {o : Oper} {t e : TypeId} {x hi : Operand} {a : Option Addr} {len cap : Nat} {h : Int} {size bytes : Nat} {zero : Value} (h0 : 0 ≤ h) (h1 : h ≤ cap) (ho : o.op = .slice t x none (some hi) none := by rfl) (hx : ev n f x = .slice a len cap := by rfl)
    (hh : ev n f hi = .int .i64 h := by rfl) (hT : UT P t (.slice e) := by infer_instance) (hS : TI P e size zero bytes := by infer_instance) :
    (execOp (ev n f) o).run P w = .ok (.value (.slice a h.toNat cap)) w := by
  have hb : (Instr.sliceBound (.int .i64 h) cap .sliceAcap).run P w = .ok h.toNat w := by
    simp [Instr.sliceBound, asIntOf, h0, h1]
  have e0 : (if cap = 0 then a else a.map (·.add 0)) = a := by
    split
    · rfl
    · cases a <;> simp [Addr.add_zero']
  have hb' : (Instr.sliceBounds true len cap none (some (.int .i64 h)) none).run P w = .ok (0, h.toNat, cap) w := by
    simp [Instr.sliceBounds, hb]
  have e1 := run_underlying' (P := P) (w := w) hT
  simp [execOp, ho, hx, hh, Instr.sliceAt, Instr.slice, e1, hb', run_sizeOf hS, e0]
end Wh
namespace Wh
open Go
theorem rowAt_take {α : Type} {enc : α → Value} {w : World} {a : Addr} {l : List α} (h : RowAt w a (rowOf enc l)) (k : Nat) : RowAt w a (rowOf enc (l.take k)) := by
  intro j u hj
  refine h j u ?_
  have e : rowOf enc l = rowOf enc (l.take k) ++ rowOf enc (l.drop k) := by
    unfold rowOf
    rw [← List.flatMap_append, List.take_append_drop]
  have hl : j < (rowOf enc (l.take k)).length := by
    rcases Nat.lt_or_ge j (rowOf enc (l.take k)).length with h1 | h1
    · exact h1
    · rw [List.getElem?_eq_none h1] at hj; cases hj
  rw [e, List.getElem?_append_left hl]
  exact hj
end Wh
namespace Wh
open Go
theorem r_slk {P : Program} {n : Nat} {f : Fr} {w : World} {o : Oper} {t e : TypeId} {x hi : Operand} {a : Option Addr} {len cap k : Nat} {h : Int} {size bytes : Nat} {zero : Value} (hk : h.toNat = k) (h0 : 0 ≤ h) (h1 : h ≤ cap) (ho : o.op = .slice t x none (some hi) none := by rfl) (hx : ev n f x = .slice a len cap := by rfl)
    (hh : ev n f hi = .int .i64 h := by rfl) (hT : UT P t (.slice e) := by infer_instance) (hS : TI P e size zero bytes := by infer_instance) :
    (execOp (ev n f) o).run P w = .ok (.value (.slice a k cap)) w := hk ▸ r_sl h0 h1 ho hx hh hT hS
end Wh
namespace Wh
open Go
theorem r_faG {P : Program} {n : Nat} {f : Fr} {w : World} {o : Oper} {s : TypeId} {x : Operand} {i : Nat} {a : Addr} {off : Nat} {ty : TypeId} {size bytes : Nat} {zero : Value} (ho : o.op = .fieldAddr s x i := by rfl) (hx : ev n f x = .pointer (some a) := by rfl)
    (hF : FO P s i off ty := by infer_instance) (hT : TI P ty size zero bytes := by infer_instance) (hs : Nat.beq size 0 = false := by rfl) :
    (execOp (ev n f) o).run P w = .ok (.value (.pointer (some (a.add off)))) w := by
  have h := hF.eq
  have hs' : ¬ size = 0 := fun e => by subst e; simp at hs
  cases hu : P.underlying s with
  | none => rw [hu] at h; simp at h
  | some d =>
    rw [hu] at h
    cases d with
    | struct fs =>
      simp only at h
      cases hf : fs[i]? with
      | none => rw [hf] at h; simp at h
      | some fl =>
        rw [hf] at h
        simp only [Option.map_some, Option.some.injEq, Prod.mk.injEq] at h
        obtain ⟨h1, h2⟩ := h
        subst h1 h2
        simp [execOp, ho, hx, Instr.fieldAt, run_underlying hu, hf, Instr.sureAddr, fieldPlace, run_sizeOf hT, hs']
    | _ => simp at h
/-- a cell of an element of a row -/
theorem rowAt_cell {α : Type} {enc : α → Value} {w : World} {a : Addr} {l : List α} {size i k : Nat} {x : α} {u : Value} (h : RowAt w a (rowOf enc l)) (hi : l[i]? = some x) (hs : ∀ x, (enc x).cells.size = size) (hk : (enc x).cells[k]? = some u) : w.cell? ((a.add (i * size)).add k) = some u := by
  rw [Addr.add_add]
  exact h _ _ (rowOf_at hs l i x hi k u hk)
end Wh
namespace Wh.WhS
open Go
/-- a step of made: what it comes to at once -/
inductive St where
  | no
  | ret (n : Int)
  | const (w : Int)
  | goes (op a w : Int)
  | call (op a b : Int)
  | opr
def among (op : Int) (l : List Int) : Bool := l.contains op
def shift (op : Int) : Bool := among op [29, 33, 34]
def known (D : List T) (n : Int) : Int × Bool := ((WhD.node D n).1.v, decide ((WhD.node D n).1.kind = 0))
def tabN (i : Nat) : Int := (([0, 1, 28, 2, 29, 14, 24, 3, 30, 22, 20, 15, 25, 17, 4, 8, 31, 27, 13, 23, 21, 19, 16, 7, 26, 12, 18, 6, 11, 5, 10, 9] : List Int)[i]?).getD 0
def tzi (v : Int) : Int := (IntKind.u32.wrap (bits .and .u32 v (IntKind.u32.wrap (0 - v)) * 125613361)).fdiv (2 ^ 27)
def tz (v : Int) : Int := if v = 0 then 32 else tabN (tzi v).toNat
def one (v : Int) : Bool := !decide (v = 0) && decide (bits .and .u32 v (IntKind.u32.wrap (v - 1)) = 0)
def byWord (D : List T) (op a b v : Int) : St :=
  if (decide (v = 0) && among op [27, 35, 32]) || (decide (v = 1) && among op [37, 41, 42]) || (decide (v = 4294967295) && decide (op = 36)) then .ret a
  else if (decide (v = 0) && among op [36, 37, 31]) || (decide (v = 1) && among op [43, 44]) then .const 0
  else if decide (v = 4294967295) && decide (op = 35) then .ret b
  else if shift op && decide (v.tmod 32 = 0) then .ret a
  else if shift op && decide (32 ≤ v) then .goes op a (v.tmod 32)
  else if one v && decide (1 < v) && decide (op = 37) then .goes 29 a (IntKind.u32.wrap (tz v))
  else if one v && decide (1 < v) && decide (op = 42) then .goes 33 a (IntKind.u32.wrap (tz v))
  else if one v && decide (1 < v) && decide (op = 44) then .goes 36 a (IntKind.u32.wrap (v - 1))
  else if !decide ((WhD.node D a).1.kind = 2) || !decide ((WhD.node D a).1.op = op) then .no
  else if !(known D (WhD.node D a).1.b).2 then .no
  else if among op [27, 36, 35, 32] then .goes op (WhD.node D a).1.a (WhI.wdo op (known D (WhD.node D a).1.b).1 v).1
  else if !shift op || decide ((known D (WhD.node D a).1.b).1 < 1) || decide (32 ≤ (known D (WhD.node D a).1.b).1) then .no
  else if decide (IntKind.u32.wrap ((known D (WhD.node D a).1.b).1 + v) < 32) then .goes op (WhD.node D a).1.a (IntKind.u32.wrap ((known D (WhD.node D a).1.b).1 + v))
  else if decide (op = 34) then .goes op (WhD.node D a).1.a 31 else .const 0
def twice (op a : Int) : St :=
  if decide (op = 28) || decide (op = 32) || decide (op = 30) || decide (op = 31) then .const 0
  else if decide (op = 36) || decide (op = 35) then .ret a
  else if decide (op = 27) then .goes 29 a 1 else .no
def St.isNo : St → Bool
  | .no => true
  | _ => false
def turns (op : Int) : Bool := among op [27, 36, 35, 32, 37, 38, 40]
def tail (op a : Int) (b : Int) : St := if decide (a = b) && !(twice op a).isNo then twice op a else .opr
def made (D : List T) (op a b : Int) : St :=
  if (known D a).2 && (known D b).2 then .const (WhI.wdo op (known D a).1 (known D b).1).1
  else if turns op && (((known D a).2 && !(known D b).2) || (!(known D a).2 && !(known D b).2 && decide (a > b))) then .call op b a
  else if decide (op = 28) && (known D b).2 then .goes 27 a (IntKind.u32.wrap (0 - (known D b).1))
  else if (known D b).2 && !(byWord D op a b (known D b).1).isNo then byWord D op a b (known D b).1
  else tail op a b
abbrev Rec := List T → Int → Int → Int → Option (Int × List T)
def K (w : Int) : T := ⟨0, w, 0, 0, 0⟩
def exec (rec : Rec) (D : List T) (op a b : Int) : St → Option (Int × List T)
  | .no => none
  | .ret n => some (n, D)
  | .const w => some (addT D (K w))
  | .goes o x w => rec (addT D (K w)).2 o x (addT D (K w)).1
  | .call o x y => rec D o x y
  | .opr => some ((WhD.op D op a b).1, (WhD.op D op a b).2.2)
def madeF : Nat → Rec
  | 0, _, _, _, _ => none
  | n + 1, D, op, a, b => exec (madeF n) D op a b (made D op a b)
/-- words are in their bounds -/
def Rng (D : List T) : Prop := ∀ t ∈ D, 0 ≤ t.v ∧ t.v < 4294967296
theorem Rng.node {D : List T} (h : Rng D) (n : Int) : 0 ≤ (WhD.node D n).1.v ∧ (WhD.node D n).1.v < 4294967296 := by
  unfold WhD.node
  split
  · cases hg : D[n.toNat]? with
    | none => simp
    | some t => simpa using h t (List.mem_of_getElem? hg)
  · simp
theorem Rng.known {D : List T} (h : Rng D) (n : Int) : 0 ≤ (known D n).1 ∧ (known D n).1 < 4294967296 := h.node n
theorem Rng.add {D : List T} (h : Rng D) {t : T} (ht : 0 ≤ t.v ∧ t.v < 4294967296) : Rng (addT D t).2 := by
  intro u hu
  unfold addT at hu
  split at hu
  · exact h u hu
  · simp at hu
    rcases hu with hu | rfl
    · exact h u hu
    · exact ht
theorem Rng.op {D : List T} (h : Rng D) (o a b : Int) : Rng (WhD.op D o a b).2.2 := by
  unfold WhD.op
  split
  · exact h
  · split
    · exact h
    · exact h.add ⟨Int.le_refl 0, (by decide : (0 : Int) < 4294967296)⟩
theorem addT_len (D : List T) (t : T) : (addT D t).2.length ≤ D.length + 1 := by
  unfold addT
  split <;> simp
theorem u32_rng (a : Int) : 0 ≤ IntKind.u32.wrap a ∧ IntKind.u32.wrap a < 4294967296 := by
  have h : (2 : Int) ^ 32 = 4294967296 := by decide
  simp only [IntKind.wrap, IntKind.bits, IntKind.signed, h, Bool.false_and]
  simp
  omega
theorem tzi_rng (v : Int) : 0 ≤ tzi v ∧ tzi v < 32 := by
  have := u32_rng (bits .and .u32 v (IntKind.u32.wrap (0 - v)) * 125613361)
  have h : (2 : Int) ^ 27 = 134217728 := by decide
  simp only [tzi, h]
  rw [Int.fdiv_eq_ediv_of_nonneg _ (by decide)]
  omega
theorem tmod_rng {v : Int} (h : 0 ≤ v ∧ v < 4294967296) : 0 ≤ v.tmod 32 ∧ v.tmod 32 < 4294967296 := by
  rw [Int.tmod_eq_emod_of_nonneg h.1]
  omega
theorem bits_rng (op : BinOp) (a b : Int) : 0 ≤ bits op .u32 a b ∧ bits op .u32 a b < 4294967296 := by
  cases op <;> first | exact u32_rng _ | exact ⟨by decide, by decide⟩
theorem wdo_rng {op a b : Int} (ha : 0 ≤ a ∧ a < 4294967296) (hb : 0 ≤ b ∧ b < 4294967296) : 0 ≤ (WhI.wdo op a b).1 ∧ (WhI.wdo op a b).1 < 4294967296 := by
  have hf : ∀ b, 0 ≤ WhI.flag b ∧ WhI.flag b < 4294967296 := by intro b; cases b <;> exact ⟨by decide, by decide⟩
  have hd : 0 ≤ WhI.divided op a b ∧ WhI.divided op a b < 4294967296 := by
    unfold WhI.divided
    have h1 : 0 ≤ a.tmod b ∧ a.tmod b < 4294967296 := by
      rw [Int.tmod_eq_emod_of_nonneg ha.1]
      by_cases e : b = 0
      · subst e; simpa using ha
      · have := Int.emod_nonneg a e
        have := Int.emod_lt_of_pos a (by omega : 0 < b)
        omega
    simp only []
    repeat' split
    all_goals first | exact ha | exact ⟨by decide, by decide⟩ | exact u32_rng _ | exact h1
  have hh : 0 ≤ WhI.high op a b ∧ WhI.high op a b < 4294967296 := by
    unfold WhI.high
    split <;> exact u32_rng _
  have hq : ∀ k : Nat, 0 ≤ a.fdiv (2 ^ k) ∧ a.fdiv (2 ^ k) < 4294967296 := by
    intro k
    have h2 : (0 : Int) ≤ 2 ^ k := Int.le_of_lt (Int.pow_pos (by decide))
    rw [Int.fdiv_eq_ediv_of_nonneg _ h2]
    exact ⟨Int.ediv_nonneg ha.1 h2, Int.lt_of_le_of_lt (Int.ediv_le_self _ ha.1) ha.2⟩
  have key : ∀ (c : Prop) [Decidable c] (x y : Int × Int), (0 ≤ x.1 ∧ x.1 < 4294967296) → (0 ≤ y.1 ∧ y.1 < 4294967296) → (0 ≤ (if c then x else y).1 ∧ (if c then x else y).1 < 4294967296) := by
    intro c _ x y hx hy
    split
    · exact hx
    · exact hy
  unfold WhI.wdo
  repeat' refine key _ _ _ ?_ ?_
  all_goals first | exact u32_rng _ | exact bits_rng _ _ _ | exact hf _ | exact hd | exact hh | exact hq _ | exact ⟨by decide, by decide⟩
def outS (D : List T) (r : Int × List T) (s : St) : Int × Bool × List T := if s.isNo then (0, false, D) else (r.1, true, r.2)
end Wh.WhS
