/- Literals of structs and arrays; elements that are more than one cell. -/
import Derived.Test.YtjdckpeoinkafaaGreatDoorFwI
import Derived.Test.YtjdckpeoinkafaaGreatDoorFwG
import Derived.Laws.CopyRow
set_option linter.all false
namespace Wh
open Go
/-- where a struct's fields lie -/
class BS (P : Program) (t : TypeId) (pl : outParam (List (Nat × Nat))) : Prop where
  eq : ∃ fs : Array Field, P.underlying t = some (.struct fs) ∧ ∀ w, (fs.mapM fun (f : Field) => (do pure (f.offset, ← Go.sizeOf f.type) : Sem (Nat × Nat))).run P w = .ok pl.toArray w
def fillC (pl : List (Nat × Nat)) (cells : List Value) : List (Nat × Value) → Option (List Value)
  | [] => some cells
  | (i, v) :: r => match pl[i]? with
    | some (off, 1) => if Nat.blt off cells.length && v.oneCell' then fillC pl (cells.set off v) r else none
    | _ => none
theorem cells_one {v : Value} (h : v.oneCell' = true) : v.cells = #[v] := by cases v <;> first | rfl | (simp [Value.oneCell'] at h)
theorem fillC_fill (pl : List (Nat × Nat)) : ∀ (ps : List (Nat × Value)) (cs cs' : List Value), fillC pl cs ps = some cs' → Instr.fill (pl.toArray[·]?) cs.toArray ps = some cs'.toArray
  | [], cs, cs', h => by simp only [fillC, Option.some.injEq] at h; simp [Instr.fill, h]
  | (i, v) :: r, cs, cs', h => by
    simp only [fillC] at h
    split at h
    · rename_i off e
      split at h
      · rename_i hc
        simp only [Bool.and_eq_true] at hc
        have h1 := cells_one hc.2
        have h2 := blt_iff.1 hc.1
        have ih := fillC_fill pl r _ _ h
        simp only [Instr.fill, List.getElem?_toArray, e, h1]
        rw [if_neg (by simp; omega), ← ih]
        simp
      · cases h
    · cases h
section
variable {P : Program} {n : Nat} {f : Fr} {w : World} {o : Oper} {B : Nat} {w0 : World} {L : List Ck}
theorem chg_setRow (w : World) (g : Nat) (cs : Array Value) : Chg (fun k => k = g) w (w.setRow g cs) := by
  refine ⟨?_, fun k _ hk => ?_, rfl, rfl, rfl⟩
  · simp [World.setRow]
  · simp only [World.setRow]
    rw [Array.getElem?_modify, if_neg (fun e => hk e.symm)]
theorem heap_setRow_same (w : World) (g : Nat) (cs cs' : Array Value) (t : TypeId) (h : w.heap[g]? = some (.cells cs t (0, 0))) : (w.setRow g cs').heap[g]? = some (.cells cs' t (0, 0)) := by
  simp only [World.setRow]
  rw [Array.getElem?_modify, if_pos rfl, h]
  rfl
/-- a value of many cells is stored into a block, or a part of it -/
theorem r_stP {t : TypeId} {x y : Operand} {g p : Nat} {bt : TypeId} {cs vs : Array Value} {mk : Array Value → List Ck} {size bytes : Nat} {zero : Value} (H : Hp B w0 w L) (ho : o.op = .store t x y := by rfl) (hx : ev n f x = .pointer (some ⟨g, p, none⟩) := by rfl)
    (hy : ev n f y = .agg vs := by first | ((conv => lhs; whnf); done) | rfl) (hS : TI P t size zero bytes := by infer_instance) (hb : HasB L g bt cs mk := by infer_instance) (h1 : vs.toList.all (·.oneCell') = true := by rfl) (hs : vs.size = size := by rfl) (hp : p + size ≤ cs.size) :
    ∃ w', (execOp (ev n f) o).run P w = .ok .skip w' ∧ Hp B w0 w' (mk (cs.toList.take p ++ vs.toList ++ cs.toList.drop (p + size)).toArray) := by
  have hblk := H.getB (h := hb)
  have h2 : ∀ v ∈ vs.toList, v.oneCell' = true := List.all_eq_true.1 h1
  have := run_storeCells_at (P := P) g p bt vs.toList 0 cs w hblk (by simp; omega) h2
  refine ⟨_, ?_, H.setB (h := hb) _ (chg_setRow w g _) (heap_setRow_same w g cs _ bt hblk)⟩
  simp only [Nat.add_zero, Array.length_toList, hs] at this
  simp [execOp, ho, hx, hy, Instr.storeAt, Instr.sureAddr, storeVar, run_sizeOf hS, Value.cells, hs, this]
/-- the whole of a block -/
theorem r_stW {t : TypeId} {x y : Operand} {g : Nat} {bt : TypeId} {cs vs : Array Value} {mk : Array Value → List Ck} {size bytes : Nat} {zero : Value} (H : Hp B w0 w L) (ho : o.op = .store t x y := by rfl) (hx : ev n f x = .pointer (some ⟨g, 0, none⟩) := by rfl)
    (hy : ev n f y = .agg vs := by first | ((conv => lhs; whnf); done) | rfl) (hS : TI P t size zero bytes := by infer_instance) (hb : HasB L g bt cs mk := by infer_instance) (h1 : vs.toList.all (·.oneCell') = true := by rfl) (hs : vs.size = size := by rfl) (hp : cs.size = size := by rfl) :
    ∃ w', (execOp (ev n f) o).run P w = .ok .skip w' ∧ Hp B w0 w' (mk vs) := by
  obtain ⟨w', h, H'⟩ := r_stP (P := P) H ho hx hy hS hb h1 hs (by omega)
  refine ⟨w', h, ?_⟩
  have e : (cs.toList.take 0 ++ vs.toList ++ cs.toList.drop (0 + size)).toArray = vs := by
    apply Array.toList_inj.1
    simp [List.drop_of_length_le, hp]
  rwa [e] at H'
/-- a struct's literal -/
theorem r_bd {t : TypeId} {parts : Array (Nat × Operand)} {pl : List (Nat × Nat)} {ps : List (Nat × Value)} {cells zc : List Value} {zero : Value} {size bytes : Nat} (ho : o.op = .build t parts := by rfl) (hT : BS P t pl := by infer_instance) (hS : TI P t size zero bytes := by infer_instance)
    (hz : zero.cells.toList = zc := by rfl) (hp : parts.toList.map (fun x => (x.1, ev n f x.2)) = ps := by first | ((conv => lhs; whnf); done) | rfl) (hc : fillC pl zc ps = some cells := by rfl) :
    (execOp (ev n f) o).run P w = .ok (.value (.agg cells.toArray)) w := by
  obtain ⟨fs, h1, h2⟩ := hT.eq
  subst hz
  have := fillC_fill _ _ _ _ hc
  simp only [Array.toArray_toList, List.getElem?_toArray] at this
  have h3 := h2 w
  simp only [bind_pure_comp] at h3
  simp [execOp, ho, Instr.build, run_zeroValue hS, run_underlying h1, h3, hp, this]
/-- an array's literal, whole -/
theorem r_bda {t e : TypeId} {len : Nat} {parts : Array (Nat × Operand)} {size bytes size2 bytes2 : Nat} {zero zero2 : Value} (vs : List Value) (cells : List Value) (hc : vs.flatMap (fun v => v.cells.toList) = cells) (hp : parts.toList.map (fun x => (x.1, ev n f x.2)) = vs.zipIdx.map fun p => (p.2, p.1))
    (ho : o.op = .build t parts := by rfl) (hT : UT P t (.array len e) := by infer_instance) (hS : TI P e size zero bytes := by infer_instance) (hZ : TI P t size2 zero2 bytes2 := by infer_instance)
    (hv : ∀ v ∈ vs, v.cells.size = size) (hn : vs.length = len := by rfl) (hl : zero2.cells.size = len * size := by rfl) :
    (execOp (ev n f) o).run P w = .ok (.value (.agg cells.toArray)) w := by
  subst hc
  obtain ⟨r, hr, er⟩ := fill_all size vs 0 zero2.cells hv (by simp [hn, hl])
  have er' : r = (vs.flatMap (fun v => v.cells.toList)).toArray := by
    apply Array.toList_inj.1; rw [er]; simp
  subst er'
  have hr' : Instr.fill (fun i => some (i * size, size)) zero2.cells (parts.toList.map (fun x => (x.1, ev n f x.2))) = some (vs.flatMap (fun v => v.cells.toList)).toArray := by rw [hp]; exact hr
  have e1 := run_underlying' (P := P) (w := w) hT
  simp [execOp, ho, Instr.build, run_zeroValue hZ, e1, run_sizeOf hS, hr']
/-- an element of an array's value that is more than one cell -/
theorem r_ixA {t e : TypeId} {x y : Operand} {cs : Array Value} {len : Nat} {k : IntKind} {i : Int} {size bytes : Nat} {zero : Value} {ec : List Value} (ho : o.op = .index t x y := by rfl) (hx : ev n f x = .agg cs := by rfl)
    (hy : ev n f y = .int k i := by rfl) (hT : UT P t (.array len e) := by infer_instance) (hS : TI P e size zero bytes := by infer_instance) (hO : Agg P e := by infer_instance) (h0 : 0 ≤ i) (h1 : i < len) (hv : (cs.toList.drop (i.toNat * size)).take size = ec) :
    (execOp (ev n f) o).run P w = .ok (.value (.agg ec.toArray)) w := by
  subst hv
  have h2 : ((cs.toList.drop (i.toNat * size)).take size).toArray = cs.extract (i.toNat * size) (i.toNat * size + size) := by
    apply Array.toList_inj.1; simp [List.drop_take, Nat.add_sub_cancel_left]
  simp [execOp, ho, hx, hy, Instr.index, asIntOf, run_underlying' hT, h0, h1, run_sizeOf hS, part, run_isAggA hO, h2]
end
end Wh
