/- Arrays of numbers; literals without parts. -/
import Derived.Test.YtjdckpeoinkafaaGreatDoorFwK
import Derived.Test.YtjdckpeoinkafaaGreatDoorDg
set_option linter.all false
namespace Wh
open Go
def vI (xs : List Int) : Array Value := (xs.map i64v).toArray
theorem vI_at {xs : List Int} {k : Nat} {n : Int} (h : xs[k]? = some n) : (vI xs)[k]? = some (.int .i64 n) := by simp [vI, h, i64v]
theorem vI_set (xs : List Int) (k : Nat) (n : Int) : (vI xs).setIfInBounds k (.int .i64 n) = vI (xs.set k n) := by
  apply Array.toList_inj.1
  simp [vI, List.map_set, i64v]
theorem vI_size (xs : List Int) : (vI xs).size = xs.length := by simp [vI]
section
variable {P : Program} {n : Nat} {f : Fr} {w : World} {o : Oper} {B : Nat} {w0 : World} {L : List Ck}
theorem r_b0 {t e : TypeId} {len : Nat} {size bytes : Nat} {zero : Value} (ho : o.op = .build t #[] := by rfl) (hT : UT P t (.array len e) := by infer_instance) {size2 bytes2 : Nat} {zero2 : Value} (hS2 : TI P e size2 zero2 bytes2 := by infer_instance) (hS : TI P t size zero bytes := by infer_instance) :
    (execOp (ev n f) o).run P w = .ok (.value (.agg zero.cells)) w := by
  have e1 := run_underlying' (P := P) (w := w) hT
  simp [execOp, ho, Instr.build, run_zeroValue hS, e1, run_sizeOf hS2, Instr.fill]
theorem cellI {g : Nat} {bt : TypeId} {xs : List Int} {mk : Array Value → List Ck} (H : Hp B w0 w L) {k : Nat} {m : Int} (hk : xs[k]? = some m) (hb : HasB L g bt (vI xs) mk := by infer_instance) : w.cell? ⟨g, 0 + k * 1, none⟩ = some (.int .i64 m) := by
  rw [cell_of_blk (H.getB (h := hb)), Nat.zero_add, Nat.mul_one]
  exact vI_at hk
/-- a number is stored into an array -/
theorem r_stI {t : TypeId} {x y : Operand} {g k : Nat} {bt : TypeId} {xs : List Int} {mk : Array Value → List Ck} {size bytes : Nat} {zero : Value} {m : Int} (H : Hp B w0 w L) (hk : k < xs.length) (ho : o.op = .store t x y := by rfl) (hx : ev n f x = .pointer (some ⟨g, 0 + k * 1, none⟩) := by rfl)
    (hy : ev n f y = .int .i64 m := by rfl) (hS : TI P t size zero bytes := by infer_instance) (hs : Nat.beq size 1 = true := by rfl) (hb : HasB L g bt (vI xs) mk := by infer_instance) :
    ∃ w', (execOp (ev n f) o).run P w = .ok .skip w' ∧ Hp B w0 w' (mk (vI (xs.set k m))) := by
  have := r_st (P := P) (n := n) (f := f) (o := o) H ho hx hy rfl hS hs hb (blt_iff.2 (by rw [vI_size]; omega))
  rw [vI_set, Nat.zero_add, Nat.mul_one] at this
  exact this
end
end Wh
namespace Wh
open Go
section
variable {P : Program} {n : Nat} {f : Fr} {w : World} {o : Oper}
theorem fillA (size : Nat) (h : size = 1) : ∀ (ps : List (Nat × Value)) (cs cs' : List Value), fillC ((List.range cs.length).map fun i => (i, 1)) cs ps = some cs' → Instr.fill (fun i => some (i * size, size)) cs.toArray ps = some cs'.toArray := by
  subst h
  have key : ∀ (N : Nat) (ps : List (Nat × Value)) (cs cs' : List Value), cs.length = N → fillC ((List.range N).map fun i => (i, 1)) cs ps = some cs' → Instr.fill (fun i => some (i * 1, 1)) cs.toArray ps = some cs'.toArray := by
    intro N ps
    induction ps with
    | nil => intro cs cs' _ h; simp only [fillC, Option.some.injEq] at h; simp [Instr.fill, h]
    | cons pv r ih =>
      obtain ⟨i, v⟩ := pv
      intro cs cs' hN h
      simp only [fillC] at h
      split at h
      · rename_i off e
        simp only [List.getElem?_map, List.getElem?_range', Option.map_eq_some_iff] at e
        obtain ⟨a, ha, e2⟩ := e
        rw [List.getElem?_eq_some_iff] at ha
        obtain ⟨hlt, ha⟩ := ha
        simp at ha e2
        subst ha e2
        split at h
        · rename_i hc
          simp only [Bool.and_eq_true] at hc
          have h1 := cells_one hc.2
          have h2 := blt_iff.1 hc.1
          have ih' := ih _ _ (by simpa using hN) h
          simp only [Instr.fill, h1]
          rw [if_neg (by simp; omega), ← ih']
          simp
        · cases h
      · cases h
  exact fun ps cs cs' h => key cs.length ps cs cs' rfl h
/-- a literal of an array of single cells -/
theorem r_bd1 {t e : TypeId} {len : Nat} {parts : Array (Nat × Operand)} {size bytes bytes2 : Nat} {zero zero2 : Value} (cells : Array Value) {ps : List (Nat × Value)} (hp : parts.toList.map (fun x => (x.1, ev n f x.2)) = ps) (hc : fillC ((List.range zero.cells.toList.length).map fun i => (i, 1)) zero.cells.toList ps = some cells.toList)
    (ho : o.op = .build t parts := by rfl) (hT : UT P t (.array len e) := by infer_instance) (hS2 : TI P e 1 zero2 bytes2 := by infer_instance) (hS : TI P t size zero bytes := by infer_instance) :
    (execOp (ev n f) o).run P w = .ok (.value (.agg cells)) w := by
  have e1 := run_underlying' (P := P) (w := w) hT
  have := fillA 1 rfl ps _ _ hc
  simp only [Array.toArray_toList, Nat.mul_one] at this
  simp [execOp, ho, Instr.build, run_zeroValue hS, e1, run_sizeOf hS2, hp, this]
end
end Wh
