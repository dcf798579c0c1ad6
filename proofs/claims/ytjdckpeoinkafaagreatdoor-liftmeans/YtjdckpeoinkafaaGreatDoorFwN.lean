/- Slices that a call makes with a length: cells by number. -/
import Derived.Test.YtjdckpeoinkafaaGreatDoorFwM
import Derived.Laws.MakeOwn
set_option linter.all false
namespace Wh
open Go
section
variable {P : Program} {n : Nat} {f : Fr} {w : World} {o : Oper} {B : Nat} {w0 : World} {L : List Ck}
theorem madeCells_one (z : Value) (k : Nat) (h : z.cells = #[z]) : madeCells z.cells k = (List.replicate k z).toArray := by
  rw [h]
  apply Array.toList_inj.1
  simp only [madeCells]
  apply List.ext_getElem
  · simp
  · intro i h1 h2
    simp
    have : i % 1 = 0 := Nat.mod_one i
    simp [this]
/-- make of a slice of single cells -/
theorem r_mks {t e : TypeId} {x y : Operand} {k k2 : IntKind} {len : Nat} {bytes : Nat} {zero : Value} (H : Hp B w0 w L) (ho : o.op = .makeSlice t x y := by rfl) (hx : ev n f x = .int k len := by rfl) (hy : ev n f y = .int k2 len := by rfl)
    (hT : UT P t (.slice e) := by infer_instance) (hS : TI P e 1 zero bytes := by infer_instance) (hz : zero.cells = #[zero] := by rfl) (hb : bytes * len ≤ 281474976710656 := by decide) (hl : len ≤ 9223372036854775807 := by decide) :
    ∃ g w', (execOp (ev n f) o).run P w = .ok (.value (.slice (some ⟨g, 0, none⟩) len len)) w' ∧ Hp B w0 w' (Blk g e (List.replicate len zero).toArray :: L) := by
  obtain ⟨i, hi, h2, h3, h4⟩ := info_of hS
  have hb' : (i.bytes : Int) * (len : Int) ≤ 281474976710656 := by rw [h4, ← Int.natCast_mul]; omega
  have hr := run_make (P := P) w t e i zero hT.eq hi h3 k k2 (len : Int) (len : Int) (by omega) (Int.le_refl _) hb' (by omega)
  simp only [Int.toNat_natCast, h2, Nat.mul_one] at hr
  rw [madeCells_one zero len hz] at hr
  exact ⟨w.heap.size, _, by simp [execOp, ho, hx, hy, hr], H.alloc e _⟩
/-- the address of an element of a slice that begins a block -/
theorem r_iaB {t e : TypeId} {x y : Operand} {g len cap : Nat} {k : IntKind} {i : Int} {size bytes : Nat} {zero : Value} (ho : o.op = .indexAddr t x y := by rfl) (hx : ev n f x = .slice (some ⟨g, 0, none⟩) len cap := by rfl)
    (hy : ev n f y = .int k i := by rfl) (hT : UT P t (.slice e) := by infer_instance) (hS : TI P e size zero bytes := by infer_instance) (h0 : 0 ≤ i) (h1 : i < len) :
    (execOp (ev n f) o).run P w = .ok (.value (.pointer (some ⟨g, 0 + i.toNat * size, none⟩))) w := by
  rw [r_iaS ho hx hy hT hS h0 h1, add_of]
variable {α : Type} {enc : α → Value}
/-- a cell of a block of single cells, by its number -/
theorem cellK {g : Nat} {bt : TypeId} {cs : Array Value} {xs : List α} {mk : Array Value → List Ck} (H : Hp B w0 w L) {k : Nat} {m : α} (hk : xs[k]? = some m) (hb : HasB L g bt cs mk := by infer_instance) (hcs : cs = (xs.map enc).toArray := by rfl) : w.cell? ⟨g, 0 + k * 1, none⟩ = some (enc m) := by
  rw [cell_of_blk (H.getB (h := hb)), Nat.zero_add, Nat.mul_one, hcs]
  simp [hk]
theorem r_stK {t : TypeId} {x y : Operand} {g k : Nat} {bt : TypeId} {cs : Array Value} {xs : List α} {mk : Array Value → List Ck} {size bytes : Nat} {zero : Value} {m : α} (H : Hp B w0 w L) (hk : k < xs.length) (hcs : cs = (xs.map enc).toArray) (ho : o.op = .store t x y := by rfl) (hx : ev n f x = .pointer (some ⟨g, 0 + k * 1, none⟩) := by rfl)
    (hy : ev n f y = enc m := by rfl) (he : (enc m).oneCell' = true := by rfl) (hS : TI P t size zero bytes := by infer_instance) (hs : Nat.beq size 1 = true := by rfl) (hb : HasB L g bt cs mk := by infer_instance) :
    ∃ w', (execOp (ev n f) o).run P w = .ok .skip w' ∧ Hp B w0 w' (mk ((xs.set k m).map enc).toArray) := by
  subst hcs
  have := r_st (P := P) (n := n) (f := f) (o := o) H ho hx hy he hS hs hb (blt_iff.2 (by simp; omega))
  rw [Nat.zero_add, Nat.mul_one] at this
  have e : ((xs.map enc).toArray).setIfInBounds k (enc m) = ((xs.set k m).map enc).toArray := by
    apply Array.toList_inj.1
    simp [List.map_set]
  rwa [e] at this
end
/-- a list that is filled from the front -/
def fillN {α : Type} (z : α) (L : List α) (n : Nat) : List α := L.take n ++ List.replicate (L.length - n) z
theorem fillN_len {α : Type} (z : α) (L : List α) {n : Nat} (h : n ≤ L.length) : (fillN z L n).length = L.length := by simp [fillN]; omega
theorem fillN_zero {α : Type} (z : α) (L : List α) : fillN z L 0 = List.replicate L.length z := by simp [fillN]
theorem fillN_all {α : Type} (z : α) (L : List α) : fillN z L L.length = L := by simp [fillN]
theorem fillN_set {α : Type} (z : α) (L : List α) {n : Nat} {x : α} (h : L[n]? = some x) : (fillN z L n).set n x = fillN z L (n + 1) := by
  have hl : n < L.length := (List.getElem?_eq_some_iff.1 h).1
  unfold fillN
  rw [List.set_append_right _ _ (by simp; omega)]
  have e : L.length - n = (L.length - (n + 1)) + 1 := by omega
  have e2 : (L.take n).length = n := by simp; omega
  rw [e2, Nat.sub_self, e, List.replicate_succ, List.set_cons_zero, List.take_add_one, h]
  simp
theorem fillN_keep {α : Type} (z : α) (L : List α) {n : Nat} (h : L[n]? = some z) : fillN z L n = fillN z L (n + 1) := by
  rw [← fillN_set z L h]
  have hl : n < L.length := (List.getElem?_eq_some_iff.1 h).1
  unfold fillN
  rw [List.set_append_right _ _ (by simp; omega)]
  have e : L.length - n = (L.length - (n + 1)) + 1 := by omega
  have e2 : (L.take n).length = n := by simp; omega
  rw [e2, Nat.sub_self, e, List.replicate_succ, List.set_cons_zero]
end Wh
