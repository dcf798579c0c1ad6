/- Rows of a slice, read. -/
import Derived.Test.YtjdckpeoinkafaaGreatDoorFwJ
import Derived.DataElems
set_option linter.all false
namespace Wh
open Go
/-- cells that stand one after the other -/
def RowAt (w : World) (a : Addr) (xs : List Value) : Prop := ∀ j u, xs[j]? = some u → w.cell? (a.add j) = some u
def rowOf {α : Type} (enc : α → Value) (l : List α) : List Value := l.flatMap fun x => (enc x).cells.toList
theorem rowOf_length {α : Type} {enc : α → Value} {size : Nat} (hs : ∀ x, (enc x).cells.size = size) : ∀ l : List α, (rowOf enc l).length = l.length * size
  | [] => by simp [rowOf]
  | x :: l => by
    have := rowOf_length hs l
    simp only [rowOf] at this
    simp [rowOf, List.flatMap_cons, this, hs, Nat.add_mul, Nat.add_comm]
theorem rowOf_at {α : Type} {enc : α → Value} {size : Nat} (hs : ∀ x, (enc x).cells.size = size) : ∀ (l : List α) (i : Nat) (x : α), l[i]? = some x → ∀ j u, (enc x).cells[j]? = some u → (rowOf enc l)[i * size + j]? = some u
  | [], i, x, h, _, _, _ => by simp at h
  | y :: l, 0, x, h, j, u, hu => by
    simp only [List.getElem?_cons_zero, Option.some.injEq] at h
    subst h
    have hj : j < (enc y).cells.toList.length := by
      rcases Nat.lt_or_ge j (enc y).cells.size with h | h
      · simpa using h
      · rw [Array.getElem?_eq_none h] at hu; cases hu
    simp only [rowOf, List.flatMap_cons, Nat.zero_mul, Nat.zero_add]
    rw [List.getElem?_append_left hj]
    simpa using hu
  | y :: l, i + 1, x, h, j, u, hu => by
    have ih := rowOf_at hs l i x (by simpa using h) j u hu
    simp only [rowOf, List.flatMap_cons]
    rw [List.getElem?_append_right (by simp [hs, Nat.add_mul]; omega)]
    have e : (i + 1) * size + j - (enc y).cells.toList.length = i * size + j := by simp [hs, Nat.add_mul]; omega
    rw [e]
    exact ih
section
variable {P : Program} {n : Nat} {f : Fr} {w : World} {o : Oper} {B : Nat} {w0 : World} {L : List Ck}
theorem run_loadVarC {t : TypeId} [h1 : Agg P t] {size bytes : Nat} {zero : Value} [hS : TI P t size zero bytes] {a : Addr} {xs : Array Value} (hl : xs.size = size) (hc : ∀ j u, xs[j]? = some u → w.cell? (a.add j) = some u) :
    (loadVar t a).run P w = .ok (.agg xs) w := by
  have hc' : ∀ j v, xs.toList[j]? = some v → w.cell? (a.add j) = some v := by
    intro j v hj
    exact hc j v (by simpa using hj)
  have hl' : xs.toList.length = size := by simpa using hl
  have := run_loadCells_list (P := P) (w := w) a xs.toList hc'
  rw [hl'] at this
  simp only [Array.toArray_toList] at this
  simp [loadVar, run_isAggA h1, run_sizeOf hS, this]
/-- an element of a row is read: a struct -/
theorem r_ldR {α : Type} {enc : α → Value} {l : List α} {i : Nat} {y : α} {t : TypeId} {x : Operand} {a : Addr} {size bytes : Nat} {zero : Value} (hr : RowAt w a (rowOf enc l)) (hi : l[i]? = some y) (hs : ∀ x, (enc x).cells.size = size) (ho : o.op = .load t x := by rfl) (hx : ev n f x = .pointer (some (a.add (i * size))) := by rfl)
    (h1 : Agg P t := by infer_instance) (hS : TI P t size zero bytes := by infer_instance) : (execOp (ev n f) o).run P w = .ok (.value (.agg (enc y).cells)) w := by
  have : (loadVar t (a.add (i * size))).run P w = .ok (.agg (enc y).cells) w := run_loadVarC (hs y) fun j u hu => by
    rw [Addr.add_add]
    exact hr _ _ (rowOf_at hs l i y hi j u hu)
  simp [execOp, ho, hx, Instr.loadAt, Instr.sureAddr, this]
/-- an element of a row is read: one cell -/
theorem r_ldR1 {α : Type} {enc : α → Value} {l : List α} {i : Nat} {y : α} {t : TypeId} {x : Operand} {a : Addr} (hr : RowAt w a (rowOf enc l)) (hi : l[i]? = some y) (hs : ∀ x, (enc x).cells = #[enc x]) (ho : o.op = .load t x := by rfl) (hx : ev n f x = .pointer (some (a.add (i * 1))) := by rfl)
    (h1 : One P t := by infer_instance) : (execOp (ev n f) o).run P w = .ok (.value (enc y)) w := by
  have hc : w.cell? (a.add (i * 1)) = some (enc y) := hr _ _ (by simpa using rowOf_at (size := 1) (fun x => by simp [hs x]) l i y hi 0 (enc y) (by simp [hs y]))
  have h2 := run_loadVar1 (P := P) (t := t) hc
  simp only [Nat.mul_one] at h2 hx
  simp [execOp, ho, hx, Instr.loadAt, Instr.sureAddr, h2]
/-- a slice of the call's own -/
theorem Hp.row {e : TypeId} {size m : Nat} {v : Value} {xs : List Value} {mk : Ck → List Ck} (H : Hp B w0 w L) (h : HasR L v e size m xs mk := by infer_instance) : ∃ a c, v = .slice a m c ∧ (m = 0 ∨ ∃ g, a = some ⟨g, 0, none⟩ ∧ B ≤ g ∧ RowAt w ⟨g, 0, none⟩ xs) ∧ xs.length = m * size := by
  obtain ⟨R, h1, _⟩ := h.perm
  have H' := H.perm h1
  have h2 := H'.holds _ List.mem_cons_self
  rcases h2.2 with ⟨rfl, rfl⟩ | ⟨g, cap, cur, rfl, _, hh, hle, hmax, hsz, htk⟩
  · exact ⟨none, 0, rfl, .inl rfl, h2.1⟩
  · refine ⟨_, _, rfl, .inr ⟨g, rfl, H'.lo _ List.mem_cons_self g rfl, ?_⟩, h2.1⟩
    intro j u hj
    rw [add_of, Nat.zero_add, cell_of_blk hh]
    rw [← htk, List.getElem?_take] at hj
    split at hj
    · simpa using hj
    · cases hj
theorem RowAt.below {a : Addr} {xs : List Value} (h : RowAt w0 a xs) (hb : a.block < B) (H : Hp B w0 w L) : RowAt w a xs := by
  intro j u hj
  have := h j u hj
  have e : (a.add j).block = a.block := by unfold Addr.add; split <;> rfl
  rw [← this]
  have := H.old a.block hb
  simp only [World.cell?, e, this]
end
end Wh
