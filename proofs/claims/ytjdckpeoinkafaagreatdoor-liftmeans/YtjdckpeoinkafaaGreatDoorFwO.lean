/- Arrays of whole numbers, held against each other. -/
import Derived.Test.YtjdckpeoinkafaaGreatDoorFwN
import Derived.Test.YtjdckpeoinkafaaGreatDoorFwI
import Derived.ChangeKeysEq
import Derived.Laws.StructEq
set_option linter.all false
namespace Wh
open Go
section
variable {P : Program} {n : Nat} {f : Fr} {w : World} {o : Oper}
def kv (k : IntKind) (a : Int) : Value := .int k a
/-- an array of whole numbers -/
class AI (P : Program) (t : TypeId) (len : outParam Nat) (k : outParam IntKind) : Prop where
  eq : (match P.underlying t with | some (.array m e) => m == len && P.cellsOf e == 1 && (match P.underlying e with | some (.int k') => k == k' | _ => false) && (P.info? e).isSome | _ => false) = true
  grd : P.eqGuardType P.depth t = false
theorem run_equalIn_AI (d : Nat) {t : TypeId} {len : Nat} {k : IntKind} (h : AI P t len k) (xs ys : List Int) (hx : xs.length = len) (hy : ys.length = len) :
    (Op.equalIn (d + 2) t (.agg (xs.map (kv k)).toArray) (.agg (ys.map (kv k)).toArray)).run P w = .ok (decide (xs = ys)) w := by
  have he := h.eq
  cases hu : P.underlying t with
  | none => rw [hu] at he; simp at he
  | some dd =>
    rw [hu] at he
    cases dd <;> simp only [Bool.false_eq_true] at he
    rename_i m e
    simp only [Bool.and_eq_true, beq_iff_eq, Option.isSome_iff_exists] at he
    obtain ⟨⟨⟨rfl, hc⟩, hk⟩, i, hi⟩ := he
    have hue : P.underlying e = some (.int k) := by
      cases hue : P.underlying e with
      | none => rw [hue] at hk; simp at hk
      | some de => rw [hue] at hk; cases de <;> simp at hk; subst hk; rfl
    rw [show d + 2 = (d + 1) + 1 from rfl, run_equalIn_array w (d + 1) _ _ hu hi, hc]
    have key : ∀ (q : Nat) (l : List Nat), (∀ j ∈ l, j < m) → (Op.eqItems (d + 1) e 1 (xs.map (kv k)).toArray (ys.map (kv k)).toArray l).run P w = .ok (l.all fun j => decide (xs[j]? = ys[j]?)) w := by
      intro q l
      induction l with
      | nil => intro _; simp [Op.eqItems]
      | cons j l ih =>
        intro hl
        have hj := hl j List.mem_cons_self
        have px : (part e (xs.map (kv k)).toArray (j * 1)).run P w = .ok (kv k (xs[j]'(by omega))) w := by
          simp [part, isAgg, run_underlying hue, List.getElem?_eq_getElem (show j < xs.length by omega)]
        have py : (part e (ys.map (kv k)).toArray (j * 1)).run P w = .ok (kv k (ys[j]'(by omega))) w := by
          simp [part, isAgg, run_underlying hue, List.getElem?_eq_getElem (show j < ys.length by omega)]
        have pe : (Op.equalIn (d + 1) e (kv k (xs[j]'(by omega))) (kv k (ys[j]'(by omega)))).run P w = .ok (decide (xs[j]? = ys[j]?)) w := by
          unfold kv
          rw [run_equalIn_int w d e k k _ _ hue]
          rw [List.getElem?_eq_getElem (show j < xs.length by omega), List.getElem?_eq_getElem (show j < ys.length by omega)]
          congr 1
          rw [Bool.eq_iff_iff]
          simp
        simp only [Op.eqItems, Sem.run_bind, px, py, pe, Result.andThen_ok, List.all_cons]
        cases hb : decide (xs[j]? = ys[j]?)
        · simp
        · simp only [Bool.true_and]
          have := ih (fun q hq => hl q (List.mem_cons_of_mem _ hq))
          simpa using this
    rw [key 0 (List.range m) (fun j hj => List.mem_range.1 hj)]
    congr 1
    rw [Bool.eq_iff_iff]
    simp only [List.all_eq_true, List.mem_range, decide_eq_true_eq]
    constructor
    · intro h2
      apply List.ext_getElem?
      intro j
      rcases Nat.lt_or_ge j m with hj | hj
      · exact h2 j hj
      · rw [List.getElem?_eq_none (by omega), List.getElem?_eq_none (by omega)]
    · intro h2 j _
      rw [h2]
theorem r_eqA {t t2 : TypeId} {x y : Operand} {len : Nat} {k : IntKind} {a b : Array Value} (xs ys : List Int) (ho : o.op = .binOp .eql t x y t2 := by rfl) (hx : ev n f x = .agg a := by rfl) (hy : ev n f y = .agg b := by rfl) (h : AI P t len k := by infer_instance) (hxl : xs.length = len) (hyl : ys.length = len) (ha : a = (xs.map (kv k)).toArray := by rfl) (hb : b = (ys.map (kv k)).toArray := by rfl) :
    (execOp (ev n f) o).run P w = .ok (.value (.bool (decide (xs = ys)))) w := by
  subst ha hb
  have hg := run_eqGuard_agg (P := P) (w := w) .eql t x y (xs.map (kv k)).toArray (ys.map (kv k)).toArray h.grd
  have hb := run_eql_struct (P := P) (w := w) t (xs.map (kv k)).toArray (ys.map (kv k)).toArray
  have he := run_equalIn_AI (P := P) (w := w) 9998 h xs ys hxl hyl
  simp only [execOp, ho, hx, hy, Sem.run_bind, hg, hb, he, Result.andThen_ok, Sem.run_pure]
theorem r_neA {t t2 : TypeId} {x y : Operand} {len : Nat} {k : IntKind} {a b : Array Value} (xs ys : List Int) (ho : o.op = .binOp .neq t x y t2 := by rfl) (hx : ev n f x = .agg a := by rfl) (hy : ev n f y = .agg b := by rfl) (h : AI P t len k := by infer_instance) (hxl : xs.length = len) (hyl : ys.length = len) (ha : a = (xs.map (kv k)).toArray := by rfl) (hb : b = (ys.map (kv k)).toArray := by rfl) :
    (execOp (ev n f) o).run P w = .ok (.value (.bool (!decide (xs = ys)))) w := by
  subst ha hb
  have hg := run_eqGuard_agg (P := P) (w := w) .neq t x y (xs.map (kv k)).toArray (ys.map (kv k)).toArray h.grd
  have hb := run_neq_struct (P := P) (w := w) t (xs.map (kv k)).toArray (ys.map (kv k)).toArray
  have he := run_equalIn_AI (P := P) (w := w) 9998 h xs ys hxl hyl
  simp only [execOp, ho, hx, hy, Sem.run_bind, hg, hb, he, Result.andThen_ok, Sem.run_pure]
end
end Wh
