/- Structs of whole numbers: when two are one; as keys of a map. -/
import Derived.Test.YtjdckpeoinkafaaGreatDoorFwH
set_option linter.all false
namespace Wh
open Go

def iv : List IntKind → List Int → List Value
  | k :: ks, n :: ns => .int k n :: iv ks ns
  | _, _ => []
def siFields (P : Program) : Nat → List Field → List IntKind → Bool
  | i, f :: fs, k :: ks => f.offset == i && (f.name != "_") && (match P.underlying f.type with | some (.int k') => k == k' | _ => false) && siFields P (i + 1) fs ks
  | _, [], [] => true
  | _, _, _ => false
/-- a struct of whole numbers -/
class SI (P : Program) (t : TypeId) (ks : outParam (List IntKind)) : Prop where
  eq : (match P.underlying t with | some (.struct fs) => siFields P 0 fs.toList ks | _ => false) = true
  held : P.stoodInHeld t = false
  grd : P.eqGuardType P.depth t = false

section
variable {P : Program} {w : World}
theorem iv_inj : ∀ (ks : List IntKind) (ns ms : List Int), ns.length = ks.length → ms.length = ks.length → iv ks ns = iv ks ms → ns = ms
  | [], [], [], _, _, _ => rfl
  | k :: ks, n :: ns, m :: ms, h1, h2, h => by
    simp only [iv, List.cons.injEq, Value.int.injEq, true_and] at h
    rw [h.1, iv_inj ks ns ms (by simpa using h1) (by simpa using h2) h.2]
  | [], _ :: _, _, h, _, _ => by simp at h
  | [], _, _ :: _, _, h, _ => by simp at h
  | _ :: _, [], _, h, _, _ => by simp at h
  | _ :: _, _, [], _, h, _ => by simp at h
theorem iv_length : ∀ (ks : List IntKind) (ns : List Int), ns.length = ks.length → (iv ks ns).length = ks.length
  | [], [], _ => rfl
  | k :: ks, n :: ns, h => by simp [iv, iv_length ks ns (by simpa using h)]
  | [], _ :: _, h => by simp at h
  | _ :: _, [], h => by simp at h

theorem run_part_int {t : TypeId} {k : IntKind} (ht : P.underlying t = some (.int k)) (xs : Array Value) (off : Nat) (v : Value) (h : xs[off]? = some v) : (part t xs off).run P w = .ok v w := by
  simp [part, isAgg, run_underlying ht, h]

theorem run_eqFields (d : Nat) (xs ys : Array Value) : ∀ (fs : List Field) (ks : List IntKind) (ns ms : List Int) (i : Nat), siFields P i fs ks = true → ns.length = ks.length → ms.length = ks.length →
    (∀ j, j < ks.length → xs[i + j]? = (iv ks ns)[j]?) → (∀ j, j < ks.length → ys[i + j]? = (iv ks ms)[j]?) → (Op.eqFields (d + 1) xs ys fs).run P w = .ok (decide (ns = ms)) w
  | [], [], [], [], _, _, _, _, _, _ => by simp [Op.eqFields]
  | f :: fs, k :: ks, n :: ns, m :: ms, i, h, h1, h2, hx, hy => by
    simp only [siFields, Bool.and_eq_true, beq_iff_eq, bne_iff_ne] at h
    obtain ⟨⟨⟨ho, hn⟩, hk⟩, hr⟩ := h
    have hu : P.underlying f.type = some (.int k) := by
      cases hu : P.underlying f.type with
      | none => rw [hu] at hk; simp at hk
      | some d' =>
        rw [hu] at hk
        cases d' <;> simp at hk
        rw [hk]
    have hx0 : xs[f.offset]? = some (.int k n) := by rw [ho]; simpa [iv] using hx 0 (by simp)
    have hy0 : ys[f.offset]? = some (.int k m) := by rw [ho]; simpa [iv] using hy 0 (by simp)
    have ih := run_eqFields d xs ys fs ks ns ms (i + 1) hr (by simpa using h1) (by simpa using h2)
      (fun j hj => by have := hx (j + 1) (by simpa using hj); simpa [iv, Nat.add_assoc, Nat.add_comm 1 j] using this)
      (fun j hj => by have := hy (j + 1) (by simpa using hj); simpa [iv, Nat.add_assoc, Nat.add_comm 1 j] using this)
    simp only [Op.eqFields, ne_eq, hn, not_false_eq_true, if_true, Sem.run_bind, run_part_int hu xs _ _ hx0, run_part_int hu ys _ _ hy0, Result.andThen_ok, run_equalIn_int (w := w) d f.type k k n m hu]
    by_cases e : n = m
    · subst e
      simp [ih]
    · simp [e]
  | [], [], _ :: _, _, _, _, h, _, _, _ => by simp at h
  | [], [], [], _ :: _, _, _, _, h, _, _ => by simp at h
  | [], _ :: _, _, _, _, h, _, _, _, _ => by simp [siFields] at h
  | _ :: _, [], _, _, _, h, _, _, _, _ => by simp [siFields] at h
  | _ :: _, _ :: _, [], _, _, _, h, _, _, _ => by simp at h
  | _ :: _, _ :: _, _ :: _, [], _, _, _, h, _, _ => by simp at h

theorem run_equalIn_SI (d : Nat) {t : TypeId} {ks : List IntKind} (h : SI P t ks) (ns ms : List Int) (h1 : ns.length = ks.length) (h2 : ms.length = ks.length) :
    (Op.equalIn (d + 2) t (.agg (iv ks ns).toArray) (.agg (iv ks ms).toArray)).run P w = .ok (decide (ns = ms)) w := by
  have he := h.eq
  cases hu : P.underlying t with
  | none => rw [hu] at he; simp at he
  | some dd =>
    rw [hu] at he
    cases dd <;> simp only [Bool.false_eq_true] at he
    rename_i fs
    have hf : P.fieldsOf t = fs := by simp [Program.fieldsOf, hu]
    rw [run_equalIn_agg (w := w) (d + 1) t _ _ (by rw [hf]; exact hu) h.held, hf]
    exact run_eqFields d _ _ fs.toList ks ns ms 0 he h1 h2 (fun j _ => by simp) (fun j _ => by simp)

theorem run_equal_SI {t : TypeId} {ks : List IntKind} (h : SI P t ks) (ns ms : List Int) (h1 : ns.length = ks.length) (h2 : ms.length = ks.length) :
    (Op.equal t (.agg (iv ks ns).toArray) (.agg (iv ks ms).toArray)).run P w = .ok (decide (ns = ms)) w := run_equalIn_SI 9998 h ns ms h1 h2

theorem checkKey_int (em : Bool) (d : Nat) {t : TypeId} {k : IntKind} (ht : P.underlying t = some (.int k)) (n : Int) : (Instr.checkKey em (d + 1) t (.int k n)).run P w = .ok () w := by
  simp [Instr.checkKey, run_underlying ht]

theorem run_checkFields (em : Bool) (d : Nat) (xs : Array Value) : ∀ (fs : List Field) (ks : List IntKind) (ns : List Int) (i : Nat), siFields P i fs ks = true → ns.length = ks.length →
    (∀ j, j < ks.length → xs[i + j]? = (iv ks ns)[j]?) →
    (forIn (m := Sem) fs PUnit.unit fun f _ => do
      if f.name ≠ "_" then
        Instr.checkKey em (d + 1) f.type (← part f.type xs f.offset)
        pure (ForInStep.yield PUnit.unit)
      else pure (ForInStep.yield PUnit.unit)).run P w = .ok PUnit.unit w
  | [], [], [], _, _, _, _ => by simp
  | f :: fs, k :: ks, n :: ns, i, h, h1, hx => by
    simp only [siFields, Bool.and_eq_true, beq_iff_eq, bne_iff_ne] at h
    obtain ⟨⟨⟨ho, hn⟩, hk⟩, hr⟩ := h
    have hu : P.underlying f.type = some (.int k) := by
      cases hu : P.underlying f.type with
      | none => rw [hu] at hk; simp at hk
      | some d' =>
        rw [hu] at hk
        cases d' <;> simp at hk
        rw [hk]
    have hx0 : xs[f.offset]? = some (.int k n) := by rw [ho]; simpa [iv] using hx 0 (by simp)
    have ih := run_checkFields em d xs fs ks ns (i + 1) hr (by simpa using h1)
      (fun j hj => by have := hx (j + 1) (by simpa using hj); simpa [iv, Nat.add_assoc, Nat.add_comm 1 j] using this)
    rw [List.forIn_cons]
    simp only [ne_eq, hn, not_false_eq_true, if_true, Sem.run_bind, run_part_int hu xs _ _ hx0, Result.andThen_ok, checkKey_int em d hu, Sem.run_pure]
    exact ih
  | [], [], _ :: _, _, _, h, _ => by simp at h
  | [], _ :: _, _, _, h, _, _ => by simp [siFields] at h
  | _ :: _, [], _, _, h, _, _ => by simp [siFields] at h
  | _ :: _, _ :: _, [], _, _, h, _ => by simp at h

theorem run_checkKey_SI (em : Bool) {t : TypeId} {ks : List IntKind} (h : SI P t ks) (ns : List Int) (h1 : ns.length = ks.length) : (Instr.checkKey em 10000 t (.agg (iv ks ns).toArray)).run P w = .ok () w := by
  have he := h.eq
  cases hu : P.underlying t with
  | none => rw [hu] at he; simp at he
  | some dd =>
    rw [hu] at he
    cases dd <;> simp only [Bool.false_eq_true] at he
    rename_i fs
    have := run_checkFields (P := P) (w := w) em 9998 (iv ks ns).toArray fs.toList ks ns 0 he h1 (fun j _ => by simp)
    show (Instr.checkKey em (9999 + 1) t _).run P w = _
    rw [Instr.checkKey]
    simp only [Sem.run_bind, run_underlying hu, Result.andThen_ok]
    rw [← Array.forIn_toList]
    have e : (9999 : Nat) = 9998 + 1 := rfl
    rw [e, this]
    rfl

theorem sameBits_int (d : Nat) (k : IntKind) (n : Int) : Instr.sameBits d (.int k n) (.int k n) = true := by simp [Instr.sameBits]
theorem sameBits_SI (ks : List IntKind) (ns : List Int) : Instr.sameBits 10000 (.agg (iv ks ns).toArray) (.agg (iv ks ns).toArray) = true := by
  show Instr.sameBits (9999 + 1) _ _ = true
  rw [Instr.sameBits]
  simp only [beq_self_eq_true, Bool.true_and]
  induction ks generalizing ns with
  | nil => simp [iv]
  | cons k ks ih =>
    cases ns with
    | nil => simp [iv]
    | cons n ns =>
      have := ih ns
      simp only [iv] at this ⊢
      simpa [sameBits_int] using this

/-- structs of whole numbers as keys -/
theorem keyT_SI {t : TypeId} {ks : List IntKind} {α : Type} [DecidableEq α] (h : SI P t ks) (num : α → List Int) (hl : ∀ a, (num a).length = ks.length) (hinj : ∀ a b, num a = num b → a = b) : KeyT P t (fun a => .agg (iv ks (num a)).toArray) where
  check := fun em a w => run_checkKey_SI em h (num a) (hl a)
  now := fun d hd => .inr fun a b => by
    have he := h.eq
    rw [hd] at he
    cases d <;> simp only [Bool.false_eq_true] at he
    rfl
  und := by
    have he := h.eq
    cases hu : P.underlying t with
    | none => rw [hu] at he; simp at he
    | some d => exact ⟨d, rfl⟩
  eq := fun a b w => by
    rw [run_equal_SI h (num a) (num b) (hl a) (hl b)]
    congr 1
    exact decide_eq_decide.2 ⟨hinj a b, fun e => by rw [e]⟩
  same := fun a => sameBits_SI ks (num a)
/-- whole numbers as keys -/
theorem keyT_int {t : TypeId} {k : IntKind} (ht : P.underlying t = some (.int k)) : KeyT P t (fun n : Int => .int k n) where
  check := fun em a w => checkKey_int em 9999 ht a
  now := fun d hd => .inl fun a b => by
    rw [ht] at hd
    injection hd with hd
    subst hd
    simp [Instr.sameNow]
    rfl
  und := ⟨_, ht⟩
  eq := fun a b w => by
    have := run_equalIn_int (P := P) (w := w) 9999 t k k a b ht
    show (Op.equalIn (9999 + 1) t _ _).run P w = _
    rw [this]
    congr 1
  same := fun a => sameBits_int _ _ _
variable {n : Nat} {f : Fr} {o : Oper}
theorem r_eqs {t t2 : TypeId} {x y : Operand} {ks : List IntKind} {ns ms : List Int} (hx : ev n f x = .agg (iv ks ns).toArray) (hy : ev n f y = .agg (iv ks ms).toArray) (ho : o.op = .binOp .eql t x y t2 := by rfl) (h : SI P t ks := by infer_instance)
    (h1 : ns.length = ks.length := by rfl) (h2 : ms.length = ks.length := by rfl) : (execOp (ev n f) o).run P w = .ok (.value (.bool (decide (ns = ms)))) w := by
  have hg := run_eqGuard_agg (P := P) (w := w) .eql t x y (iv ks ns).toArray (iv ks ms).toArray h.grd
  have hb := run_eql_struct (P := P) (w := w) t (iv ks ns).toArray (iv ks ms).toArray
  have he := run_equalIn_SI (P := P) (w := w) 9998 h ns ms h1 h2
  simp only [execOp, ho, hx, hy, Sem.run_bind, hg, hb, he, Result.andThen_ok, Sem.run_pure]
theorem r_nes {t t2 : TypeId} {x y : Operand} {ks : List IntKind} {ns ms : List Int} (hx : ev n f x = .agg (iv ks ns).toArray) (hy : ev n f y = .agg (iv ks ms).toArray) (ho : o.op = .binOp .neq t x y t2 := by rfl) (h : SI P t ks := by infer_instance)
    (h1 : ns.length = ks.length := by rfl) (h2 : ms.length = ks.length := by rfl) : (execOp (ev n f) o).run P w = .ok (.value (.bool (!decide (ns = ms)))) w := by
  have hg := run_eqGuard_agg (P := P) (w := w) .neq t x y (iv ks ns).toArray (iv ks ms).toArray h.grd
  have hb := run_neq_struct (P := P) (w := w) t (iv ks ns).toArray (iv ks ms).toArray
  have he := run_equalIn_SI (P := P) (w := w) 9998 h ns ms h1 h2
  simp only [execOp, ho, hx, hy, Sem.run_bind, hg, hb, he, Result.andThen_ok, Sem.run_pure]
end
end Wh
