/- A map of numbers and truth values, as the kit's summaries of maps.Keys and slices.Sorted want it. -/
import Derived.Test.YtjdckpeoinkafaaGreatDoorDg
import Derived.Test.YtjdckpeoinkafaaGreatDoorFwK
import Derived.Maps.Own
import Derived.Lib.SlKeysI
set_option linter.all false
namespace Wh
open Go Go.Maps Go.WideShapes Go.WideElems Go.ChangeShapes Go.ChangeMaps
def boolv (b : Bool) : Value := .bool b
theorem sorted_perm' {H : Type} : ∀ (E : List (Lit × DataW H)), (E.foldr DataW.insert []).Perm E
  | [] => .refl _
  | x :: E => (insert_perm x _).trans ((sorted_perm' E).cons x)
theorem owns_of_map {H : Type} {P : Program} {k e : TypeId} (hk : P.underlying k = some (.int .i64)) (he : P.underlying e = some .bool) {w : World} {r : Nat} {l : List (Int × Bool)} (h : (MapC (fun n : Int => Value.int .i64 n) boolv r l).holds w)
    (hw : ∀ p ∈ l, (Lit.int .i64 p.1).wf = true) (hl : l.length ≤ maxLen) :
    ∃ D : DataW H, w.ownsMap P k (plainElem P e) r l.length D ∧ (intKeys D).Perm (l.map (·.1)) ∧ Maps.size D = l.length := by
  obtain ⟨es, ck, h1, h2, h3⟩ := h
  have hlen := h2.len
  simp only [Array.length_toList] at hlen
  have hrd : ∀ x ∈ es.toList, ∃ p ∈ l, x.key = .int .i64 p.1 ∧ x.val = .bool p.2 := by
    intro x hx
    have : (x.key, x.val) ∈ l.map (fun p => ((fun n : Int => Value.int .i64 n) p.1, boolv p.2)) := by
      have h4 : (x.key, x.val) ∈ es.toList.map (fun e => (e.key, e.val)) := List.mem_map.2 ⟨x, hx, rfl⟩
      rwa [h2] at h4
    obtain ⟨p, hp, e1⟩ := List.mem_map.1 this
    simp only [Prod.mk.injEq] at e1
    exact ⟨p, hp, e1.1.symm, e1.2.symm⟩
  have hrd2 : ∀ (key val : Value) (born : Nat) (a : Int) (b : Bool), key = .int .i64 a → val = .bool b → (Lit.int .i64 a).wf = true → rd (H := H) P k (plainElem P e) ⟨key, val, born⟩ = some (.int .i64 a, .lit (.bool b)) := by
    rintro _ _ born a b rfl rfl hwf
    have e1 : keyOf P k (.int .i64 a) = some (.int .i64 a) := by simp [keyOf, hk, mapKey, hwf]
    exact rd_mk e1 (plainElem_bool he b)
  refine ⟨.map ((es.toList.map (rg P k (plainElem P e))).foldr DataW.insert []), ⟨es, ck, h1, ⟨by omega, h3, ?_⟩, by omega, rfl⟩, ?_, ?_⟩
  · intro x hx
    obtain ⟨p, hp, e1, e2⟩ := hrd x hx
    exact ⟨_, hrd2 x.key x.val x.born p.1 p.2 e1 e2 (hw p hp)⟩
  · have hp := (sorted_perm' (es.toList.map (rg (H := H) P k (plainElem P e)))).map (fun p => intOf p.1)
    refine hp.trans ?_
    have : ∀ (es : List MapEntry) (l : List (Int × Bool)), MapRep (fun n : Int => Value.int .i64 n) boolv es l → (∀ p ∈ l, (Lit.int .i64 p.1).wf = true) → (es.map (rg (H := H) P k (plainElem P e))).map (fun p => intOf p.1) = l.map (·.1) := by
      intro es
      induction es with
      | nil => intro l h _; cases l with | nil => rfl | cons p l => simp [MapRep] at h
      | cons x es ih =>
        intro l h hw
        obtain ⟨a, b, l', rfl, e1, e2, h'⟩ := h.cons
        have h5 := hrd2 x.key x.val x.born a b e1 e2 (hw (a, b) List.mem_cons_self)
        have h6 : rg (H := H) P k (plainElem P e) x = (.int .i64 a, .lit (.bool b)) := rg_of h5
        simp only [List.map_cons, h6, ih l' h' (fun p hp => hw p (List.mem_cons_of_mem _ hp))]
        rfl
    rw [this es.toList l h2 hw]
  · have hp := (sorted_perm' (es.toList.map (rg (H := H) P k (plainElem P e)))).length_eq
    simp only [Maps.size, hp, List.length_map, Array.length_toList]
    omega
end Wh
namespace Wh
open Go
section
variable {P : Program} {n : Nat} {f : Fr} {w : World} {o : Oper} {B : Nat} {w0 : World} {L : List Ck}
variable {α β : Type} {enc : α → Value} {encv : β → Value} {r : Nat} {l : List (α × β)} {mk : List (α × β) → List Ck}
theorem r_ins [DecidableEq α] {t kt et : TypeId} {x y z : Operand} {a : α} {b : β} (H : Hp B w0 w L) (K : KeyT P kt enc) (ho : o.op = .insert t x y z := by rfl) (hx : ev n f x = .map (some r) := by rfl)
    (hT : UT P t (.map kt et) := by infer_instance) (hb : HasM L r α β enc encv l mk := by infer_instance) (hy : ev n f y = enc a := by rfl) (hz : ev n f z = encv b := by rfl) :
    ∃ w', (execOp (ev n f) o).run P w = .ok .skip w' ∧ Hp B w0 w' (mk (aput a b l)) := by
  obtain ⟨w', h1, h2⟩ := run_mapUpdate H hT K hb a b
  exact ⟨w', by simp [execOp, ho, hx, hy, hz, h1], h2⟩
end
/-- the terms that a term needs: what is told, from above down -/
def seenStep (D : List T) (k : Int) (l : List (Int × Bool)) : List (Int × Bool) :=
  if alook k l = some true ∧ (WhD.node D k).1.kind = 2 then aput (WhD.node D k).1.b true (aput (WhD.node D k).1.a true l) else l
def seenG (D : List T) : Nat → List (Int × Bool) → List (Int × Bool)
  | 0, l => l
  | m + 1, l => seenG D m (seenStep D m l)
theorem aput_all {P : Int → Prop} {a : Int} {b : Bool} : ∀ {l : List (Int × Bool)}, (∀ p ∈ l, P p.1) → P a → ∀ p ∈ aput a b l, P p.1
  | [], _, ha, p, hp => by simp [aput] at hp; subst hp; exact ha
  | (k, v) :: l, h, ha, p, hp => by
    simp only [aput] at hp
    split at hp
    · rcases List.mem_cons.1 hp with rfl | hp
      · exact ha
      · exact h p (List.mem_cons_of_mem _ hp)
    · rcases List.mem_cons.1 hp with rfl | hp
      · exact h _ List.mem_cons_self
      · exact aput_all (fun q hq => h q (List.mem_cons_of_mem _ hq)) ha p hp
theorem aput_len {a : Int} {b : Bool} : ∀ (l : List (Int × Bool)), (aput a b l).length ≤ l.length + 1
  | [] => by simp [aput]
  | (k, v) :: l => by
    simp only [aput]
    split
    · simp
    · have := aput_len (a := a) (b := b) l
      simp
      omega
end Wh
namespace Wh
open Go
theorem Hp.newRow {B : Nat} {w0 w w' : World} {L : List Ck} {e : TypeId} {size n : Nat} {v : Value} {xs : List Value} (H : Hp B w0 w L) (hb : Go.RowKit.Below w.heap.size w w') (hr : w'.ownsRow w.heap.size e size v n xs) : Hp B w0 w' (Row e size v n xs :: L) := by
  refine H.new (Chg.of_below hb) ⟨hr.1, ?_⟩ ?_
  · rcases hr.2 with h | ⟨g, cap, cur, h1, _, rest⟩
    · exact .inl h
    · exact .inr ⟨g, cap, cur, h1, Nat.zero_le _, rest⟩
  · intro k hk
    rcases hr.2 with ⟨rfl, _⟩ | ⟨g, cap, cur, rfl, h1, _⟩
    · simp [Row, Value.ownBlock] at hk
    · simp [Row, Value.ownBlock] at hk
      omega
theorem Hp.holdsM {B : Nat} {w0 w : World} {L : List Ck} {α β : Type} {enc : α → Value} {encv : β → Value} {r : Nat} {l : List (α × β)} {mk : List (α × β) → List Ck} (H : Hp B w0 w L) (hb : HasM L r α β enc encv l mk := by infer_instance) : (MapC enc encv r l).holds w := by
  obtain ⟨R, h1, _⟩ := hb.perm
  exact (H.perm h1).holds _ List.mem_cons_self
end Wh
namespace Wh
open Go
theorem wf_small {a : Int} (h : 0 ≤ a ∧ a < 1000000) : (Lit.int .i64 a).wf = true := by
  have e1 : IntKind.i64.min = -9223372036854775808 := by decide
  have e2 : IntKind.i64.max = 9223372036854775807 := by decide
  simp only [Lit.wf, e1, e2, Bool.and_eq_true, decide_eq_true_eq]
  omega
end Wh
namespace Wh
open Go
def u32v (n : Int) : Value := .int .u32 n
def mg (l : List (Int × Int)) (k : Int) : Int := (alook k l).getD 0
/-- what a term comes to, of what others came to -/
def evVal (D : List T) (x : List Int) (l : List (Int × Int)) (k : Int) : Int :=
  if (WhD.node D k).1.kind = 0 then (WhD.node D k).1.v else if (WhD.node D k).1.kind = 1 then (x[(WhD.node D k).1.v.toNat]?).getD 0
  else (WhI.wdo (WhD.node D k).1.op (mg l (WhD.node D k).1.a) (mg l (WhD.node D k).1.b)).1
def evStep (D : List T) (x : List Int) (l : List (Int × Int)) (k : Int) : List (Int × Int) := aput k (evVal D x l k) l
def evalF (D : List T) (x : List Int) (ks : List Int) : List (Int × Int) := ks.foldl (evStep D x) []
theorem evalF_take (D : List T) (x : List Int) (ks : List Int) {j : Nat} {k : Int} (h : ks[j]? = some k) : evalF D x (ks.take (j + 1)) = evStep D x (evalF D x (ks.take j)) k := by
  rw [List.take_add_one, h]
  simp [evalF, List.foldl_append]
def vU (xs : List Int) : Array Value := (xs.map u32v).toArray
theorem cellU {B : Nat} {w0 w : World} {L : List Ck} {g : Nat} {bt : TypeId} {xs : List Int} {mk : Array Value → List Ck} (H : Hp B w0 w L) {k : Nat} {m : Int} (hk : xs[k]? = some m) (hb : HasB L g bt (vU xs) mk := by infer_instance) : w.cell? ⟨g, 0 + k * 1, none⟩ = some (.int .u32 m) := by
  rw [cell_of_blk (H.getB (h := hb)), Nat.zero_add, Nat.mul_one]
  simp [vU, hk, u32v]
theorem r_lku {P : Program} {n : Nat} {f : Fr} {w : World} {o : Oper} {B : Nat} {w0 : World} {L : List Ck} {r : Nat} {l : List (Int × Int)} {mk : List (Int × Int) → List Ck} {t kt et : TypeId} {x y : Operand} {size bytes : Nat} {a : Int} (H : Hp B w0 w L) (K : KeyT P kt (fun n : Int => Value.int .i64 n)) (ho : o.op = .lookup t x y false := by rfl) (hx : ev n f x = .map (some r) := by rfl)
    (hT : UT P t (.map kt et) := by infer_instance) (hS : TI P et size (.int .u32 0) bytes := by infer_instance) (hb : HasM L r Int Int (fun n : Int => Value.int .i64 n) u32v l mk := by infer_instance) (hy : ev n f y = .int .i64 a := by rfl) :
    (execOp (ev n f) o).run P w = .ok (.value (.int .u32 (mg l a))) w := by
  rw [r_lk H K (hy := hy) ho hx hT hS hb]
  unfold mg mget
  cases alook a l <;> rfl
end Wh
namespace Wh
open Go
theorem mg_put (l : List (Int × Int)) (k a : Int) (v : Int) : mg (aput k v l) a = if k = a then v else mg l a := by
  induction l with
  | nil => simp only [aput, mg, alook]; split <;> rfl
  | cons p l ih =>
    obtain ⟨k', v'⟩ := p
    simp only [aput]
    by_cases e : k' = k
    · subst e
      simp only [if_true, mg, alook]
      split <;> rfl
    · simp only [e, if_false, mg, alook]
      by_cases e2 : k' = a
      · subst e2
        have : ¬ k = k' := fun h => e h.symm
        simp [this]
      · simp only [e2, if_false]
        exact ih
theorem rowOf_i64 (ks : List Int) : rowOf i64v ks = ks.map Go.encZ := by
  induction ks with
  | nil => rfl
  | cons k ks ih =>
    have : rowOf i64v (k :: ks) = (i64v k).cells.toList ++ rowOf i64v ks := rfl
    rw [this, ih]
    rfl
end Wh
namespace Wh
open Go
/-- the first part of a slice -/
theorem r_sl {P : Program} {n : Nat} {f : Fr} {w : World} {o : Oper} {t e : TypeId} {x hi : Operand} {a : Option Addr} {len cap : Nat} {h : Int} {size bytes : Nat} {zero : Value} (h0 : 0 ≤ h) (h1 : h ≤ cap) (ho : o.op = .slice t x none (some hi) none := by rfl) (hx : ev n f x = .slice a len cap := by rfl)
    (hh : ev n f hi = .int .i64 h := by rfl) (hT : UT P t (.slice e) := by infer_instance) (hS : TI P e size zero bytes := by infer_instance) :
    (execOp (ev n f) o).run P w = .ok (.value (.slice a h.toNat cap)) w := by
  have hb : (Instr.sliceBound (.int .i64 h) cap .sliceAcap).run P w = .ok h.toNat w := by
    simp [Instr.sliceBound, asIntOf, h0, h1]
  have e0 : (if cap = 0 then a else a.map (·.add 0)) = a := by
    split
    · rfl
    · cases a <;> simp [Addr.add_zero']
  have hb' : (Instr.sliceBounds true len cap none (some (.int .i64 h)) none).run P w = .ok (0, h.toNat, cap) w := by
    simp [Instr.sliceBounds, hb]
  have e1 := run_underlying' (P := P) (w := w) hT
  simp [execOp, ho, hx, hh, Instr.sliceAt, Instr.slice, e1, hb', run_sizeOf hS, e0]
end Wh
namespace Wh
open Go
theorem rowAt_take {α : Type} {enc : α → Value} {w : World} {a : Addr} {l : List α} (h : RowAt w a (rowOf enc l)) (k : Nat) : RowAt w a (rowOf enc (l.take k)) := by
  intro j u hj
  refine h j u ?_
  have e : rowOf enc l = rowOf enc (l.take k) ++ rowOf enc (l.drop k) := by
    unfold rowOf
    rw [← List.flatMap_append, List.take_append_drop]
  have hl : j < (rowOf enc (l.take k)).length := by
    rcases Nat.lt_or_ge j (rowOf enc (l.take k)).length with h1 | h1
    · exact h1
    · rw [List.getElem?_eq_none h1] at hj; cases hj
  rw [e, List.getElem?_append_left hl]
  exact hj
end Wh
namespace Wh
open Go
theorem r_slk {P : Program} {n : Nat} {f : Fr} {w : World} {o : Oper} {t e : TypeId} {x hi : Operand} {a : Option Addr} {len cap k : Nat} {h : Int} {size bytes : Nat} {zero : Value} (hk : h.toNat = k) (h0 : 0 ≤ h) (h1 : h ≤ cap) (ho : o.op = .slice t x none (some hi) none := by rfl) (hx : ev n f x = .slice a len cap := by rfl)
    (hh : ev n f hi = .int .i64 h := by rfl) (hT : UT P t (.slice e) := by infer_instance) (hS : TI P e size zero bytes := by infer_instance) :
    (execOp (ev n f) o).run P w = .ok (.value (.slice a k cap)) w := hk ▸ r_sl h0 h1 ho hx hh hT hS
end Wh
namespace Wh
open Go
theorem r_faG {P : Program} {n : Nat} {f : Fr} {w : World} {o : Oper} {s : TypeId} {x : Operand} {i : Nat} {a : Addr} {off : Nat} {ty : TypeId} {size bytes : Nat} {zero : Value} (ho : o.op = .fieldAddr s x i := by rfl) (hx : ev n f x = .pointer (some a) := by rfl)
    (hF : FO P s i off ty := by infer_instance) (hT : TI P ty size zero bytes := by infer_instance) (hs : Nat.beq size 0 = false := by rfl) :
    (execOp (ev n f) o).run P w = .ok (.value (.pointer (some (a.add off)))) w := by
  have h := hF.eq
  have hs' : ¬ size = 0 := fun e => by subst e; simp at hs
  cases hu : P.underlying s with
  | none => rw [hu] at h; simp at h
  | some d =>
    rw [hu] at h
    cases d with
    | struct fs =>
      simp only at h
      cases hf : fs[i]? with
      | none => rw [hf] at h; simp at h
      | some fl =>
        rw [hf] at h
        simp only [Option.map_some, Option.some.injEq, Prod.mk.injEq] at h
        obtain ⟨h1, h2⟩ := h
        subst h1 h2
        simp [execOp, ho, hx, Instr.fieldAt, run_underlying hu, hf, Instr.sureAddr, fieldPlace, run_sizeOf hT, hs']
    | _ => simp at h
/-- a cell of an element of a row -/
theorem rowAt_cell {α : Type} {enc : α → Value} {w : World} {a : Addr} {l : List α} {size i k : Nat} {x : α} {u : Value} (h : RowAt w a (rowOf enc l)) (hi : l[i]? = some x) (hs : ∀ x, (enc x).cells.size = size) (hk : (enc x).cells[k]? = some u) : w.cell? ((a.add (i * size)).add k) = some u := by
  rw [Addr.add_add]
  exact h _ _ (rowOf_at hs l i x hi k u hk)
end Wh
