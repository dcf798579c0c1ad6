/- Maps whose keys and elements are told by plain data. -/
import Derived.Test.YtjdckpeoinkafaaGreatDoorFwG
import Derived.MapKept
set_option linter.all false
namespace Wh
open Go

def alook {α β : Type} [DecidableEq α] (a : α) : List (α × β) → Option β
  | [] => none
  | (k, v) :: l => if k = a then some v else alook a l
def aput {α β : Type} [DecidableEq α] (a : α) (b : β) : List (α × β) → List (α × β)
  | [] => [(a, b)]
  | (k, v) :: l => if k = a then (a, b) :: l else (k, v) :: aput a b l
def adel {α β : Type} [DecidableEq α] (a : α) : List (α × β) → List (α × β)
  | [] => []
  | (k, v) :: l => if k = a then l else (k, v) :: adel a l

/-- keys of a type, told by plain data -/
structure KeyT (P : Program) (kt : TypeId) {α : Type} [DecidableEq α] (enc : α → Value) : Prop where
  check : ∀ (em : Bool) (a : α) (w : World), (Instr.checkKey em 10000 kt (enc a)).run P w = .ok () w
  now : ∀ d, P.underlying kt = some d → (∀ a b, Instr.sameNow d (enc a) (enc b) = some (decide (a = b))) ∨ (∀ a b, Instr.sameNow d (enc a) (enc b) = none)
  und : ∃ d, P.underlying kt = some d
  eq : ∀ (a b : α) (w : World), (Op.equal kt (enc a) (enc b)).run P w = .ok (decide (a = b)) w
  same : ∀ a, Instr.sameBits 10000 (enc a) (enc a) = true
theorem KeyT.inj {P : Program} {kt : TypeId} {α : Type} [DecidableEq α] {enc : α → Value} (K : KeyT P kt enc) (w : World) {a b : α} (h : enc a = enc b) : a = b := by
  have h1 := K.eq a b w
  have h2 := K.eq a a w
  rw [← h, h2] at h1
  simpa using h1

section
variable {P : Program} {kt : TypeId} {α β : Type} {enc : α → Value} {encv : β → Value}

def MapRep (enc : α → Value) (encv : β → Value) (es : List MapEntry) (l : List (α × β)) : Prop := es.map (fun e => (e.key, e.val)) = l.map (fun p => (enc p.1, encv p.2))

theorem MapRep.cons {e : MapEntry} {es : List MapEntry} {l : List (α × β)} (h : MapRep enc encv (e :: es) l) : ∃ a b l', l = (a, b) :: l' ∧ e.key = enc a ∧ e.val = encv b ∧ MapRep enc encv es l' := by
  cases l with
  | nil => simp [MapRep] at h
  | cons p l =>
    simp only [MapRep, List.map_cons, List.cons.injEq, Prod.mk.injEq] at h
    exact ⟨p.1, p.2, l, rfl, h.1.1, h.1.2, h.2⟩

theorem findAsking_spec [DecidableEq α] (K : KeyT P kt enc) (a : α) (w : World) : ∀ (es : List MapEntry) (l : List (α × β)) (i : Nat), MapRep enc encv es l →
    ∃ r, (Instr.findAsking kt (enc a) es i).run P w = .ok r w ∧
      ((alook a l = none ∧ r = none) ∨ (∃ b j, alook a l = some b ∧ r = some (i + j, encv b) ∧ j < es.length ∧
        (∃ e, es[j]? = some e ∧ e.key = enc a) ∧ ∀ (v : β) (f : MapEntry → MapEntry), (∀ e, es[j]? = some e → (f e).key = enc a ∧ (f e).val = encv v) → MapRep enc encv (es.modify j f) (aput a v l)))
  | [], l, i, h => by
    cases l with
    | nil => exact ⟨none, by simp [Instr.findAsking], .inl ⟨rfl, rfl⟩⟩
    | cons p l => simp [MapRep] at h
  | e :: es, l, i, h => by
    obtain ⟨k, b, l', rfl, hk, hv, h'⟩ := h.cons
    by_cases e1 : k = a
    · subst e1
      refine ⟨some (i, e.val), by simp [Instr.findAsking, hk, K.eq], .inr ⟨b, 0, by simp [alook], by simp [hv], by simp, ⟨e, rfl, hk⟩, ?_⟩⟩
      intro v f hf
      have hf := hf e rfl
      simp only [List.modify_zero_cons, aput, if_true, MapRep, List.map_cons, List.cons.injEq, Prod.mk.injEq]
      exact ⟨⟨hf.1, hf.2⟩, h'⟩
    · obtain ⟨r, hr, hh⟩ := findAsking_spec K a w es l' (i + 1) h'
      have hne : ¬ a = k := fun x => e1 x.symm
      refine ⟨r, by simp [Instr.findAsking, hk, K.eq, hne, hr], ?_⟩
      rcases hh with ⟨h1, h2⟩ | ⟨b', j, h1, h2, h3, h5, h4⟩
      · exact .inl ⟨by simp [alook, e1, h1], h2⟩
      · refine .inr ⟨b', j + 1, by simp [alook, e1, h1], by rw [h2]; simp; omega, by simp; omega, by simpa using h5, ?_⟩
        intro v f hf
        have := h4 v f (fun e he => hf e (by simpa using he))
        simp only [List.modify_succ_cons, aput, e1, if_false, MapRep, List.map_cons, List.cons.injEq, Prod.mk.injEq]
        exact ⟨⟨hk, hv⟩, this⟩

theorem findNow_spec [DecidableEq α] {d : TypeDesc} (hd : (∀ a b, Instr.sameNow d (enc a) (enc b) = some (decide (a = b)))) (a : α) : ∀ (es : List MapEntry) (l : List (α × β)) (i : Nat), MapRep enc encv es l →
    ∃ r, Instr.findNow d (enc a) es i = some r ∧
      ((alook a l = none ∧ r = none) ∨ (∃ b j, alook a l = some b ∧ r = some (i + j, encv b) ∧ j < es.length ∧
        (∃ e, es[j]? = some e ∧ e.key = enc a) ∧ ∀ (v : β) (f : MapEntry → MapEntry), (∀ e, es[j]? = some e → (f e).key = enc a ∧ (f e).val = encv v) → MapRep enc encv (es.modify j f) (aput a v l)))
  | [], l, i, h => by
    cases l with
    | nil => exact ⟨none, by simp [Instr.findNow], .inl ⟨rfl, rfl⟩⟩
    | cons p l => simp [MapRep] at h
  | e :: es, l, i, h => by
    obtain ⟨k, b, l', rfl, hk, hv, h'⟩ := h.cons
    by_cases e1 : k = a
    · subst e1
      refine ⟨some (i, e.val), by simp [Instr.findNow, hk, hd], .inr ⟨b, 0, by simp [alook], by simp [hv], by simp, ⟨e, rfl, hk⟩, ?_⟩⟩
      intro v f hf
      have hf := hf e rfl
      simp only [List.modify_zero_cons, aput, if_true, MapRep, List.map_cons, List.cons.injEq, Prod.mk.injEq]
      exact ⟨⟨hf.1, hf.2⟩, h'⟩
    · obtain ⟨r, hr, hh⟩ := findNow_spec hd a es l' (i + 1) h'
      have hne : ¬ a = k := fun x => e1 x.symm
      refine ⟨r, by simp [Instr.findNow, hk, hd, hne, hr], ?_⟩
      rcases hh with ⟨h1, h2⟩ | ⟨b', j, h1, h2, h3, h5, h4⟩
      · exact .inl ⟨by simp [alook, e1, h1], h2⟩
      · refine .inr ⟨b', j + 1, by simp [alook, e1, h1], by rw [h2]; simp; omega, by simp; omega, by simpa using h5, ?_⟩
        intro v f hf
        have := h4 v f (fun e he => hf e (by simpa using he))
        simp only [List.modify_succ_cons, aput, e1, if_false, MapRep, List.map_cons, List.cons.injEq, Prod.mk.injEq]
        exact ⟨⟨hk, hv⟩, this⟩

theorem findKey_spec [DecidableEq α] (K : KeyT P kt enc) (a : α) (w : World) (es : List MapEntry) (l : List (α × β)) (h : MapRep enc encv es l) :
    ∃ r, (Instr.findKey kt (enc a) es).run P w = .ok r w ∧
      ((alook a l = none ∧ r = none) ∨ (∃ b j, alook a l = some b ∧ r = some (j, encv b) ∧ j < es.length ∧
        (∃ e, es[j]? = some e ∧ e.key = enc a) ∧ ∀ (v : β) (f : MapEntry → MapEntry), (∀ e, es[j]? = some e → (f e).key = enc a ∧ (f e).val = encv v) → MapRep enc encv (es.modify j f) (aput a v l))) := by
  obtain ⟨d, hd⟩ := K.und
  rcases K.now d hd with hn | hn
  · obtain ⟨r, hr, hh⟩ := findNow_spec hn a es l 0 h
    refine ⟨r, by simp [Instr.findKey, run_underlying hd, hr], ?_⟩
    simpa using hh
  · cases es with
    | nil =>
      cases l with
      | nil => exact ⟨none, by simp [Instr.findKey, run_underlying hd, Instr.findNow], .inl ⟨rfl, rfl⟩⟩
      | cons p l => simp [MapRep] at h
    | cons e es =>
      obtain ⟨r, hr, hh⟩ := findAsking_spec K a w (e :: es) l 0 h
      obtain ⟨k, b, l', rfl, hk, hv, h'⟩ := h.cons
      refine ⟨r, by simp [Instr.findKey, run_underlying hd, Instr.findNow, hk, hn, hr], ?_⟩
      simpa using hh

theorem MapRep.fresh [DecidableEq α] (K : KeyT P kt enc) (w : World) {a : α} : ∀ {es : List MapEntry} {l : List (α × β)}, MapRep enc encv es l → alook a l = none → ∀ x ∈ es, x.key ≠ enc a
  | [], l, h, _, x, hx => by cases hx
  | e :: es, l, h, hn, x, hx => by
    obtain ⟨k, b', l', rfl, hk', hv', h'⟩ := h.cons
    by_cases e1 : k = a
    · simp [alook, e1] at hn
    · simp only [alook, e1, if_false] at hn
      rcases List.mem_cons.1 hx with rfl | hx
      · rw [hk']
        exact fun e => e1 (K.inj w e)
      · exact MapRep.fresh K w h' hn x hx
theorem MapRep.put_new [DecidableEq α] {a : α} {b : β} : ∀ {es : List MapEntry} {l : List (α × β)} {e : MapEntry}, MapRep enc encv es l → alook a l = none → e.key = enc a → e.val = encv b → MapRep enc encv (es ++ [e]) (aput a b l)
  | [], l, e, h, _, hk, hv => by
    cases l with
    | nil => simp [MapRep, aput, hk, hv]
    | cons p l => simp [MapRep] at h
  | e' :: es, l, e, h, hn, hk, hv => by
    obtain ⟨k, b', l', rfl, hk', hv', h'⟩ := h.cons
    by_cases e1 : k = a
    · simp [alook, e1] at hn
    · simp only [alook, e1, if_false] at hn
      have := MapRep.put_new h' hn hk hv
      simp only [List.cons_append, aput, e1, if_false, MapRep, List.map_cons, List.cons.injEq, Prod.mk.injEq]
      exact ⟨⟨hk', hv'⟩, this⟩

/-- a map in memory -/
def MapC (enc : α → Value) (encv : β → Value) (r : Nat) (l : List (α × β)) : Ck where
  foot k := k = r
  holds w := ∃ es ck, w.heap[r]? = some (.map es ck) ∧ MapRep enc encv es.toList l ∧ MapKept.Stamped es ck
  stable := by
    rintro w w' h ⟨es, ck, h1, h2⟩
    exact ⟨es, ck, (h r rfl).trans h1, h2⟩
  ins := by
    rintro w ⟨es, ck, h1, h2⟩ k hk
    exact hk ▸ lt_of_block h1
end

class HasM (L : List Ck) (r : Nat) (α : outParam Type) (β : outParam Type) (enc : outParam (α → Value)) (encv : outParam (β → Value)) (l : outParam (List (α × β))) (mk : outParam (List (α × β) → List Ck)) : Prop where
  perm : ∃ R, L.Perm (MapC enc encv r l :: R) ∧ ∀ l', (MapC enc encv r l' :: R).Perm (mk l')
instance HasM.here {L : List Ck} {r : Nat} {α β : Type} {enc : α → Value} {encv : β → Value} {l : List (α × β)} : HasM (MapC enc encv r l :: L) r α β enc encv l (fun x => MapC enc encv r x :: L) := ⟨⟨L, List.Perm.refl _, fun _ => List.Perm.refl _⟩⟩
instance (priority := low) HasM.there {L : List Ck} {c : Ck} {r : Nat} {α β : Type} {enc : α → Value} {encv : β → Value} {l : List (α × β)} {mk : List (α × β) → List Ck} [h : HasM L r α β enc encv l mk] : HasM (c :: L) r α β enc encv l (fun x => c :: mk x) := by
  obtain ⟨R, h1, h2⟩ := h.perm
  exact ⟨⟨c :: R, (List.Perm.cons c h1).trans (List.Perm.swap _ _ _), fun cs' => (List.Perm.swap _ _ _).trans (List.Perm.cons c (h2 cs'))⟩⟩

section
variable {P : Program} {n : Nat} {f : Fr} {w : World} {o : Oper} {B : Nat} {w0 : World} {L : List Ck}
variable {α β : Type} {enc : α → Value} {encv : β → Value} {r : Nat} {l : List (α × β)} {mk : List (α × β) → List Ck}

theorem Hp.getM (hb : HasM L r α β enc encv l mk) (H : Hp B w0 w L) : ∃ es ck, w.heap[r]? = some (.map es ck) ∧ MapRep enc encv es.toList l ∧ MapKept.Stamped es ck := by
  obtain ⟨R, h1, _⟩ := hb.perm
  exact (H.perm h1).holds _ List.mem_cons_self
theorem run_getObj {o : Obj} (h : w.heap[r]? = some o) (hc : ∀ cs t fr, o ≠ .cells cs t fr) : (getObj r).run P w = .ok o w := by
  cases o <;> first | exact absurd rfl (hc _ _ _) | simp [getObj, Sem.run, h]

/-- what a look-up comes to -/
def mget (encv : β → Value) (zero : Value) (o : Option β) : Value := match o with | some b => encv b | none => zero
theorem run_lookup [DecidableEq α] {t kt et : TypeId} {size bytes : Nat} {zero : Value} (H : Hp B w0 w L) (hT : UT P t (.map kt et)) (hS : TI P et size zero bytes) (K : KeyT P kt enc) (hb : HasM L r α β enc encv l mk) (a : α) (ok : Bool) :
    (Instr.lookup t (.map (some r)) (enc a) ok).run P w = .ok (if ok then .tuple #[mget encv zero (alook a l), .bool (alook a l).isSome] else mget encv zero (alook a l)) w := by
  obtain ⟨es, ck, hes, hrep, hst⟩ := H.getM hb
  obtain ⟨rr, hrr, hh⟩ := findKey_spec K a w es.toList l hrep
  have hg : (getObj r).run P w = .ok (.map es ck) w := run_getObj hes (by intros; simp)
  rcases hh with ⟨h1, h2⟩ | ⟨b, j, h1, h2, _, _, _⟩
  · subst h2
    cases ok <;> simp [Instr.lookup, run_underlying' hT, hg, K.check, hrr, run_zeroValue hS, h1, mget]
  · subst h2
    cases ok <;> simp [Instr.lookup, run_underlying' hT, hg, K.check, hrr, h1, mget]
theorem r_lk2 [DecidableEq α] {t kt et : TypeId} {x y : Operand} {size bytes : Nat} {zero : Value} {a : α} (H : Hp B w0 w L) (K : KeyT P kt enc) (hy : ev n f y = enc a) (ho : o.op = .lookup t x y true := by rfl) (hx : ev n f x = .map (some r) := by rfl)
    (hT : UT P t (.map kt et) := by infer_instance) (hS : TI P et size zero bytes := by infer_instance) (hb : HasM L r α β enc encv l mk := by infer_instance) :
    (execOp (ev n f) o).run P w = .ok (.value (.tuple #[mget encv zero (alook a l), .bool (alook a l).isSome])) w := by
  simp [execOp, ho, hx, hy, run_lookup H hT hS K hb]
theorem r_lk [DecidableEq α] {t kt et : TypeId} {x y : Operand} {size bytes : Nat} {zero : Value} {a : α} (H : Hp B w0 w L) (K : KeyT P kt enc) (hy : ev n f y = enc a) (ho : o.op = .lookup t x y false := by rfl) (hx : ev n f x = .map (some r) := by rfl)
    (hT : UT P t (.map kt et) := by infer_instance) (hS : TI P et size zero bytes := by infer_instance) (hb : HasM L r α β enc encv l mk := by infer_instance) :
    (execOp (ev n f) o).run P w = .ok (.value (mget encv zero (alook a l))) w := by
  simp [execOp, ho, hx, hy, run_lookup H hT hS K hb]
theorem r_lk2s [DecidableEq α] {t kt et : TypeId} {x y : Operand} {size bytes : Nat} {zero : Value} {a : α} {b : β} (H : Hp B w0 w L) (K : KeyT P kt enc) (hl : alook a l = some b) (hy : ev n f y = enc a) (ho : o.op = .lookup t x y true := by rfl) (hx : ev n f x = .map (some r) := by rfl)
    (hT : UT P t (.map kt et) := by infer_instance) (hS : TI P et size zero bytes := by infer_instance) (hb : HasM L r α β enc encv l mk := by infer_instance) :
    (execOp (ev n f) o).run P w = .ok (.value (.tuple #[encv b, .bool true])) w := by
  simp [execOp, ho, hx, hy, run_lookup H hT hS K hb, hl, mget]
theorem r_lk2n [DecidableEq α] {t kt et : TypeId} {x y : Operand} {size bytes : Nat} {zero : Value} {a : α} (H : Hp B w0 w L) (K : KeyT P kt enc) (hl : alook a l = none) (hy : ev n f y = enc a) (ho : o.op = .lookup t x y true := by rfl) (hx : ev n f x = .map (some r) := by rfl)
    (hT : UT P t (.map kt et) := by infer_instance) (hS : TI P et size zero bytes := by infer_instance) (hb : HasM L r α β enc encv l mk := by infer_instance) :
    (execOp (ev n f) o).run P w = .ok (.value (.tuple #[zero, .bool false])) w := by
  simp [execOp, ho, hx, hy, run_lookup H hT hS K hb, hl, mget]
theorem r_lks [DecidableEq α] {t kt et : TypeId} {x y : Operand} {size bytes : Nat} {zero : Value} {a : α} {b : β} (H : Hp B w0 w L) (K : KeyT P kt enc) (hl : alook a l = some b) (hy : ev n f y = enc a) (ho : o.op = .lookup t x y false := by rfl) (hx : ev n f x = .map (some r) := by rfl)
    (hT : UT P t (.map kt et) := by infer_instance) (hS : TI P et size zero bytes := by infer_instance) (hb : HasM L r α β enc encv l mk := by infer_instance) :
    (execOp (ev n f) o).run P w = .ok (.value (encv b)) w := by
  simp [execOp, ho, hx, hy, run_lookup H hT hS K hb, hl, mget]
theorem r_lkn [DecidableEq α] {t kt et : TypeId} {x y : Operand} {size bytes : Nat} {zero : Value} {a : α} (H : Hp B w0 w L) (K : KeyT P kt enc) (hl : alook a l = none) (hy : ev n f y = enc a) (ho : o.op = .lookup t x y false := by rfl) (hx : ev n f x = .map (some r) := by rfl)
    (hT : UT P t (.map kt et) := by infer_instance) (hS : TI P et size zero bytes := by infer_instance) (hb : HasM L r α β enc encv l mk := by infer_instance) :
    (execOp (ev n f) o).run P w = .ok (.value zero) w := by
  simp [execOp, ho, hx, hy, run_lookup H hT hS K hb, hl, mget]
theorem chg_setObj (w : World) (r : Nat) (o : Obj) : Chg (fun k => k = r) w { w with heap := w.heap.setIfInBounds r o } :=
  ⟨by simp, fun k _ hk => by simp only [Array.getElem?_setIfInBounds]; rw [if_neg (fun e => hk e.symm)], rfl, rfl, rfl⟩
theorem run_setObj {o o' : Obj} (h : w.heap[r]? = some o') (hc : ∀ cs t fr, o' ≠ .cells cs t fr) : (setObj r o).run P w = .ok () { w with heap := w.heap.setIfInBounds r o } := by
  cases o' <;> first | exact absurd rfl (hc _ _ _) | simp [setObj, Sem.run, h]
theorem Hp.setM (hb : HasM L r α β enc encv l mk) (H : Hp B w0 w L) {es : Array MapEntry} {ck : Nat} {l' : List (α × β)} (hrep : MapRep enc encv es.toList l') (hst : MapKept.Stamped es ck) : Hp B w0 { w with heap := w.heap.setIfInBounds r (.map es ck) } (mk l') := by
  obtain ⟨es0, ck0, hes, _, _⟩ := H.getM hb
  obtain ⟨R, h1, h2⟩ := hb.perm
  refine ((H.perm h1).upd (c' := MapC enc encv r l') (chg_setObj w r _) ⟨es, ck, ?_, hrep, hst⟩ (fun _ hk => .inl hk)).perm (h2 l')
  simp [lt_of_block hes]
theorem run_mapUpdate [DecidableEq α] {t kt et : TypeId} (H : Hp B w0 w L) (hT : UT P t (.map kt et)) (K : KeyT P kt enc) (hb : HasM L r α β enc encv l mk) (a : α) (b : β) :
    ∃ w', (Instr.mapUpdate t (.map (some r)) (enc a) (encv b)).run P w = .ok () w' ∧ Hp B w0 w' (mk (aput a b l)) := by
  obtain ⟨es, ck, hes, hrep, hst⟩ := H.getM hb
  obtain ⟨rr, hrr, hh⟩ := findKey_spec K a w es.toList l hrep
  have hg : (getObj r).run P w = .ok (.map es ck) w := run_getObj hes (by intros; simp)
  rcases hh with ⟨h1, h2⟩ | ⟨b', j, h1, h2, hj, ⟨e0, he0, hk0⟩, h4⟩
  · subst h2
    refine ⟨_, ?_, H.setM hb (es := es.push { key := enc a, val := encv b, born := ck }) (ck := ck + 1) ?_ (MapKept.stamped_push hst (hrep.fresh K w h1))⟩
    · simp [Instr.mapUpdate, run_underlying' hT, hg, K.check, hrr, run_setObj hes]
    · simpa using hrep.put_new (e := { key := enc a, val := encv b, born := ck }) h1 rfl rfl
  · subst h2
    have hj' : j < es.size := by simpa using hj
    have he0' : es[j]? = some e0 := by simpa using he0
    have hkey : ((es[j]?).map (·.key)).getD (enc a) = enc a := by rw [he0']; exact hk0
    have hsta : (Instr.keyThatStays (enc a) (enc a)).run P w = .ok (enc a) w := by simp [Instr.keyThatStays, K.same]
    refine ⟨_, ?_, H.setM hb (es := es.modify j fun e => { e with key := enc a, val := encv b }) (ck := ck) ?_ (MapKept.stamped_modify hst j _ (fun _ _ => rfl) (fun e _ he => by rw [he0'] at he; cases he; exact hk0.symm))⟩
    · have hso := run_setObj (P := P) (o := .map (es.modify j fun e => { e with key := enc a, val := encv b }) ck) hes (by intros; simp)
      simp only [Instr.mapUpdate, run_underlying' hT, Sem.run_bind, Result.andThen_ok, hg, K.check, hrr, hkey, hsta, hso]
    · rw [Array.toList_modify]
      exact h4 b _ (fun e he => ⟨rfl, rfl⟩)
theorem r_mu [DecidableEq α] {t kt et : TypeId} {x y z : Operand} {a : α} {b : β} (H : Hp B w0 w L) (K : KeyT P kt enc) (ho : o.op = .mapUpdate t x y z := by rfl) (hx : ev n f x = .map (some r) := by rfl)
    (hT : UT P t (.map kt et) := by infer_instance) (hb : HasM L r α β enc encv l mk := by infer_instance) (hy : ev n f y = enc a := by rfl) (hz : ev n f z = encv b := by rfl) :
    ∃ w', (execOp (ev n f) o).run P w = .ok .skip w' ∧ Hp B w0 w' (mk (aput a b l)) := by
  obtain ⟨w', h1, h2⟩ := run_mapUpdate H hT K hb a b
  exact ⟨w', by simp [execOp, ho, hx, hy, hz, h1], h2⟩
theorem MapRep.len {es : List MapEntry} (h : MapRep enc encv es l) : es.length = l.length := by
  have := congrArg List.length h
  simpa using this
theorem r_mlen {x : Operand} {t kt et : TypeId} (H : Hp B w0 w L) (ho : o.op = .call { callee := .builtin .len, args := #[x], argTypes := #[t] } := by rfl) (hx : ev n f x = .map (some r) := by rfl) (hT : UT P t (.map kt et) := by infer_instance) (hb : HasM L r α β enc encv l mk := by infer_instance) :
    (execOp (ev n f) o).run P w = .ok (.value (.int .i64 l.length)) w := by
  obtain ⟨es, ck, hes, hrep, hst⟩ := H.getM hb
  have hg : (getObj r).run P w = .ok (.map es ck) w := run_getObj hes (by intros; simp)
  have := hrep.len
  simp at this
  simp [execOp, ho, resolve, invoke, builtin, hx, Builtin.len_, run_underlying' hT, goInt, hg, this]
theorem r_mm (enc : α → Value) (encv : β → Value) {t : TypeId} (H : Hp B w0 w L) (ho : o.op = .makeMap t none := by rfl) :
    ∃ g w', (execOp (ev n f) o).run P w = .ok (.value (.map (some g))) w' ∧ Hp B w0 w' (MapC enc encv g [] :: L) := by
  refine ⟨w.heap.size, w.alloc (.map #[] 0), ?_, H.new (chg_alloc w _) ⟨#[], 0, heap_alloc_new w _, by simp [MapRep], MapKept.stamped_empty 0⟩ (fun _ hk => Nat.le_of_eq hk.symm)⟩
  simp [execOp, ho, Instr.makeMap]
end
end Wh
